/- Texts of mine for parseMemory_card, part 3. -/
import GoSem.Core.Utf8
import Derived.Test.YtidiahkobapnjaaGreatDoorProg
import Derived.Shelf.Strings.Builder1
import Derived.Shelf.Strings.Builder2
import Derived.Shelf.Small.Utf8
import Derived.Shelf.Small.Strs
import Derived.Shelf.Small.Wraps
import Derived.Shelf.Strings.BuilderF
import Derived.Shelf.Strings.BuilderK
import Derived.Shelf.Strings.Builder2Cap
import Derived.Shelf.Strconv.Itoa0
import Derived.Shelf.Strconv.Itoa1
import Derived.Shelf.LaysM
import Derived.Shelf.Strconv.Itoa2
import Derived.Shelf.Strconv.Itoa3
import Derived.Shelf.Strings.Search1
import Derived.Shelf.Strings.Search2
import Derived.Shelf.Strings.Search3
import Derived.Shelf.Strings.Shaped
import Derived.Shelf.Strings.Prefix
import Derived.Shelf.Strings.Fields
import Derived.Shelf.Strings.SplitShaped
import Derived.Shelf.Unicode.Latin
import Derived.Shelf.Unicode.Decode
import Derived.Shelf.Bits.Mul64
import Derived.Shelf.Strings.Repeat
import Derived.Shelf.Unicode.DecodeSlow
import Derived.Shelf.Unicode.DecodeAny
import Derived.Shelf.Unicode.Is16White
import Derived.Shelf.Unicode.IsSpaceAny
import Derived.Shelf.Unicode.Is16WhiteD
import Derived.Shelf.Unicode.IsSpaceAnyD
import Derived.Shelf.Strings.FieldsAny
import Derived.Shelf.Strings.FieldsFuncAny
import Derived.Shelf.Unicode.Is16Any
import Derived.Shelf.Unicode.Is32Any
import Derived.Shelf.Unicode.ExclAny
import Derived.Shelf.Strings.BuilderCap
import Derived.Laws.MathBits
import Derived.Test.YtidiahkobapnjaaGreatDoorMeB
set_option linter.unusedSimpArgs false
set_option linter.unusedVariables false
set_option linter.unusedSectionVars false
namespace Go.Proofs.YtidiahkobapnjaaGreatDoor
open Go Go.RowKit
structure RS where
 r12_reader_block : (a0_0 : List (Int × ByteArray × Int × Int)) → (a0_1 : Int) → (a0_2 : Int) → (a1 : Bool) → Option (Int × ByteArray × Int × Int × List Tree × Int × Int)
 r12_reader_stat : (a0_0 : List (Int × ByteArray × Int × Int)) → (a0_1 : Int) → (a0_2 : Int) → (a1 : Int) → Option (Int × ByteArray × Int × Int × List Tree × Int × Int)
 r12_reader_loop : (a0_0 : List (Int × ByteArray × Int × Int)) → (a0_1 : Int) → (a0_2 : Int) → (a1 : Int) → Option (Int × ByteArray × Int × Int × List Tree × Int × Int)
 r12_reader_plain : (a0_0 : List (Int × ByteArray × Int × Int)) → (a0_1 : Int) → (a0_2 : Int) → (a1 : Int) → Option (Int × ByteArray × Int × Int × List Tree × Int × Int)
 r12_reader_body : (a0_0 : List (Int × ByteArray × Int × Int)) → (a0_1 : Int) → (a0_2 : Int) → Option (Int × ByteArray × Int × Int × List Tree × Int × Int)
structure RS.Good (R : RS) : Prop where
 r12_reader_block : ∀ {a0_0 : List (Int × ByteArray × Int × Int)} {a0_1 : Int} {a0_2 : Int} {a1 : Bool} {b0 : Nat} {H_a0_0 : Frag} {A_a0_0 : Option Addr} {c_a0_0 : Nat} {r : Int × ByteArray × Int × Int × List Tree × Int × Int} (h : R.r12_reader_block a0_0 a0_1 a0_2 a1 = some r) (R_a0_0 : RdT e59 4 H_a0_0 (.slice A_a0_0 a0_0.length c_a0_0) a0_0), Ct Tryz.prog 15 #[pt b0, bv a1] [bk b0 #[.slice A_a0_0 a0_0.length c_a0_0, iv a0_1, iv a0_2] 57] [H_a0_0] (fun e l1 => ∃ (H0_ : Frag) (A0_ : Option Addr) (c0_ : Nat), OwnR (rTree 32) 32 H0_ (.slice A0_ r.2.2.2.2.1.length c0_) r.2.2.2.2.1 ∧ e = .returned (.agg #[iv r.1, sv r.2.1, iv r.2.2.1, iv r.2.2.2.1, .slice A0_ r.2.2.2.2.1.length c0_]) ∧ l1 = [H0_, bk b0 #[.slice A_a0_0 a0_0.length c_a0_0, iv r.2.2.2.2.2.1, iv r.2.2.2.2.2.2] 57])
 r12_reader_stat : ∀ {a0_0 : List (Int × ByteArray × Int × Int)} {a0_1 : Int} {a0_2 : Int} {a1 : Int} {b0 : Nat} {H_a0_0 : Frag} {A_a0_0 : Option Addr} {c_a0_0 : Nat} {r : Int × ByteArray × Int × Int × List Tree × Int × Int} (h : R.r12_reader_stat a0_0 a0_1 a0_2 a1 = some r) (R_a0_0 : RdT e59 4 H_a0_0 (.slice A_a0_0 a0_0.length c_a0_0) a0_0), Ct Tryz.prog 44 #[pt b0, iv a1] [bk b0 #[.slice A_a0_0 a0_0.length c_a0_0, iv a0_1, iv a0_2] 57] [H_a0_0] (fun e l1 => ∃ (H0_ : Frag) (A0_ : Option Addr) (c0_ : Nat), OwnR (rTree 32) 32 H0_ (.slice A0_ r.2.2.2.2.1.length c0_) r.2.2.2.2.1 ∧ e = .returned (.agg #[iv r.1, sv r.2.1, iv r.2.2.1, iv r.2.2.2.1, .slice A0_ r.2.2.2.2.1.length c0_]) ∧ l1 = [H0_, bk b0 #[.slice A_a0_0 a0_0.length c_a0_0, iv r.2.2.2.2.2.1, iv r.2.2.2.2.2.2] 57])
 r12_reader_loop : ∀ {a0_0 : List (Int × ByteArray × Int × Int)} {a0_1 : Int} {a0_2 : Int} {a1 : Int} {b0 : Nat} {H_a0_0 : Frag} {A_a0_0 : Option Addr} {c_a0_0 : Nat} {r : Int × ByteArray × Int × Int × List Tree × Int × Int} (h : R.r12_reader_loop a0_0 a0_1 a0_2 a1 = some r) (R_a0_0 : RdT e59 4 H_a0_0 (.slice A_a0_0 a0_0.length c_a0_0) a0_0), Ct Tryz.prog 71 #[pt b0, iv a1] [bk b0 #[.slice A_a0_0 a0_0.length c_a0_0, iv a0_1, iv a0_2] 57] [H_a0_0] (fun e l1 => ∃ (H0_ : Frag) (A0_ : Option Addr) (c0_ : Nat), OwnR (rTree 32) 32 H0_ (.slice A0_ r.2.2.2.2.1.length c0_) r.2.2.2.2.1 ∧ e = .returned (.agg #[iv r.1, sv r.2.1, iv r.2.2.1, iv r.2.2.2.1, .slice A0_ r.2.2.2.2.1.length c0_]) ∧ l1 = [H0_, bk b0 #[.slice A_a0_0 a0_0.length c_a0_0, iv r.2.2.2.2.2.1, iv r.2.2.2.2.2.2] 57])
 r12_reader_plain : ∀ {a0_0 : List (Int × ByteArray × Int × Int)} {a0_1 : Int} {a0_2 : Int} {a1 : Int} {b0 : Nat} {H_a0_0 : Frag} {A_a0_0 : Option Addr} {c_a0_0 : Nat} {r : Int × ByteArray × Int × Int × List Tree × Int × Int} (h : R.r12_reader_plain a0_0 a0_1 a0_2 a1 = some r) (R_a0_0 : RdT e59 4 H_a0_0 (.slice A_a0_0 a0_0.length c_a0_0) a0_0), Ct Tryz.prog 72 #[pt b0, iv a1] [bk b0 #[.slice A_a0_0 a0_0.length c_a0_0, iv a0_1, iv a0_2] 57] [H_a0_0] (fun e l1 => ∃ (H0_ : Frag) (A0_ : Option Addr) (c0_ : Nat), OwnR (rTree 32) 32 H0_ (.slice A0_ r.2.2.2.2.1.length c0_) r.2.2.2.2.1 ∧ e = .returned (.agg #[iv r.1, sv r.2.1, iv r.2.2.1, iv r.2.2.2.1, .slice A0_ r.2.2.2.2.1.length c0_]) ∧ l1 = [H0_, bk b0 #[.slice A_a0_0 a0_0.length c_a0_0, iv r.2.2.2.2.2.1, iv r.2.2.2.2.2.2] 57])
 r12_reader_body : ∀ {a0_0 : List (Int × ByteArray × Int × Int)} {a0_1 : Int} {a0_2 : Int} {b0 : Nat} {H_a0_0 : Frag} {A_a0_0 : Option Addr} {c_a0_0 : Nat} {r : Int × ByteArray × Int × Int × List Tree × Int × Int} (h : R.r12_reader_body a0_0 a0_1 a0_2 = some r) (R_a0_0 : RdT e59 4 H_a0_0 (.slice A_a0_0 a0_0.length c_a0_0) a0_0), Ct Tryz.prog 70 #[pt b0] [bk b0 #[.slice A_a0_0 a0_0.length c_a0_0, iv a0_1, iv a0_2] 57] [H_a0_0] (fun e l1 => ∃ (H0_ : Frag) (A0_ : Option Addr) (c0_ : Nat), OwnR (rTree 32) 32 H0_ (.slice A0_ r.2.2.2.2.1.length c0_) r.2.2.2.2.1 ∧ e = .returned (.agg #[iv r.1, sv r.2.1, iv r.2.2.1, iv r.2.2.2.1, .slice A0_ r.2.2.2.2.1.length c0_]) ∧ l1 = [H0_, bk b0 #[.slice A_a0_0 a0_0.length c_a0_0, iv r.2.2.2.2.2.1, iv r.2.2.2.2.2.2] 57])
def r12_reader_block.l0 : Nat → (Rc : RS) → (a0_0 : List (Int × ByteArray × Int × Int)) → (a1 : Bool) → (r2 : Int) → (J11 : (List Tree) → Int → Int → Option (Int × ByteArray × Int × Int × List Tree × Int × Int)) → (l12 : List Tree) → (x17 : Int) → (x18 : Int) → Option (Int × ByteArray × Int × Int × List Tree × Int × Int)
 | 0, _, _, _, _, _, _, _, _ => none
 | m19 + 1, Rc, a0_0, a1, r2, J11, l12, x17, x18 => (r12_reader_end.f m19 a0_0 x17 x18).bind fun r20 => cond (!r20) ((r12_reader_at.f m19 a0_0 x17 x18).bind fun r22 => (r12_reader_take.f m19 a0_0 x17 x18 (⟨#[59]⟩ : ByteArray)).bind fun r23 => cond r23.1 (r12_reader_block.l0 m19 Rc a0_0 a1 r2 J11 l12 r23.2 x18) ((r12_reader_take.f m19 a0_0 r23.2 x18 (⟨#[114, 101, 116, 117, 114, 110]⟩ : ByteArray)).bind fun r25 => cond r25.1 (joinF (fun (l28 : List Tree) (x33 : Int) (x34 : Int) => (r12_reader_take.f m19 a0_0 x33 x34 (⟨#[59]⟩ : ByteArray)).bind fun r36 => (apd 64 l12 [(Tree.mk 30 (⟨#[]⟩ : ByteArray) 0 r22 l28)]).bind fun l40 => some (20, (⟨#[]⟩ : ByteArray), 0, r2, l40, r36.2, x34)) (fun J35 => ((r12_reader_end.f m19 a0_0 r25.2 x18).bind fun r52 => cond (!r52) ((r12_reader_see.f m19 a0_0 r25.2 x18 (⟨#[59]⟩ : ByteArray)).bind fun r54 => some (!r54)) (some false) : Option Bool).bind fun q45 => cond q45 ((r12_reader_list.f m19 a0_0 r25.2 x18).bind fun r47 => J35 r47.1 r47.2.1 r47.2.2) (J35 ([]) r25.2 x18))) (joinF (fun (x55 : Bool) (x56 : Int) => cond x55 ((r12_reader_name.f m19 a0_0 x56 x18 6).bind fun r60 => (r12_reader_need.f m19 a0_0 r60.2.2.2.2.2.1 r60.2.2.2.2.2.2 (⟨#[40]⟩ : ByteArray)).bind fun r65 => joinF (fun (x66 : Int) (x67 : Int) (l68 : List Tree) => (r12_reader_need.f m19 a0_0 x66 x67 (⟨#[41]⟩ : ByteArray)).bind fun r74 => (Rc.r12_reader_block a0_0 r74.1 r74.2 false).bind fun r75 => (apd 64 l68 [(Tree.mk r75.1 r75.2.1 r75.2.2.1 r75.2.2.2.1 r75.2.2.2.2.1)]).bind fun l83 => (r12_reader_need.f m19 a0_0 r75.2.2.2.2.2.1 r75.2.2.2.2.2.2 (⟨#[101, 110, 100]⟩ : ByteArray)).bind fun r88 => (apd 64 l12 [(Tree.mk 31 r60.2.1 ((l68.length : Nat) : Int) r22 l83)]).bind fun l92 => r12_reader_block.l0 m19 Rc a0_0 a1 r2 J11 l92 r88.1 r88.2) (fun J73 => (r12_reader_see.f m19 a0_0 r65.1 r65.2 (⟨#[41]⟩ : ByteArray)).bind fun r97 => cond (!r97) ((r12_reader_names.f m19 a0_0 r65.1 r65.2).bind fun r99 => J73 r99.2.1 r99.2.2 r99.1) (J73 r65.1 r65.2 ([])))) ((Rc.r12_reader_stat a0_0 x56 x18 r22).bind fun r104 => (apd 64 l12 [(Tree.mk r104.1 r104.2.1 r104.2.2.1 r104.2.2.2.1 r104.2.2.2.2.1)]).bind fun l112 => r12_reader_block.l0 m19 Rc a0_0 a1 r2 J11 l112 r104.2.2.2.2.2.1 r104.2.2.2.2.2.2)) (fun J57 => cond a1 ((r12_reader_take.f m19 a0_0 r25.2 x18 (⟨#[102, 117, 110, 99, 116, 105, 111, 110]⟩ : ByteArray)).bind fun r118 => J57 r118.1 r118.2) (J57 false r25.2))))) (J11 l12 x17 x18)
def r12_reader_block.g (Rc : RS) (k : Nat) (a0_0 : List (Int × ByteArray × Int × Int)) (a0_1 : Int) (a0_2 : Int) (a1 : Bool) : Option (Int × ByteArray × Int × Int × List Tree × Int × Int) := (r12_reader_at.f k a0_0 a0_1 a0_2).bind fun r2 => joinF (fun (l4 : List Tree) (x9 : Int) (x10 : Int) => some (20, (⟨#[]⟩ : ByteArray), 0, r2, l4, x9, x10)) (fun J11 => r12_reader_block.l0 k Rc a0_0 a1 r2 J11 ([]) a0_1 a0_2)
set_option maxRecDepth 100000 in
theorem r12_reader_block.okg {Rc : RS} (hR : Rc.Good) {k : Nat} {a0_0 : List (Int × ByteArray × Int × Int)} {a0_1 : Int} {a0_2 : Int} {a1 : Bool} {b0 : Nat} {H_a0_0 : Frag} {A_a0_0 : Option Addr} {c_a0_0 : Nat} {r : Int × ByteArray × Int × Int × List Tree × Int × Int} (h : r12_reader_block.g Rc k a0_0 a0_1 a0_2 a1 = some r) (R_a0_0 : RdT e59 4 H_a0_0 (.slice A_a0_0 a0_0.length c_a0_0) a0_0) : Ct Tryz.prog 15 #[pt b0, bv a1] [bk b0 #[.slice A_a0_0 a0_0.length c_a0_0, iv a0_1, iv a0_2] 57] [H_a0_0] (fun e l1 => ∃ (H0_ : Frag) (A0_ : Option Addr) (c0_ : Nat), OwnR (rTree 32) 32 H0_ (.slice A0_ r.2.2.2.2.1.length c0_) r.2.2.2.2.1 ∧ e = .returned (.agg #[iv r.1, sv r.2.1, iv r.2.2.1, iv r.2.2.2.1, .slice A0_ r.2.2.2.2.1.length c0_]) ∧ l1 = [H0_, bk b0 #[.slice A_a0_0 a0_0.length c_a0_0, iv r.2.2.2.2.2.1, iv r.2.2.2.2.2.2] 57]) := by
 refine ct_enter (args := [pt b0, bv a1]) Tryz.func15 rfl (Nat.le_of_ble_eq_true rfl) ?_
 intro A X hh_
 obtain ⟨hm_H_a0_0, _⟩ := hh_
 unfold r12_reader_block.g at h
 refine K.eq (env' := [(0, pt b0), (1, bv a1)]) (l' := bk b0 #[.slice A_a0_0 a0_0.length c_a0_0, iv a0_1, iv a0_2] 57 :: X) rfl rfl (ksr (knp #[iv 0, sv noS, iv 0, iv 0, nS] 32 fun b1 => (kns' (kx 1 (K.mv1 (bnd h fun r2 hr2 h => (kc1 (r12_reader_at.ok (b0 := b0) hr2 R_a0_0) rfl ⟨(.tail _ hm_H_a0_0), trivial⟩ (kx 1 (knp #[iv 0, sv noS, iv 0, iv 0, nS] 32 fun b3 => (kst 0 5 #[iv 20, sv noS, iv 0, iv r2, nS] ?_))))))))))
 refine knt ?_
 obtain ⟨J11, hJ11, h⟩ := joinSplit h
 refine k_cut (τ := (List Tree) × Int × Int × Frag × (Option Addr) × Nat) (fun t => [(4, pt b1), (5, pt b3)]) (fun t => bk b3 #[iv 20, sv noS, iv 0, iv r2, .slice t.2.2.2.2.1 t.1.length t.2.2.2.2.2] 32 :: bk b0 #[.slice A_a0_0 a0_0.length c_a0_0, iv t.2.1, iv t.2.2.1] 57 :: bk b1 #[iv 0, sv noS, iv 0, iv 0, nS] 32 :: t.2.2.2.1 :: X) (fun t => J11 t.1 t.2.1 t.2.2.1 = some r ∧ OwnR (rTree 32) 32 t.2.2.2.1 (.slice t.2.2.2.2.1 t.1.length t.2.2.2.2.2) t.1) ?_ ?_
 ·rintro ⟨l4, x9, x10, h5, A6, k7⟩ ⟨h, o8⟩
  subst hJ11
  refine ksr (kla 0 0 5 rfl (K.drop (K.mv1 (kst 0 5 #[iv 20, sv noS, iv 0, iv r2, .slice A6 l4.length k7] (knt (k_ret ?_))))))
  obtain rfl := Option.some.inj h
  exact kda 0 5 rfl [h5, bk b0 #[.slice A_a0_0 a0_0.length c_a0_0, iv x9, iv x10] 57] (K.drop (K.mv1 (k_end ⟨h5, A6, k7, o8, rfl, rfl⟩)))
 ·skip
  refine k_block (k_none (K.mv3 (K.mv3 (K.mv3 (k_loop (τ := (List Tree) × Int × Int × Frag × (Option Addr) × Nat) (fun t => [(0, pt b0), (1, bv a1), (4, pt b1), (5, pt b3)]) (fun t => bk b3 #[iv 20, sv noS, iv 0, iv r2, .slice t.2.2.2.2.1 t.1.length t.2.2.2.2.2] 32 :: bk b0 #[.slice A_a0_0 a0_0.length c_a0_0, iv t.2.1, iv t.2.2.1] 57 :: bk b1 #[iv 0, sv noS, iv 0, iv 0, nS] 32 :: t.2.2.2.1 :: X) (fun m t => r12_reader_block.l0 m Rc a0_0 a1 r2 J11 t.1 t.2.1 t.2.2.1 = some r ∧ OwnR (rTree 32) 32 t.2.2.2.1 (.slice t.2.2.2.2.1 t.1.length t.2.2.2.2.2) t.1) k ([], a0_1, a0_2, none_, none, 0) ⟨h, (OwnR.nil (rTree 32) 32 none_)⟩ sb rfl ?_)))))
  clear h
  rintro m19 ⟨l12, x17, x18, h13, A14, k15⟩ ⟨h, o16⟩
  cases m19 with
  | zero => simp [r12_reader_block.l0] at h
  | succ m19 =>
   simp only [r12_reader_block.l0] at h
   refine k_seq (ksr (kx 1 (K.mv1 (bnd h fun r20 hr20 h => (kc1 (r12_reader_end.ok (b0 := b0) hr20 R_a0_0) rfl ⟨(t3 hm_H_a0_0), trivial⟩ (kx 1 (knt ?_)))))))
   refine kcn h (fun h => ?_) fun h => ?_
   ·refine k_skip (k_then (k_block (ksr (kx 1 (bnd h fun r22 hr22 h => (kc1 (r12_reader_at.ok (b0 := b0) hr22 R_a0_0) rfl ⟨(t3 hm_H_a0_0), trivial⟩ (kx 1 (knt (k_seq (ksr ?_))))))))))
    refine kx 1 (bnd h fun r23 hr23 h => (kc1 (r12_reader_take.ok (b0 := b0) hr23 R_a0_0) rfl ⟨(t3 hm_H_a0_0), trivial⟩ (knt ?_)))
    refine kcn h (fun h => ?_) fun h => ?_
    ·exact k_exit (k_then_exit (k_here (k_then (K.mv3 (K.mv3 (K.mv2 (K.mv3 (k_again m19 (l12, r23.2, x18, h13, A14, k15) (Nat.lt_succ_self _) ⟨h, o16⟩ sb rfl))))))))
    ·refine k_skip (k_then (k_seq (ksr (kx 1 (bnd h fun r25 hr25 h => (kc1 (r12_reader_take.ok (b0 := b0) hr25 R_a0_0) rfl ⟨(t3 hm_H_a0_0), trivial⟩ (knt ?_)))))))
     refine kcn h (fun h => ?_) fun h => ?_
     ·refine ksr (kx 2 (knp #[iv 0, sv noS, iv 0, iv 0, nS] 32 fun b27 => (kst 0 5 #[iv 30, sv noS, iv 0, iv r22, nS] (knt ?_))))
      obtain ⟨J35, hJ35, h⟩ := joinSplit h
      refine k_cut (τ := (List Tree) × Int × Int × Frag × (Option Addr) × Nat) (fun t => [(0, pt b0), (4, pt b1), (5, pt b3), (7, pt b27)]) (fun t => bk b27 #[iv 30, sv noS, iv 0, iv r22, .slice t.2.2.2.2.1 t.1.length t.2.2.2.2.2] 32 :: bk b0 #[.slice A_a0_0 a0_0.length c_a0_0, iv t.2.1, iv t.2.2.1] 57 :: bk b3 #[iv 20, sv noS, iv 0, iv r2, .slice A14 l12.length k15] 32 :: bk b1 #[iv 0, sv noS, iv 0, iv 0, nS] 32 :: h13 :: t.2.2.2.1 :: X) (fun t => J35 t.1 t.2.1 t.2.2.1 = some r ∧ OwnR (rTree 32) 32 t.2.2.2.1 (.slice t.2.2.2.2.1 t.1.length t.2.2.2.2.2) t.1) ?_ ?_
      ·rintro ⟨l28, x33, x34, h29, A30, k31⟩ ⟨h, o32⟩
       subst hJ35
       refine ksr (kx 1 (K.mv1 (bnd h fun r36 hr36 h => (kc1 (r12_reader_take.ok (b0 := b0) hr36 R_a0_0) rfl ⟨(t5 hm_H_a0_0), trivial⟩ (kns' (kx 1 (kld 2 4 rfl (kla 1 0 5 rfl (K.mv1 (K.drop ?_))))))))))
       refine kns #[iv 30, sv noS, iv 0, iv r22, .slice A30 l28.length k31] 32 1 fun b37 => (K.mvN [_, _, _, _, _] _ _ (K.mv1 (k_row (T := 32) (n := 1) (xs := [(Tree.mk 30 (⟨#[]⟩ : ByteArray) 0 r22 l28)]) (RowI.one (treeO_mk (k := 30) (t := (⟨#[]⟩ : ByteArray)) (n := 0) (a := r22) 32 o32)) rfl rfl (Nat.le_of_ble_eq_true rfl) fun h38 o39 => (K.mv4 (bnd h fun l40 hl40 h => (kapR rfl ety30 rfl hl40 o16 o39 fun h41 A42 k43 o44 => (kx 1 (K.mv2 (kst 4 1 #[iv 20, sv noS, iv 0, iv r2, .slice A42 l40.length k43] (kns' ?_))))))))))
       refine kla 0 0 5 rfl (K.drop (K.mv2 (kst 0 5 #[iv 20, sv noS, iv 0, iv r2, .slice A42 l40.length k43] (knt (k_ret (k_then_ret (k_blk_ret (k_then_ret (k_blk_ret (k_then_ret ?_))))))))))
       obtain rfl := Option.some.inj h
       exact kda 0 5 rfl [h41, bk b0 #[.slice A_a0_0 a0_0.length c_a0_0, iv r36.2, iv x34] 57] (K.drop (k_end ⟨h41, A42, k43, o44, rfl, rfl⟩))
      ·skip
       refine bnd h fun q45 hq45 h => ?_
       refine k_cut1 [(0, pt b0), (4, pt b1), (5, pt b3), (7, pt b27), (30, bv q45)] (bk b27 #[iv 30, sv noS, iv 0, iv r22, nS] 32 :: bk b0 #[.slice A_a0_0 a0_0.length c_a0_0, iv r25.2, iv x18] 57 :: bk b3 #[iv 20, sv noS, iv 0, iv r2, .slice A14 l12.length k15] 32 :: bk b1 #[iv 0, sv noS, iv 0, iv 0, nS] 32 :: h13 :: X) ?_ ?_
       ·clear hq45
        refine kcn h (fun h => ?_) fun h => ?_
        ·refine k_region (kx 1 (K.mv1 (bnd h fun r47 hr47 h => (kcl (r12_reader_list.ok (b0 := b0) hr47 R_a0_0) rfl ⟨(t4 hm_H_a0_0), trivial⟩ ?_))))
         rintro _ _ ⟨h48, A49, k50, o51, rfl, rfl⟩
         refine nx_ret2 (kx 1 (K.mv2 (kst 4 1 #[iv 30, sv noS, iv 0, iv r22, .slice A49 r47.1.length k50] (knt (K.mv1 (K.mvN [_, _, _, _, _] _ _ (K.mvN [_, _, _, _, _] _ _ (K.mvN [_, _, _, _, _] _ _ (K.mvN [_, _, _, _, _] _ _ (K.mvN [_, _, _, _, _] _ _ ?_))))))))))
         exact k_meet (r47.1, r47.2.1, r47.2.2, h48, A49, k50) ⟨h, o51⟩ sb rfl
        ·exact k_skip (k_then (k_none (K.mvN [_, _, _, _, _] _ _ (K.mvN [_, _, _, _, _] _ _ (K.mvN [_, _, _, _, _] _ _ (K.mvN [_, _, _, _, _] _ _ (K.mvN [_, _, _, _, _] _ _ (k_meet ([], r25.2, x18, none_, none, 0) ⟨h, (OwnR.nil (rTree 32) 32 none_)⟩ sb rfl))))))))
       ·have h := hq45
        clear hq45
        refine k_region (kx 1 (K.mv1 (bnd h fun r52 hr52 h => (kc1 (r12_reader_end.ok (b0 := b0) hr52 R_a0_0) rfl ⟨(t4 hm_H_a0_0), trivial⟩ (kx 2 ?_)))))
        refine kcs 26 h (fun h => ?_) fun h => ?_
        ·exact kx 1 (bnd h fun r54 hr54 h => (kc1 (r12_reader_see.ok (b0 := b0) hr54 R_a0_0) rfl ⟨(t4 hm_H_a0_0), trivial⟩ (kx 2 (knt (K.mv4 (K.mv4 (K.mv4 (K.mv3 (K.mv4 (k_meet1 ⟨gr, gr, gr, gr, gb (Option.some.inj h), trivial⟩))))))))))
        ·exact kx 4 (knt (K.mv4 (K.mv4 (K.mv4 (K.mv3 (K.mv4 (k_meet1 ⟨gr, gr, gr, gr, gb (Option.some.inj h), trivial⟩)))))))
     ·refine k_skip (k_then (k_seq ?_))
      obtain ⟨J57, hJ57, h⟩ := joinSplit h
      refine k_cut (τ := Bool × Int) (fun t => [(0, pt b0), (1, bv a1), (4, pt b1), (5, pt b3), (6, iv r22), (47, bv t.1)]) (fun t => bk b0 #[.slice A_a0_0 a0_0.length c_a0_0, iv t.2, iv x18] 57 :: bk b3 #[iv 20, sv noS, iv 0, iv r2, .slice A14 l12.length k15] 32 :: bk b1 #[iv 0, sv noS, iv 0, iv 0, nS] 32 :: h13 :: X) (fun t => J57 t.1 t.2 = some r) ?_ ?_
      ·rintro ⟨x55, x56⟩ h
       subst hJ57
       refine kcn h (fun h => ?_) fun h => ?_
       ·refine ksr (kx 2 (knp #[iv 0, sv noS, iv 0, iv 0, nS] 32 fun b59 => (kst 0 5 #[iv 31, sv noS, iv 0, iv r22, nS] (kns' (kx 1 (K.mv1 (bnd h fun r60 hr60 h => (kcl (r12_reader_name.ok (b0 := b0) hr60 R_a0_0) rfl ⟨(t4 hm_H_a0_0), trivial⟩ ?_))))))))
        rintro _ _ ⟨h61, A62, k63, o64, rfl, rfl⟩
        refine nx_ret2 (kx 2 (K.mv2 (kst 1 1 #[iv 31, sv r60.2.1, iv 0, iv r22, nS] (K.mv1 (K.drop (kns' (kx 1 (K.mv1 (bnd h fun r65 hr65 h => (kc1 (r12_reader_need.ok (b0 := b0) hr65 R_a0_0) rfl ⟨(t4 hm_H_a0_0), trivial⟩ ?_))))))))))
        refine knt ?_
        obtain ⟨J73, hJ73, h⟩ := joinSplit h
        refine k_cut (τ := Int × Int × (List Tree) × Frag × (Option Addr) × Nat) (fun t => [(0, pt b0), (1, bv a1), (4, pt b1), (5, pt b3), (8, pt b59)]) (fun t => bk b0 #[.slice A_a0_0 a0_0.length c_a0_0, iv t.1, iv t.2.1] 57 :: bk b59 #[iv 31, sv r60.2.1, iv 0, iv r22, .slice t.2.2.2.2.1 t.2.2.1.length t.2.2.2.2.2] 32 :: bk b3 #[iv 20, sv noS, iv 0, iv r2, .slice A14 l12.length k15] 32 :: bk b1 #[iv 0, sv noS, iv 0, iv 0, nS] 32 :: h13 :: t.2.2.2.1 :: X) (fun t => J73 t.1 t.2.1 t.2.2.1 = some r ∧ OwnR (rTree 32) 32 t.2.2.2.1 (.slice t.2.2.2.2.1 t.2.2.1.length t.2.2.2.2.2) t.2.2.1) ?_ ?_
        ·rintro ⟨x66, x67, l68, h69, A70, k71⟩ ⟨h, o72⟩
         subst hJ73
         refine ksr (kx 1 (kld 1 4 rfl (kx 2 (K.mv1 (kst 2 1 #[iv 31, sv r60.2.1, iv ((l68.length : Nat) : Int), iv r22, .slice A70 l68.length k71] (kns' (kx 1 (K.mv1 (bnd h fun r74 hr74 h => (kc1 (r12_reader_need.ok (b0 := b0) hr74 R_a0_0) rfl ⟨(t5 hm_H_a0_0), trivial⟩ ?_))))))))))
         refine knt (k_seq (kpr [(0, 0), (1, 3), (2, 0), (3, 1), (4, 1)] [1] (kpx 1 (kpd 0 4 rfl (kpx 1 (kpt (bnd h fun r75 hr75 h => (ocl (hR.r12_reader_block (b0 := b0) hr75 R_a0_0) rfl ⟨(t5 hm_H_a0_0), trivial⟩ ?_))))))))
         rintro _ _ ⟨h76, A77, k78, o79, rfl, rfl⟩
         refine nx_ret2 (kan [2] rfl (kpt (ons #[iv r75.1, sv r75.2.1, iv r75.2.2.1, iv r75.2.2.2.1, .slice A77 r75.2.2.2.2.1.length k78] 32 1 fun b80 => (kan [3] rfl (kpz (K.mv1 (K.mv1 (k_row (T := 32) (n := 1) (xs := [(Tree.mk r75.1 r75.2.1 r75.2.2.1 r75.2.2.2.1 r75.2.2.2.2.1)]) (RowI.one (treeO_mk (k := r75.1) (t := r75.2.1) (n := r75.2.2.1) (a := r75.2.2.2.1) 32 o79)) rfl rfl (Nat.le_of_ble_eq_true rfl) fun h81 o82 => (K.mvN [_, _, _, _, _, _] _ _ (bnd h fun l83 hl83 h => ?_))))))))))
         refine kapR rfl ety30 rfl hl83 o72 o82 fun h84 A85 k86 o87 => (kx 1 (K.mv2 (kst 4 1 #[iv 31, sv r60.2.1, iv ((l68.length : Nat) : Int), iv r22, .slice A85 l83.length k86] (kns' (kx 1 (K.mv2 (bnd h fun r88 hr88 h => (kc1 (r12_reader_need.ok (b0 := b0) hr88 R_a0_0) rfl ⟨(t5 hm_H_a0_0), trivial⟩ (kns' (kx 1 ?_))))))))))
         refine kld 3 4 rfl (kla 1 0 5 rfl (K.mv1 (K.drop (kns #[iv 31, sv r60.2.1, iv ((l68.length : Nat) : Int), iv r22, .slice A85 l83.length k86] 32 1 fun b89 => (K.mv2 (K.mv1 (k_row (T := 32) (n := 1) (xs := [(Tree.mk 31 r60.2.1 ((l68.length : Nat) : Int) r22 l83)]) (RowI.one (treeO_mk (k := 31) (t := r60.2.1) (n := ((l68.length : Nat) : Int)) (a := r22) 32 o87)) rfl rfl (Nat.le_of_ble_eq_true rfl) fun h90 o91 => (K.mv4 (bnd h fun l92 hl92 h => (kapR rfl ety30 rfl hl92 o16 o91 fun h93 A94 k95 o96 => ?_))))))))))
         refine kx 1 (K.mv2 (kst 4 1 #[iv 20, sv noS, iv 0, iv r2, .slice A94 l92.length k95] (knt (k_exit (k_then_exit (k_here (k_then (K.mv1 (K.mv3 (K.mv3 ?_))))))))))
         exact K.mv3 (k_again m19 (l92, r88.1, r88.2, h93, A94, k95) (Nat.lt_succ_self _) ⟨h, o96⟩ sb rfl)
        ·skip
         refine ksr (kx 1 (bnd h fun r97 hr97 h => (kc1 (r12_reader_see.ok (b0 := b0) hr97 R_a0_0) rfl ⟨(t4 hm_H_a0_0), trivial⟩ (kx 1 (knt ?_)))))
         refine kcn h (fun h => ?_) fun h => ?_
         ·refine k_region (kx 1 (bnd h fun r99 hr99 h => (kcl (r12_reader_names.ok (b0 := b0) hr99 R_a0_0) rfl ⟨(t4 hm_H_a0_0), trivial⟩ ?_)))
          rintro _ _ ⟨h100, A101, k102, o103, rfl, rfl⟩
          refine nx_ret2 (kx 1 (K.mv2 (kst 4 1 #[iv 31, sv r60.2.1, iv 0, iv r22, .slice A101 r99.1.length k102] (knt (K.mv1 (K.mvN [_, _, _, _, _] _ _ (K.mvN [_, _, _, _, _] _ _ (K.mvN [_, _, _, _, _] _ _ (K.mv4 (K.mvN [_, _, _, _, _] _ _ ?_))))))))))
          exact k_meet (r99.2.1, r99.2.2, r99.1, h100, A101, k102) ⟨h, o103⟩ sb rfl
         ·exact k_skip (k_then (k_none (K.mvN [_, _, _, _, _] _ _ (K.mvN [_, _, _, _, _] _ _ (K.mvN [_, _, _, _, _] _ _ (K.mvN [_, _, _, _, _] _ _ (K.mvN [_, _, _, _, _] _ _ (k_meet (r65.1, r65.2, [], none_, none, 0) ⟨h, (OwnR.nil (rTree 32) 32 none_)⟩ sb rfl))))))))
       ·refine k_skip (k_then (kpr [(0, 0), (1, 3), (2, 0), (3, 0), (4, 1), (5, 1)] [1] (kpx 1 (kpd 0 4 rfl (kpx 2 (kpt (bnd h fun r104 hr104 h => (ocl (hR.r12_reader_stat (b0 := b0) hr104 R_a0_0) rfl ⟨(t3 hm_H_a0_0), trivial⟩ ?_))))))))
        rintro _ _ ⟨h105, A106, k107, o108, rfl, rfl⟩
        refine nx_ret2 (kan [2] rfl (kpt (ons #[iv r104.1, sv r104.2.1, iv r104.2.2.1, iv r104.2.2.2.1, .slice A106 r104.2.2.2.2.1.length k107] 32 1 fun b109 => (kan [3] rfl (kpz (K.mv1 (K.mv1 (k_row (T := 32) (n := 1) (xs := [(Tree.mk r104.1 r104.2.1 r104.2.2.1 r104.2.2.2.1 r104.2.2.2.2.1)]) (RowI.one (treeO_mk (k := r104.1) (t := r104.2.1) (n := r104.2.2.1) (a := r104.2.2.2.1) 32 o108)) rfl rfl (Nat.le_of_ble_eq_true rfl) fun h110 o111 => (K.mv4 (bnd h fun l112 hl112 h => ?_))))))))))
        refine kapR rfl ety30 rfl hl112 o16 o111 fun h113 A114 k115 o116 => (kx 1 (K.mv2 (kst 4 1 #[iv 20, sv noS, iv 0, iv r2, .slice A114 l112.length k115] (knl (k_blk (k_then (K.mv1 (K.mv3 (K.mv3 (K.mv3 ?_))))))))))
        exact k_again m19 (l112, r104.2.2.2.2.2.1, r104.2.2.2.2.2.2, h113, A114, k115) (Nat.lt_succ_self _) ⟨h, o116⟩ sb rfl
      ·skip
       refine k_region (kx 2 ?_)
       refine kcs 44 h (fun h => ?_) fun h => ?_
       ·exact kx 1 (bnd h fun r118 hr118 h => (kc1 (r12_reader_take.ok (b0 := b0) hr118 R_a0_0) rfl ⟨(t3 hm_H_a0_0), trivial⟩ (kx 1 (knt (k_meet (r118.1, r118.2) h sb rfl)))))
       ·exact kx 3 (knt (k_meet (false, r25.2) h sb rfl))
   ·exact k_exit (k_then_exit (k_then_exit (k_here (k_then (K.mv3 (K.mv3 (K.mv2 (K.mv3 (k_meet (l12, x17, x18, h13, A14, k15) ⟨h, o16⟩ sb rfl)))))))))
def r12_reader_stat.l0 : Nat → (Rc : RS) → (a0_0 : List (Int × ByteArray × Int × Int)) → (J49 : (List Tree) → Int → Int → Option (Int × ByteArray × Int × Int × List Tree × Int × Int)) → (x74 : Bool) → (l75 : List Tree) → (x80 : Int) → (x81 : Int) → Option (Int × ByteArray × Int × Int × List Tree × Int × Int)
 | 0, _, _, _, _, _, _, _ => none
 | m82 + 1, Rc, a0_0, J49, x74, l75, x80, x81 => cond x74 ((r12_reader_exp.f m82 a0_0 x80 x81 1).bind fun r84 => (r12_reader_need.f m82 a0_0 r84.2.2.2.2.2.1 r84.2.2.2.2.2.2 (⟨#[116, 104, 101, 110]⟩ : ByteArray)).bind fun r90 => (Rc.r12_reader_block a0_0 r90.1 r90.2 false).bind fun r91 => (apd 64 l75 [(Tree.mk r84.1 r84.2.1 r84.2.2.1 r84.2.2.2.1 r84.2.2.2.2.1), (Tree.mk r91.1 r91.2.1 r91.2.2.1 r91.2.2.2.1 r91.2.2.2.2.1)]).bind fun l100 => (r12_reader_take.f m82 a0_0 r91.2.2.2.2.2.1 r91.2.2.2.2.2.2 (⟨#[101, 108, 115, 101, 105, 102]⟩ : ByteArray)).bind fun r105 => r12_reader_stat.l0 m82 Rc a0_0 J49 r105.1 l100 r105.2 r91.2.2.2.2.2.2) (J49 l75 x80 x81)
def r12_reader_stat.g (Rc : RS) (k : Nat) (a0_0 : List (Int × ByteArray × Int × Int)) (a0_1 : Int) (a0_2 : Int) (a1 : Int) : Option (Int × ByteArray × Int × Int × List Tree × Int × Int) := joinF (fun (x3 : Int) (x4 : Int) (l5 : List Tree) (x10 : Int) (x11 : Int) => some (x3, (⟨#[]⟩ : ByteArray), x4, a1, l5, x10, x11)) (fun J12 => (r12_reader_see.f k a0_0 a0_1 a0_2 (⟨#[100, 111]⟩ : ByteArray)).bind fun r13 => cond r13 ((Rc.r12_reader_body a0_0 a0_1 a0_2).bind fun r15 => J12 28 0 ([(Tree.mk r15.1 r15.2.1 r15.2.2.1 r15.2.2.2.1 r15.2.2.2.2.1)]) r15.2.2.2.2.2.1 r15.2.2.2.2.2.2) ((r12_reader_take.f k a0_0 a0_1 a0_2 (⟨#[119, 104, 105, 108, 101]⟩ : ByteArray)).bind fun r23 => cond r23.1 ((r12_reader_exp.f k a0_0 r23.2 a0_2 1).bind fun r25 => (Rc.r12_reader_body a0_0 r25.2.2.2.2.2.1 r25.2.2.2.2.2.2).bind fun r31 => J12 25 0 ([(Tree.mk r25.1 r25.2.1 r25.2.2.1 r25.2.2.2.1 r25.2.2.2.2.1), (Tree.mk r31.1 r31.2.1 r31.2.2.1 r31.2.2.2.1 r31.2.2.2.2.1)]) r31.2.2.2.2.2.1 r31.2.2.2.2.2.2) ((r12_reader_take.f k a0_0 r23.2 a0_2 (⟨#[105, 102]⟩ : ByteArray)).bind fun r40 => cond r40.1 (joinF (fun (l42 : List Tree) (x47 : Int) (x48 : Int) => joinF (fun (l50 : List Tree) (x55 : Int) (x56 : Int) => (r12_reader_need.f k a0_0 x55 x56 (⟨#[101, 110, 100]⟩ : ByteArray)).bind fun r58 => J12 24 0 l50 r58.1 r58.2) (fun J57 => (r12_reader_take.f k a0_0 x47 x48 (⟨#[101, 108, 115, 101]⟩ : ByteArray)).bind fun r59 => cond r59.1 ((Rc.r12_reader_block a0_0 r59.2 x48 false).bind fun r61 => (apd 64 l42 [(Tree.mk r61.1 r61.2.1 r61.2.2.1 r61.2.2.2.1 r61.2.2.2.2.1)]).bind fun l69 => J57 l69 r61.2.2.2.2.2.1 r61.2.2.2.2.2.2) (J57 l42 r59.2 x48))) (fun J49 => r12_reader_stat.l0 k Rc a0_0 J49 true ([]) r40.2 a0_2)) ((r12_reader_take.f k a0_0 r40.2 a0_2 (⟨#[102, 111, 114]⟩ : ByteArray)).bind fun r106 => cond r106.1 ((Rc.r12_reader_loop a0_0 r106.2 a0_2 a1).bind fun r108 => some (r108.1, r108.2.1, r108.2.2.1, r108.2.2.2.1, r108.2.2.2.2.1, r108.2.2.2.2.2.1, r108.2.2.2.2.2.2)) ((r12_reader_take.f k a0_0 r106.2 a0_2 (⟨#[108, 111, 99, 97, 108]⟩ : ByteArray)).bind fun r113 => cond r113.1 ((r12_reader_names.f k a0_0 r113.2 a0_2).bind fun r115 => (r12_reader_take.f k a0_0 r115.2.1 r115.2.2 (⟨#[61]⟩ : ByteArray)).bind fun r120 => cond r120.1 ((r12_reader_list.f k a0_0 r120.2 r115.2.2).bind fun r122 => (apd 64 r115.1 r122.1).bind fun l127 => J12 21 ((r115.1.length : Nat) : Int) l127 r122.2.1 r122.2.2) (J12 21 ((r115.1.length : Nat) : Int) r115.1 r120.2 r115.2.2)) ((r12_reader_take.f k a0_0 r113.2 a0_2 (⟨#[98, 114, 101, 97, 107]⟩ : ByteArray)).bind fun r132 => cond r132.1 (J12 29 0 ([]) r132.2 a0_2) ((Rc.r12_reader_plain a0_0 r132.2 a0_2 a1).bind fun r134 => some (r134.1, r134.2.1, r134.2.2.1, r134.2.2.2.1, r134.2.2.2.2.1, r134.2.2.2.2.2.1, r134.2.2.2.2.2.2))))))))
set_option maxRecDepth 100000 in
theorem r12_reader_stat.okg {Rc : RS} (hR : Rc.Good) {k : Nat} {a0_0 : List (Int × ByteArray × Int × Int)} {a0_1 : Int} {a0_2 : Int} {a1 : Int} {b0 : Nat} {H_a0_0 : Frag} {A_a0_0 : Option Addr} {c_a0_0 : Nat} {r : Int × ByteArray × Int × Int × List Tree × Int × Int} (h : r12_reader_stat.g Rc k a0_0 a0_1 a0_2 a1 = some r) (R_a0_0 : RdT e59 4 H_a0_0 (.slice A_a0_0 a0_0.length c_a0_0) a0_0) : Ct Tryz.prog 44 #[pt b0, iv a1] [bk b0 #[.slice A_a0_0 a0_0.length c_a0_0, iv a0_1, iv a0_2] 57] [H_a0_0] (fun e l1 => ∃ (H0_ : Frag) (A0_ : Option Addr) (c0_ : Nat), OwnR (rTree 32) 32 H0_ (.slice A0_ r.2.2.2.2.1.length c0_) r.2.2.2.2.1 ∧ e = .returned (.agg #[iv r.1, sv r.2.1, iv r.2.2.1, iv r.2.2.2.1, .slice A0_ r.2.2.2.2.1.length c0_]) ∧ l1 = [H0_, bk b0 #[.slice A_a0_0 a0_0.length c_a0_0, iv r.2.2.2.2.2.1, iv r.2.2.2.2.2.2] 57]) := by
 refine ct_enter (args := [pt b0, iv a1]) Tryz.func44 rfl (Nat.le_of_ble_eq_true rfl) ?_
 intro A X hh_
 obtain ⟨hm_H_a0_0, _⟩ := hh_
 unfold r12_reader_stat.g at h
 refine K.eq (env' := [(0, pt b0), (1, iv a1)]) (l' := bk b0 #[.slice A_a0_0 a0_0.length c_a0_0, iv a0_1, iv a0_2] 57 :: X) rfl rfl (ksr (knp #[iv 0, sv noS, iv 0, iv 0, nS] 32 fun b1 => (kns' (kx 2 (knp #[iv 0, sv noS, iv 0, iv 0, nS] 32 fun b2 => (kst 0 5 #[iv 0, sv noS, iv 0, iv a1, nS] (knt ?_)))))))
 obtain ⟨J12, hJ12, h⟩ := joinSplit h
 refine k_cut (τ := Int × Int × (List Tree) × Int × Int × Frag × (Option Addr) × Nat) (fun t => [(4, pt b1), (5, pt b2)]) (fun t => bk b2 #[iv t.1, sv noS, iv t.2.1, iv a1, .slice t.2.2.2.2.2.2.1 t.2.2.1.length t.2.2.2.2.2.2.2] 32 :: bk b1 #[iv 0, sv noS, iv 0, iv 0, nS] 32 :: bk b0 #[.slice A_a0_0 a0_0.length c_a0_0, iv t.2.2.2.1, iv t.2.2.2.2.1] 57 :: t.2.2.2.2.2.1 :: X) (fun t => J12 t.1 t.2.1 t.2.2.1 t.2.2.2.1 t.2.2.2.2.1 = some r ∧ OwnR (rTree 32) 32 t.2.2.2.2.2.1 (.slice t.2.2.2.2.2.2.1 t.2.2.1.length t.2.2.2.2.2.2.2) t.2.2.1) ?_ ?_
 ·rintro ⟨x3, x4, l5, x10, x11, h6, A7, k8⟩ ⟨h, o9⟩
  subst hJ12
  refine ksr (kla 0 0 5 rfl (K.drop (kst 0 5 #[iv x3, sv noS, iv x4, iv a1, .slice A7 l5.length k8] (knt (k_ret ?_)))))
  obtain rfl := Option.some.inj h
  exact kda 0 5 rfl [h6, bk b0 #[.slice A_a0_0 a0_0.length c_a0_0, iv x10, iv x11] 57] (K.drop (K.mv1 (k_end ⟨h6, A7, k8, o9, rfl, rfl⟩)))
 ·skip
  refine k_block (ksr (kx 1 (K.mv2 (bnd h fun r13 hr13 h => (kc1 (r12_reader_see.ok (b0 := b0) hr13 R_a0_0) rfl ⟨(t2 hm_H_a0_0), trivial⟩ (kx 1 (knt ?_)))))))
  refine kcn h (fun h => ?_) fun h => ?_
  ·refine ksr (kx 1 (K.mv1 (kst 0 1 #[iv 28, sv noS, iv 0, iv a1, nS] (knr (kx 1 (K.mv1 (bnd h fun r15 hr15 h => (kcl (hR.r12_reader_body (b0 := b0) hr15 R_a0_0) rfl ⟨(t2 hm_H_a0_0), trivial⟩ ?_))))))))
   rintro _ _ ⟨h16, A17, k18, o19, rfl, rfl⟩
   refine nx_ret2 (kns #[iv r15.1, sv r15.2.1, iv r15.2.2.1, iv r15.2.2.2.1, .slice A17 r15.2.2.2.2.1.length k18] 32 1 fun b20 => (kx 1 (K.mv3 (kst 4 1 #[iv 28, sv noS, iv 0, iv a1, .slice (some ⟨b20, 0, none⟩) 1 1] (knl (k_blk (k_then (K.mv2 (K.mv2 (k_row (T := 32) (n := 1) (xs := [(Tree.mk r15.1 r15.2.1 r15.2.2.1 r15.2.2.2.1 r15.2.2.2.2.1)]) (RowI.one (treeO_mk (k := r15.1) (t := r15.2.1) (n := r15.2.2.1) (a := r15.2.2.2.1) 32 o19)) rfl rfl (Nat.le_of_ble_eq_true rfl) fun h21 o22 => ?_))))))))))
   exact K.mv2 (K.mv3 (K.mv3 (k_meet (28, 0, [(Tree.mk r15.1 r15.2.1 r15.2.2.1 r15.2.2.2.1 r15.2.2.2.2.1)], r15.2.2.2.2.2.1, r15.2.2.2.2.2.2, h21, (some ⟨b20, 0, none⟩), 1) ⟨h, o22⟩ sb rfl)))
  ·refine ksr (kx 1 (bnd h fun r23 hr23 h => (kc1 (r12_reader_take.ok (b0 := b0) hr23 R_a0_0) rfl ⟨(t2 hm_H_a0_0), trivial⟩ (kx 1 (knt ?_)))))
   refine kcn h (fun h => ?_) fun h => ?_
   ·refine ksr (kx 1 (K.mv1 (kst 0 1 #[iv 25, sv noS, iv 0, iv a1, nS] (kns' (kx 1 (K.mv1 (bnd h fun r25 hr25 h => (kcl (r12_reader_exp.ok (b0 := b0) hr25 R_a0_0) rfl ⟨(t2 hm_H_a0_0), trivial⟩ ?_))))))))
    rintro _ _ ⟨h26, A27, k28, o29, rfl, rfl⟩
    refine nx_ret2 (knp #[iv 0, sv noS, iv 0, iv 0, nS] 32 fun b30 => (kst 0 5 #[iv r25.1, sv r25.2.1, iv r25.2.2.1, iv r25.2.2.2.1, .slice A27 r25.2.2.2.2.1.length k28] (knt (kpr [(0, 3), (1, 0), (2, 1)] [0] (kpa 0 0 5 rfl (kpx 1 (kpt (K.mv2 (bnd h fun r31 hr31 h => (ocl (hR.r12_reader_body (b0 := b0) hr31 R_a0_0) rfl ⟨(t4 hm_H_a0_0), trivial⟩ ?_))))))))))
    rintro _ _ ⟨h32, A33, k34, o35, rfl, rfl⟩
    refine nx_ret2 (kan [2] rfl (kpz (kns #[iv r25.1, sv r25.2.1, iv r25.2.2.1, iv r25.2.2.2.1, .slice A27 r25.2.2.2.2.1.length k28, iv r31.1, sv r31.2.1, iv r31.2.2.1, iv r31.2.2.2.1, .slice A33 r31.2.2.2.2.1.length k34] 32 2 fun b36 => (K.mv3 (K.drop (kx 1 (K.mv4 (kst 4 1 #[iv 25, sv noS, iv 0, iv a1, .slice (some ⟨b36, 0, none⟩) 2 2] (knl (k_blk ?_))))))))))
    exact k_then (K.mv2 (K.mv4 (k_or fun p37 => (K.mv2 (k_row (T := 32) (n := 2) (xs := [(Tree.mk r25.1 r25.2.1 r25.2.2.1 r25.2.2.2.1 r25.2.2.2.2.1), (Tree.mk r31.1 r31.2.1 r31.2.2.1 r31.2.2.2.1 r31.2.2.2.2.1)]) (RowI.cons (treeO_mk (k := r25.1) (t := r25.2.1) (n := r25.2.2.1) (a := r25.2.2.2.1) 32 o29) p37 (RowI.one (treeO_mk (k := r31.1) (t := r31.2.1) (n := r31.2.2.1) (a := r31.2.2.2.1) 32 o35))) rfl rfl (Nat.le_of_ble_eq_true rfl) fun h38 o39 => (K.mv2 (K.mv3 (K.mv3 (k_meet (25, 0, [(Tree.mk r25.1 r25.2.1 r25.2.2.1 r25.2.2.2.1 r25.2.2.2.2.1), (Tree.mk r31.1 r31.2.1 r31.2.2.1 r31.2.2.2.1 r31.2.2.2.2.1)], r31.2.2.2.2.2.1, r31.2.2.2.2.2.2, h38, (some ⟨b36, 0, none⟩), 2) ⟨h, o39⟩ sb rfl)))))))))
   ·refine ksr (kx 1 (bnd h fun r40 hr40 h => (kc1 (r12_reader_take.ok (b0 := b0) hr40 R_a0_0) rfl ⟨(t2 hm_H_a0_0), trivial⟩ (kx 1 (knt ?_)))))
    refine kcn h (fun h => ?_) fun h => ?_
    ·refine ksr (kx 1 (K.mv1 (kst 0 1 #[iv 24, sv noS, iv 0, iv a1, nS] (kns' (kx 1 (knt ?_))))))
     obtain ⟨J49, hJ49, h⟩ := joinSplit h
     refine k_cut (τ := (List Tree) × Int × Int × Frag × (Option Addr) × Nat) (fun t => [(0, pt b0), (4, pt b1), (5, pt b2)]) (fun t => bk b2 #[iv 24, sv noS, iv 0, iv a1, .slice t.2.2.2.2.1 t.1.length t.2.2.2.2.2] 32 :: bk b0 #[.slice A_a0_0 a0_0.length c_a0_0, iv t.2.1, iv t.2.2.1] 57 :: bk b1 #[iv 0, sv noS, iv 0, iv 0, nS] 32 :: t.2.2.2.1 :: X) (fun t => J49 t.1 t.2.1 t.2.2.1 = some r ∧ OwnR (rTree 32) 32 t.2.2.2.1 (.slice t.2.2.2.2.1 t.1.length t.2.2.2.2.2) t.1) ?_ ?_
     ·rintro ⟨l42, x47, x48, h43, A44, k45⟩ ⟨h, o46⟩
      subst hJ49
      obtain ⟨J57, hJ57, h⟩ := joinSplit h
      refine k_cut (τ := (List Tree) × Int × Int × Frag × (Option Addr) × Nat) (fun t => [(0, pt b0), (4, pt b1), (5, pt b2)]) (fun t => bk b2 #[iv 24, sv noS, iv 0, iv a1, .slice t.2.2.2.2.1 t.1.length t.2.2.2.2.2] 32 :: bk b0 #[.slice A_a0_0 a0_0.length c_a0_0, iv t.2.1, iv t.2.2.1] 57 :: bk b1 #[iv 0, sv noS, iv 0, iv 0, nS] 32 :: t.2.2.2.1 :: X) (fun t => J57 t.1 t.2.1 t.2.2.1 = some r ∧ OwnR (rTree 32) 32 t.2.2.2.1 (.slice t.2.2.2.2.1 t.1.length t.2.2.2.2.2) t.1) ?_ ?_
      ·rintro ⟨l50, x55, x56, h51, A52, k53⟩ ⟨h, o54⟩
       subst hJ57
       refine k_region (kx 1 (K.mv1 (bnd h fun r58 hr58 h => (kc1 (r12_reader_need.ok (b0 := b0) hr58 R_a0_0) rfl ⟨(t3 hm_H_a0_0), trivial⟩ (knl (k_blk (k_then (K.mv3 (K.mv1 (K.mv3 ?_))))))))))
       exact K.mv3 (k_meet (24, 0, l50, r58.1, r58.2, h51, A52, k53) ⟨h, o54⟩ sb rfl)
      ·skip
       refine ksr (kx 1 (K.mv1 (bnd h fun r59 hr59 h => (kc1 (r12_reader_take.ok (b0 := b0) hr59 R_a0_0) rfl ⟨(t3 hm_H_a0_0), trivial⟩ (knt ?_)))))
       refine kcn h (fun h => ?_) fun h => ?_
       ·refine kpr [(0, 0), (1, 3), (2, 0), (3, 1), (4, 1)] [1] (kpx 1 (kpd 0 4 rfl (kpx 1 (kpt (bnd h fun r61 hr61 h => (ocl (hR.r12_reader_block (b0 := b0) hr61 R_a0_0) rfl ⟨(t3 hm_H_a0_0), trivial⟩ ?_))))))
        rintro _ _ ⟨h62, A63, k64, o65, rfl, rfl⟩
        refine nx_ret2 (kan [2] rfl (kpt (ons #[iv r61.1, sv r61.2.1, iv r61.2.2.1, iv r61.2.2.2.1, .slice A63 r61.2.2.2.2.1.length k64] 32 1 fun b66 => (kan [3] rfl (kpz (K.mv1 (K.mv1 (k_row (T := 32) (n := 1) (xs := [(Tree.mk r61.1 r61.2.1 r61.2.2.1 r61.2.2.2.1 r61.2.2.2.2.1)]) (RowI.one (treeO_mk (k := r61.1) (t := r61.2.1) (n := r61.2.2.1) (a := r61.2.2.2.1) 32 o65)) rfl rfl (Nat.le_of_ble_eq_true rfl) fun h67 o68 => (K.mv4 (bnd h fun l69 hl69 h => ?_))))))))))
        exact kapR rfl ety30 rfl hl69 o46 o68 fun h70 A71 k72 o73 => (kx 1 (K.mv2 (kst 4 1 #[iv 24, sv noS, iv 0, iv a1, .slice A71 l69.length k72] (knt (K.mv1 (K.mv3 (K.mv3 (K.mv3 (k_meet (l69, r61.2.2.2.2.2.1, r61.2.2.2.2.2.2, h70, A71, k72) ⟨h, o73⟩ sb rfl)))))))))
       ·exact k_skip (k_then (K.mv3 (K.mv3 (K.mv2 (K.mv3 (k_meet (l42, r59.2, x48, h43, A44, k45) ⟨h, o46⟩ sb rfl))))))
     ·skip
      refine k_block (k_none (K.mv3 (K.mv3 (K.mv3 (k_loop (τ := Bool × (List Tree) × Int × Int × Frag × (Option Addr) × Nat) (fun t => [(0, pt b0), (4, pt b1), (5, pt b2), (7, bv t.1)]) (fun t => bk b2 #[iv 24, sv noS, iv 0, iv a1, .slice t.2.2.2.2.2.1 t.2.1.length t.2.2.2.2.2.2] 32 :: bk b0 #[.slice A_a0_0 a0_0.length c_a0_0, iv t.2.2.1, iv t.2.2.2.1] 57 :: bk b1 #[iv 0, sv noS, iv 0, iv 0, nS] 32 :: t.2.2.2.2.1 :: X) (fun m t => r12_reader_stat.l0 m Rc a0_0 J49 t.1 t.2.1 t.2.2.1 t.2.2.2.1 = some r ∧ OwnR (rTree 32) 32 t.2.2.2.2.1 (.slice t.2.2.2.2.2.1 t.2.1.length t.2.2.2.2.2.2) t.2.1) k (true, [], r40.2, a0_2, none_, none, 0) ⟨h, (OwnR.nil (rTree 32) 32 none_)⟩ sb rfl ?_)))))
      clear h
      rintro m82 ⟨x74, l75, x80, x81, h76, A77, k78⟩ ⟨h, o79⟩
      cases m82 with
      | zero => simp [r12_reader_stat.l0] at h
      | succ m82 =>
       simp only [r12_reader_stat.l0] at h
       refine k_seq (ksr (kx 1 (knt ?_)))
       refine kcn h (fun h => ?_) fun h => ?_
       ·refine k_skip (k_then (k_block (ksr (kx 1 (K.mv1 (bnd h fun r84 hr84 h => (kcl (r12_reader_exp.ok (b0 := b0) hr84 R_a0_0) rfl ⟨(t3 hm_H_a0_0), trivial⟩ ?_)))))))
        rintro _ _ ⟨h85, A86, k87, o88, rfl, rfl⟩
        refine nx_ret2 (knp #[iv 0, sv noS, iv 0, iv 0, nS] 32 fun b89 => (kst 0 5 #[iv r84.1, sv r84.2.1, iv r84.2.2.1, iv r84.2.2.2.1, .slice A86 r84.2.2.2.2.1.length k87] (kns' (kx 1 (K.mv2 (bnd h fun r90 hr90 h => (kc1 (r12_reader_need.ok (b0 := b0) hr90 R_a0_0) rfl ⟨(t5 hm_H_a0_0), trivial⟩ (knt (k_seq (kpr [(0, 0), (1, 3), (2, 3), (3, 0), (4, 1), (5, 1)] [1, 3] ?_))))))))))
        refine kpx 1 (kpd 1 4 rfl (kpa 0 0 5 rfl (kpx 1 (kpt (bnd h fun r91 hr91 h => (ocl (hR.r12_reader_block (b0 := b0) hr91 R_a0_0) rfl ⟨(t5 hm_H_a0_0), trivial⟩ ?_))))))
        rintro _ _ ⟨h92, A93, k94, o95, rfl, rfl⟩
        refine nx_ret2 (kan [2, 4] rfl (kpt (ons #[iv r84.1, sv r84.2.1, iv r84.2.2.1, iv r84.2.2.2.1, .slice A86 r84.2.2.2.2.1.length k87, iv r91.1, sv r91.2.1, iv r91.2.2.1, iv r91.2.2.2.1, .slice A93 r91.2.2.2.2.1.length k94] 32 2 fun b96 => (kan [3, 5] rfl (kpz (K.mv1 (K.mv4 (k_or fun p97 => (K.mv1 (k_row (T := 32) (n := 2) (xs := [(Tree.mk r84.1 r84.2.1 r84.2.2.1 r84.2.2.2.1 r84.2.2.2.2.1), (Tree.mk r91.1 r91.2.1 r91.2.2.1 r91.2.2.2.1 r91.2.2.2.2.1)]) (RowI.cons (treeO_mk (k := r84.1) (t := r84.2.1) (n := r84.2.2.1) (a := r84.2.2.2.1) 32 o88) p97 (RowI.one (treeO_mk (k := r91.1) (t := r91.2.1) (n := r91.2.2.1) (a := r91.2.2.2.1) 32 o95))) rfl rfl (Nat.le_of_ble_eq_true rfl) fun h98 o99 => ?_))))))))))
        refine K.mvN [_, _, _, _, _] _ _ (bnd h fun l100 hl100 h => (kapR rfl ety30 rfl hl100 o79 o99 fun h101 A102 k103 o104 => (K.mv2 (K.drop (kx 1 (K.mv2 (kst 4 1 #[iv 24, sv noS, iv 0, iv a1, .slice A102 l100.length k103] (knr (kx 1 (K.mv2 ?_))))))))))
        exact bnd h fun r105 hr105 h => (kc1 (r12_reader_take.ok (b0 := b0) hr105 R_a0_0) rfl ⟨(t3 hm_H_a0_0), trivial⟩ (kx 1 (knl (k_blk (k_then (K.mv2 (K.mv3 (K.mv2 (K.mv3 (k_again m82 (r105.1, l100, r105.2, r91.2.2.2.2.2.2, h101, A102, k103) (Nat.lt_succ_self _) ⟨h, o104⟩ sb rfl))))))))))
       ·exact k_exit (k_then_exit (k_then_exit (k_here (k_then (k_meet (l75, x80, x81, h76, A77, k78) ⟨h, o79⟩ sb rfl)))))
    ·refine ksr (kx 1 (bnd h fun r106 hr106 h => (kc1 (r12_reader_take.ok (b0 := b0) hr106 R_a0_0) rfl ⟨(t2 hm_H_a0_0), trivial⟩ (kx 1 (knt ?_)))))
     refine kcn h (fun h => ?_) fun h => ?_
     ·refine ksr (kx 2 (bnd h fun r108 hr108 h => (kcl (hR.r12_reader_loop (b0 := b0) hr108 R_a0_0) rfl ⟨(t2 hm_H_a0_0), trivial⟩ ?_)))
      rintro _ _ ⟨h109, A110, k111, o112, rfl, rfl⟩
      refine nx_ret2 (K.mv2 (K.drop (K.mv2 (kst 0 5 #[iv r108.1, sv r108.2.1, iv r108.2.2.1, iv r108.2.2.2.1, .slice A110 r108.2.2.2.2.1.length k111] (knt (k_ret (k_blk_ret (k_then_ret ?_))))))))
      obtain rfl := Option.some.inj h
      exact kda 0 5 rfl [h109, bk b0 #[.slice A_a0_0 a0_0.length c_a0_0, iv r108.2.2.2.2.2.1, iv r108.2.2.2.2.2.2] 57] (K.drop (k_end ⟨h109, A110, k111, o112, rfl, rfl⟩))
     ·refine ksr (kx 1 (bnd h fun r113 hr113 h => (kc1 (r12_reader_take.ok (b0 := b0) hr113 R_a0_0) rfl ⟨(t2 hm_H_a0_0), trivial⟩ (kx 1 (knt ?_)))))
      refine kcn h (fun h => ?_) fun h => ?_
      ·refine ksr (kx 1 (K.mv1 (kst 0 1 #[iv 21, sv noS, iv 0, iv a1, nS] (kns' (kx 1 (K.mv1 (bnd h fun r115 hr115 h => (kcl (r12_reader_names.ok (b0 := b0) hr115 R_a0_0) rfl ⟨(t2 hm_H_a0_0), trivial⟩ ?_))))))))
       rintro _ _ ⟨h116, A117, k118, o119, rfl, rfl⟩
       refine nx_ret2 (kx 1 (K.mv2 (kst 4 1 #[iv 21, sv noS, iv 0, iv a1, .slice A117 r115.1.length k118] (kns' (kx 1 (kld 0 4 rfl (kx 2 (kst 2 1 #[iv 21, sv noS, iv ((r115.1.length : Nat) : Int), iv a1, .slice A117 r115.1.length k118] (kns' (kx 1 ?_))))))))))
       refine K.mv2 (bnd h fun r120 hr120 h => (kc1 (r12_reader_take.ok (b0 := b0) hr120 R_a0_0) rfl ⟨(t3 hm_H_a0_0), trivial⟩ (knt ?_)))
       refine kcn h (fun h => ?_) fun h => ?_
       ·refine kpr [(0, 0), (1, 3), (2, 0), (3, 1)] [1] (kpx 1 (kpd 0 4 rfl (kpx 1 (kpt (bnd h fun r122 hr122 h => (ocl (r12_reader_list.ok (b0 := b0) hr122 R_a0_0) rfl ⟨(t3 hm_H_a0_0), trivial⟩ ?_))))))
        rintro _ _ ⟨h123, A124, k125, o126, rfl, rfl⟩
        refine nx_ret2 (kan [2] rfl (kpz (K.mv3 (bnd h fun l127 hl127 h => (kapR rfl ety30 rfl hl127 o119 o126 fun h128 A129 k130 o131 => (kx 1 (K.mv2 (kst 4 1 #[iv 21, sv noS, iv ((r115.1.length : Nat) : Int), iv a1, .slice A129 l127.length k130] (knl (k_blk ?_))))))))))
        exact k_then (K.mv1 (K.mv2 (K.mv3 (K.mv3 (k_meet (21, ((r115.1.length : Nat) : Int), l127, r122.2.1, r122.2.2, h128, A129, k130) ⟨h, o131⟩ sb rfl)))))
       ·exact k_skip (k_blk (k_then (K.mv2 (K.mv1 (K.mv3 (K.mv3 (k_meet (21, ((r115.1.length : Nat) : Int), r115.1, r120.2, r115.2.2, h116, A117, k118) ⟨h, o119⟩ sb rfl)))))))
      ·refine ksr (kx 1 (bnd h fun r132 hr132 h => (kc1 (r12_reader_take.ok (b0 := b0) hr132 R_a0_0) rfl ⟨(t2 hm_H_a0_0), trivial⟩ (kx 1 (knt ?_)))))
       refine kcn h (fun h => ?_) fun h => ?_
       ·refine k_region (kx 1 (K.mv1 (kst 0 1 #[iv 29, sv noS, iv 0, iv a1, nS] (knl (k_blk (k_then (k_none (K.mv2 (K.mv3 (K.mv3 ?_))))))))))
        exact k_meet (29, 0, [], r132.2, a0_2, none_, none, 0) ⟨h, (OwnR.nil (rTree 32) 32 none_)⟩ sb rfl
       ·refine ksr (kx 2 (bnd h fun r134 hr134 h => (kcl (hR.r12_reader_plain (b0 := b0) hr134 R_a0_0) rfl ⟨(t2 hm_H_a0_0), trivial⟩ ?_)))
        rintro _ _ ⟨h135, A136, k137, o138, rfl, rfl⟩
        refine nx_ret2 (K.mv2 (K.drop (K.mv2 (kst 0 5 #[iv r134.1, sv r134.2.1, iv r134.2.2.1, iv r134.2.2.2.1, .slice A136 r134.2.2.2.2.1.length k137] (knt (k_ret (k_blk_ret (k_then_ret ?_))))))))
        obtain rfl := Option.some.inj h
        exact kda 0 5 rfl [h135, bk b0 #[.slice A_a0_0 a0_0.length c_a0_0, iv r134.2.2.2.2.2.1, iv r134.2.2.2.2.2.2] 57] (K.drop (k_end ⟨h135, A136, k137, o138, rfl, rfl⟩))
def r12_reader_loop.l0 : Nat → (a0_0 : List (Int × ByteArray × Int × Int)) → (J82 : (List Tree) → Int → Int → Option (Int × ByteArray × Int × Int × List Tree × Int × Int)) → (l108 : List Tree) → (x113 : Int) → (x114 : Int) → Option (Int × ByteArray × Int × Int × List Tree × Int × Int)
 | 0, _, _, _, _, _ => none
 | m115 + 1, a0_0, J82, l108, x113, x114 => (r12_reader_take.f m115 a0_0 x113 x114 (⟨#[44]⟩ : ByteArray)).bind fun r118 => cond r118.1 ((r12_reader_name.f m115 a0_0 r118.2 x114 6).bind fun r120 => (apd 64 l108 [(Tree.mk r120.1 r120.2.1 r120.2.2.1 r120.2.2.2.1 r120.2.2.2.2.1)]).bind fun l128 => r12_reader_loop.l0 m115 a0_0 J82 l128 r120.2.2.2.2.2.1 r120.2.2.2.2.2.2) (J82 l108 r118.2 x114)
def r12_reader_loop.g (Rc : RS) (k : Nat) (a0_0 : List (Int × ByteArray × Int × Int)) (a0_1 : Int) (a0_2 : Int) (a1 : Int) : Option (Int × ByteArray × Int × Int × List Tree × Int × Int) := (r12_reader_name.f k a0_0 a0_1 a0_2 6).bind fun r2 => (r12_reader_take.f k a0_0 r2.2.2.2.2.2.1 r2.2.2.2.2.2.2 (⟨#[61]⟩ : ByteArray)).bind fun r8 => cond r8.1 ((r12_reader_exp.f k a0_0 r8.2 r2.2.2.2.2.2.2 1).bind fun r10 => (apd 64 [(Tree.mk r2.1 r2.2.1 r2.2.2.1 r2.2.2.2.1 r2.2.2.2.2.1)] [(Tree.mk r10.1 r10.2.1 r10.2.2.1 r10.2.2.2.1 r10.2.2.2.2.1)]).bind fun l20 => (r12_reader_need.f k a0_0 r10.2.2.2.2.2.1 r10.2.2.2.2.2.2 (⟨#[44]⟩ : ByteArray)).bind fun r25 => (r12_reader_exp.f k a0_0 r25.1 r25.2 1).bind fun r26 => (apd 64 l20 [(Tree.mk r26.1 r26.2.1 r26.2.2.1 r26.2.2.2.1 r26.2.2.2.2.1)]).bind fun l34 => joinF (fun (l39 : List Tree) (x44 : Int) (x45 : Int) => (Rc.r12_reader_body a0_0 x44 x45).bind fun r47 => (apd 64 l39 [(Tree.mk r47.1 r47.2.1 r47.2.2.1 r47.2.2.2.1 r47.2.2.2.2.1)]).bind fun l55 => some (26, (⟨#[]⟩ : ByteArray), 0, a1, l55, r47.2.2.2.2.2.1, r47.2.2.2.2.2.2)) (fun J46 => (r12_reader_take.f k a0_0 r26.2.2.2.2.2.1 r26.2.2.2.2.2.2 (⟨#[44]⟩ : ByteArray)).bind fun r60 => cond r60.1 ((r12_reader_exp.f k a0_0 r60.2 r26.2.2.2.2.2.2 1).bind fun r62 => (apd 64 l34 [(Tree.mk r62.1 r62.2.1 r62.2.2.1 r62.2.2.2.1 r62.2.2.2.2.1)]).bind fun l70 => J46 l70 r62.2.2.2.2.2.1 r62.2.2.2.2.2.2) (J46 l34 r60.2 r26.2.2.2.2.2.2))) (joinF (fun (l75 : List Tree) (x80 : Int) (x81 : Int) => (r12_reader_need.f k a0_0 x80 x81 (⟨#[105, 110]⟩ : ByteArray)).bind fun r84 => (r12_reader_list.f k a0_0 r84.1 r84.2).bind fun r85 => (apd 64 l75 r85.1).bind fun l90 => (Rc.r12_reader_body a0_0 r85.2.1 r85.2.2).bind fun r95 => (apd 64 l90 [(Tree.mk r95.1 r95.2.1 r95.2.2.1 r95.2.2.2.1 r95.2.2.2.2.1)]).bind fun l103 => some (27, (⟨#[]⟩ : ByteArray), ((l75.length : Nat) : Int), a1, l103, r95.2.2.2.2.2.1, r95.2.2.2.2.2.2)) (fun J82 => r12_reader_loop.l0 k a0_0 J82 ([(Tree.mk r2.1 r2.2.1 r2.2.2.1 r2.2.2.2.1 r2.2.2.2.2.1)]) r8.2 r2.2.2.2.2.2.2))
set_option maxRecDepth 100000 in
theorem r12_reader_loop.okg {Rc : RS} (hR : Rc.Good) {k : Nat} {a0_0 : List (Int × ByteArray × Int × Int)} {a0_1 : Int} {a0_2 : Int} {a1 : Int} {b0 : Nat} {H_a0_0 : Frag} {A_a0_0 : Option Addr} {c_a0_0 : Nat} {r : Int × ByteArray × Int × Int × List Tree × Int × Int} (h : r12_reader_loop.g Rc k a0_0 a0_1 a0_2 a1 = some r) (R_a0_0 : RdT e59 4 H_a0_0 (.slice A_a0_0 a0_0.length c_a0_0) a0_0) : Ct Tryz.prog 71 #[pt b0, iv a1] [bk b0 #[.slice A_a0_0 a0_0.length c_a0_0, iv a0_1, iv a0_2] 57] [H_a0_0] (fun e l1 => ∃ (H0_ : Frag) (A0_ : Option Addr) (c0_ : Nat), OwnR (rTree 32) 32 H0_ (.slice A0_ r.2.2.2.2.1.length c0_) r.2.2.2.2.1 ∧ e = .returned (.agg #[iv r.1, sv r.2.1, iv r.2.2.1, iv r.2.2.2.1, .slice A0_ r.2.2.2.2.1.length c0_]) ∧ l1 = [H0_, bk b0 #[.slice A_a0_0 a0_0.length c_a0_0, iv r.2.2.2.2.2.1, iv r.2.2.2.2.2.2] 57]) := by
 refine ct_enter (args := [pt b0, iv a1]) Tryz.func71 rfl (Nat.le_of_ble_eq_true rfl) ?_
 intro A X hh_
 obtain ⟨hm_H_a0_0, _⟩ := hh_
 unfold r12_reader_loop.g at h
 refine K.eq (env' := [(0, pt b0), (1, iv a1)]) (l' := bk b0 #[.slice A_a0_0 a0_0.length c_a0_0, iv a0_1, iv a0_2] 57 :: X) rfl rfl (ksr (knp #[iv 0, sv noS, iv 0, iv 0, nS] 32 fun b1 => (kns' (kx 1 (K.mv1 (bnd h fun r2 hr2 h => (kcl (r12_reader_name.ok (b0 := b0) hr2 R_a0_0) rfl ⟨(.tail _ hm_H_a0_0), trivial⟩ ?_)))))))
 rintro _ _ ⟨h3, A4, k5, o6, rfl, rfl⟩
 refine nx_ret2 (kns #[iv r2.1, sv r2.2.1, iv r2.2.2.1, iv r2.2.2.2.1, .slice A4 r2.2.2.2.2.1.length k5] 32 1 fun b7 => (kx 1 (knt (k_seq (ksr (kx 1 (K.mv2 (bnd h fun r8 hr8 h => (kc1 (r12_reader_take.ok (b0 := b0) hr8 R_a0_0) rfl ⟨(t3 hm_H_a0_0), trivial⟩ (knt ?_))))))))))
 refine kcn h (fun h => ?_) fun h => ?_
 ·refine ksr (kx 2 (bnd h fun r10 hr10 h => (kcl (r12_reader_exp.ok (b0 := b0) hr10 R_a0_0) rfl ⟨(t3 hm_H_a0_0), trivial⟩ ?_)))
  rintro _ _ ⟨h11, A12, k13, o14, rfl, rfl⟩
  refine nx_ret2 (kns #[iv r10.1, sv r10.2.1, iv r10.2.2.1, iv r10.2.2.2.1, .slice A12 r10.2.2.2.2.1.length k13] 32 1 fun b15 => (K.mv1 (K.mv1 (k_row (T := 32) (n := 1) (xs := [(Tree.mk r10.1 r10.2.1 r10.2.2.1 r10.2.2.2.1 r10.2.2.2.2.1)]) (RowI.one (treeO_mk (k := r10.1) (t := r10.2.1) (n := r10.2.2.1) (a := r10.2.2.2.1) 32 o14)) rfl rfl (Nat.le_of_ble_eq_true rfl) fun h16 o17 => (K.mv3 (K.mv3 (k_row (T := 32) (n := 1) (xs := [(Tree.mk r2.1 r2.2.1 r2.2.2.1 r2.2.2.2.1 r2.2.2.2.2.1)]) (RowI.one (treeO_mk (k := r2.1) (t := r2.2.1) (n := r2.2.2.1) (a := r2.2.2.2.1) 32 o6)) rfl rfl (Nat.le_of_ble_eq_true rfl) fun h18 o19 => (K.mv1 (K.mv1 (bnd h fun l20 hl20 h => ?_))))))))))
  refine kapR rfl ety30 rfl hl20 o19 o17 fun h21 A22 k23 o24 => (kx 1 (kns' (kx 1 (K.mv1 (bnd h fun r25 hr25 h => (kc1 (r12_reader_need.ok (b0 := b0) hr25 R_a0_0) rfl ⟨(t2 hm_H_a0_0), trivial⟩ (kns' (kx 2 (bnd h fun r26 hr26 h => (kcl (r12_reader_exp.ok (b0 := b0) hr26 R_a0_0) rfl ⟨(t2 hm_H_a0_0), trivial⟩ ?_))))))))))
  rintro _ _ ⟨h27, A28, k29, o30, rfl, rfl⟩
  refine nx_ret2 (kns #[iv r26.1, sv r26.2.1, iv r26.2.2.1, iv r26.2.2.2.1, .slice A28 r26.2.2.2.2.1.length k29] 32 1 fun b31 => (K.mv1 (K.mv1 (k_row (T := 32) (n := 1) (xs := [(Tree.mk r26.1 r26.2.1 r26.2.2.1 r26.2.2.2.1 r26.2.2.2.2.1)]) (RowI.one (treeO_mk (k := r26.1) (t := r26.2.1) (n := r26.2.2.1) (a := r26.2.2.2.1) 32 o30)) rfl rfl (Nat.le_of_ble_eq_true rfl) fun h32 o33 => (K.mv2 (bnd h fun l34 hl34 h => (kapR rfl ety30 rfl hl34 o24 o33 fun h35 A36 k37 o38 => (kx 1 (knt ?_)))))))))
  obtain ⟨J46, hJ46, h⟩ := joinSplit h
  refine k_cut (τ := (List Tree) × Int × Int × Frag × (Option Addr) × Nat) (fun t => [(0, pt b0), (1, iv a1), (4, pt b1), (5, .slice t.2.2.2.2.1 t.1.length t.2.2.2.2.2)]) (fun t => bk b0 #[.slice A_a0_0 a0_0.length c_a0_0, iv t.2.1, iv t.2.2.1] 57 :: bk b1 #[iv 0, sv noS, iv 0, iv 0, nS] 32 :: t.2.2.2.1 :: X) (fun t => J46 t.1 t.2.1 t.2.2.1 = some r ∧ OwnR (rTree 32) 32 t.2.2.2.1 (.slice t.2.2.2.2.1 t.1.length t.2.2.2.2.2) t.1) ?_ ?_
  ·rintro ⟨l39, x44, x45, h40, A41, k42⟩ ⟨h, o43⟩
   subst hJ46
   refine ksr (kx 3 (bnd h fun r47 hr47 h => (kcl (hR.r12_reader_body (b0 := b0) hr47 R_a0_0) rfl ⟨(t2 hm_H_a0_0), trivial⟩ ?_)))
   rintro _ _ ⟨h48, A49, k50, o51, rfl, rfl⟩
   refine nx_ret2 (kns #[iv r47.1, sv r47.2.1, iv r47.2.2.1, iv r47.2.2.2.1, .slice A49 r47.2.2.2.2.1.length k50] 32 1 fun b52 => (K.mv1 (K.mv1 (k_row (T := 32) (n := 1) (xs := [(Tree.mk r47.1 r47.2.1 r47.2.2.1 r47.2.2.2.1 r47.2.2.2.2.1)]) (RowI.one (treeO_mk (k := r47.1) (t := r47.2.1) (n := r47.2.2.1) (a := r47.2.2.2.1) 32 o51)) rfl rfl (Nat.le_of_ble_eq_true rfl) fun h53 o54 => (K.mv3 (bnd h fun l55 hl55 h => (kapR rfl ety30 rfl hl55 o43 o54 fun h56 A57 k58 o59 => (kx 1 (K.mv2 (kst 0 5 #[iv 26, sv noS, iv 0, iv a1, .slice A57 l55.length k58] ?_))))))))))
   refine knt (k_ret (k_then_ret ?_))
   obtain rfl := Option.some.inj h
   exact kda 0 5 rfl [h56, bk b0 #[.slice A_a0_0 a0_0.length c_a0_0, iv r47.2.2.2.2.2.1, iv r47.2.2.2.2.2.2] 57] (K.drop (k_end ⟨h56, A57, k58, o59, rfl, rfl⟩))
  ·skip
   refine ksr (kx 1 (K.mv1 (bnd h fun r60 hr60 h => (kc1 (r12_reader_take.ok (b0 := b0) hr60 R_a0_0) rfl ⟨(t2 hm_H_a0_0), trivial⟩ (knt ?_)))))
   refine kcn h (fun h => ?_) fun h => ?_
   ·refine k_region (kx 2 (bnd h fun r62 hr62 h => (kcl (r12_reader_exp.ok (b0 := b0) hr62 R_a0_0) rfl ⟨(t2 hm_H_a0_0), trivial⟩ ?_)))
    rintro _ _ ⟨h63, A64, k65, o66, rfl, rfl⟩
    refine nx_ret2 (kns #[iv r62.1, sv r62.2.1, iv r62.2.2.1, iv r62.2.2.2.1, .slice A64 r62.2.2.2.2.1.length k65] 32 1 fun b67 => (K.mv1 (K.mv1 (k_row (T := 32) (n := 1) (xs := [(Tree.mk r62.1 r62.2.1 r62.2.2.1 r62.2.2.2.1 r62.2.2.2.2.1)]) (RowI.one (treeO_mk (k := r62.1) (t := r62.2.1) (n := r62.2.2.1) (a := r62.2.2.2.1) 32 o66)) rfl rfl (Nat.le_of_ble_eq_true rfl) fun h68 o69 => (K.mv2 (bnd h fun l70 hl70 h => (kapR rfl ety30 rfl hl70 o38 o69 fun h71 A72 k73 o74 => (kx 1 (knt (K.mv2 ?_))))))))))
    exact K.mv2 (k_meet (l70, r62.2.2.2.2.2.1, r62.2.2.2.2.2.2, h71, A72, k73) ⟨h, o74⟩ sb rfl)
   ·exact k_skip (k_then (K.mv1 (K.mv2 (K.mv2 (k_meet (l34, r60.2, r26.2.2.2.2.2.2, h35, A36, k37) ⟨h, o38⟩ sb rfl)))))
 ·refine k_skip (k_then ?_)
  obtain ⟨J82, hJ82, h⟩ := joinSplit h
  refine k_cut (τ := (List Tree) × Int × Int × Frag × (Option Addr) × Nat) (fun t => [(0, pt b0), (1, iv a1), (4, pt b1), (5, .slice t.2.2.2.2.1 t.1.length t.2.2.2.2.2)]) (fun t => bk b0 #[.slice A_a0_0 a0_0.length c_a0_0, iv t.2.1, iv t.2.2.1] 57 :: bk b1 #[iv 0, sv noS, iv 0, iv 0, nS] 32 :: t.2.2.2.1 :: X) (fun t => J82 t.1 t.2.1 t.2.2.1 = some r ∧ OwnR (rTree 32) 32 t.2.2.2.1 (.slice t.2.2.2.2.1 t.1.length t.2.2.2.2.2) t.1) ?_ ?_
  ·rintro ⟨l75, x80, x81, h76, A77, k78⟩ ⟨h, o79⟩
   subst hJ82
   refine ksr (kx 4 (knp #[iv 0, sv noS, iv 0, iv 0, nS] 32 fun b83 => (kst 0 5 #[iv 27, sv noS, iv ((l75.length : Nat) : Int), iv a1, nS] (kns' (kx 1 (K.mv1 (bnd h fun r84 hr84 h => (kc1 (r12_reader_need.ok (b0 := b0) hr84 R_a0_0) rfl ⟨(t3 hm_H_a0_0), trivial⟩ (kns' (kx 2 ?_))))))))))
   refine bnd h fun r85 hr85 h => (kcl (r12_reader_list.ok (b0 := b0) hr85 R_a0_0) rfl ⟨(t3 hm_H_a0_0), trivial⟩ ?_)
   rintro _ _ ⟨h86, A87, k88, o89, rfl, rfl⟩
   refine nx_ret2 (K.mv4 (bnd h fun l90 hl90 h => (kapR rfl ety30 rfl hl90 o79 o89 fun h91 A92 k93 o94 => (kx 1 (kns' (kx 2 (K.mv1 (bnd h fun r95 hr95 h => (kcl (hR.r12_reader_body (b0 := b0) hr95 R_a0_0) rfl ⟨(t3 hm_H_a0_0), trivial⟩ ?_)))))))))
   rintro _ _ ⟨h96, A97, k98, o99, rfl, rfl⟩
   refine nx_ret2 (kns #[iv r95.1, sv r95.2.1, iv r95.2.2.1, iv r95.2.2.2.1, .slice A97 r95.2.2.2.2.1.length k98] 32 1 fun b100 => (K.mv1 (K.mv1 (k_row (T := 32) (n := 1) (xs := [(Tree.mk r95.1 r95.2.1 r95.2.2.1 r95.2.2.2.1 r95.2.2.2.2.1)]) (RowI.one (treeO_mk (k := r95.1) (t := r95.2.1) (n := r95.2.2.1) (a := r95.2.2.2.1) 32 o99)) rfl rfl (Nat.le_of_ble_eq_true rfl) fun h101 o102 => (K.mv2 (bnd h fun l103 hl103 h => (kapR rfl ety30 rfl hl103 o94 o102 fun h104 A105 k106 o107 => (kx 1 (K.mv2 (kst 4 1 #[iv 27, sv noS, iv ((l75.length : Nat) : Int), iv a1, .slice A105 l103.length k106] ?_))))))))))
   refine kns' (kla 0 0 5 rfl (K.drop (K.mv2 (kst 0 5 #[iv 27, sv noS, iv ((l75.length : Nat) : Int), iv a1, .slice A105 l103.length k106] (knt (k_ret ?_))))))
   obtain rfl := Option.some.inj h
   exact kda 0 5 rfl [h104, bk b0 #[.slice A_a0_0 a0_0.length c_a0_0, iv r95.2.2.2.2.2.1, iv r95.2.2.2.2.2.2] 57] (K.drop (k_end ⟨h104, A105, k106, o107, rfl, rfl⟩))
  ·skip
   refine k_block (K.mv2 (K.mv2 (k_row (T := 32) (n := 1) (xs := [(Tree.mk r2.1 r2.2.1 r2.2.2.1 r2.2.2.2.1 r2.2.2.2.2.1)]) (RowI.one (treeO_mk (k := r2.1) (t := r2.2.1) (n := r2.2.2.1) (a := r2.2.2.2.1) 32 o6)) rfl rfl (Nat.le_of_ble_eq_true rfl) fun h116 o117 => (K.mv2 (K.mv2 (k_loop (τ := (List Tree) × Int × Int × Frag × (Option Addr) × Nat) (fun t => [(0, pt b0), (1, iv a1), (4, pt b1), (5, .slice t.2.2.2.2.1 t.1.length t.2.2.2.2.2)]) (fun t => bk b0 #[.slice A_a0_0 a0_0.length c_a0_0, iv t.2.1, iv t.2.2.1] 57 :: bk b1 #[iv 0, sv noS, iv 0, iv 0, nS] 32 :: t.2.2.2.1 :: X) (fun m t => r12_reader_loop.l0 m a0_0 J82 t.1 t.2.1 t.2.2.1 = some r ∧ OwnR (rTree 32) 32 t.2.2.2.1 (.slice t.2.2.2.2.1 t.1.length t.2.2.2.2.2) t.1) k ([(Tree.mk r2.1 r2.2.1 r2.2.2.1 r2.2.2.2.1 r2.2.2.2.2.1)], r8.2, r2.2.2.2.2.2.2, h116, (some ⟨b7, 0, none⟩), 1) ⟨h, o117⟩ sb rfl ?_))))))
   clear h
   rintro m115 ⟨l108, x113, x114, h109, A110, k111⟩ ⟨h, o112⟩
   cases m115 with
   | zero => simp [r12_reader_loop.l0] at h
   | succ m115 =>
    simp only [r12_reader_loop.l0] at h
    refine k_seq (ksr (kx 1 (bnd h fun r118 hr118 h => (kc1 (r12_reader_take.ok (b0 := b0) hr118 R_a0_0) rfl ⟨(t2 hm_H_a0_0), trivial⟩ (knt ?_)))))
    refine kcn h (fun h => ?_) fun h => ?_
    ·refine k_skip (k_then (k_block (k_region (kx 2 (bnd h fun r120 hr120 h => (kcl (r12_reader_name.ok (b0 := b0) hr120 R_a0_0) rfl ⟨(t2 hm_H_a0_0), trivial⟩ ?_))))))
     rintro _ _ ⟨h121, A122, k123, o124, rfl, rfl⟩
     refine nx_ret2 (kns #[iv r120.1, sv r120.2.1, iv r120.2.2.1, iv r120.2.2.2.1, .slice A122 r120.2.2.2.2.1.length k123] 32 1 fun b125 => (K.mv1 (K.mv1 (k_row (T := 32) (n := 1) (xs := [(Tree.mk r120.1 r120.2.1 r120.2.2.1 r120.2.2.2.1 r120.2.2.2.2.1)]) (RowI.one (treeO_mk (k := r120.1) (t := r120.2.1) (n := r120.2.2.1) (a := r120.2.2.2.1) 32 o124)) rfl rfl (Nat.le_of_ble_eq_true rfl) fun h126 o127 => (K.mv3 (bnd h fun l128 hl128 h => (kapR rfl ety30 rfl hl128 o112 o127 fun h129 A130 k131 o132 => (kx 1 (knl (k_blk ?_))))))))))
     exact k_then (K.mv2 (K.mv2 (k_again m115 (l128, r120.2.2.2.2.2.1, r120.2.2.2.2.2.2, h129, A130, k131) (Nat.lt_succ_self _) ⟨h, o132⟩ sb rfl)))
    ·exact k_exit (k_then_exit (k_then_exit (k_here (k_then (k_meet (l108, r118.2, x114, h109, A110, k111) ⟨h, o112⟩ sb rfl)))))
def r12_reader_plain.l0 : Nat → (a0_0 : List (Int × ByteArray × Int × Int)) → (J27 : (List Tree) → Int → Int → Option (Int × ByteArray × Int × Int × List Tree × Int × Int)) → (l39 : List Tree) → (x44 : Int) → (x45 : ByteArray) → (x46 : Int) → (x47 : Int) → (l48 : List Tree) → (x53 : Int) → (x54 : Int) → Option (Int × ByteArray × Int × Int × List Tree × Int × Int)
 | 0, _, _, _, _, _, _, _, _, _, _ => none
 | m55 + 1, a0_0, J27, l39, x44, x45, x46, x47, l48, x53, x54 => cond (decide (x54 < 0)) (joinF (fun (x57 : Int) (x58 : Int) => (apd 64 l39 [(Tree.mk x44 x45 x46 x47 l48)]).bind fun l63 => (r12_reader_take.f m55 a0_0 x57 x58 (⟨#[44]⟩ : ByteArray)).bind fun r68 => cond (!r68.1) (J27 l63 r68.2 x58) ((r12_reader_suffixed.f m55 a0_0 r68.2 x58).bind fun r70 => r12_reader_plain.l0 m55 a0_0 J27 l63 r70.1 r70.2.1 r70.2.2.1 r70.2.2.2.1 r70.2.2.2.2.1 r70.2.2.2.2.2.1 r70.2.2.2.2.2.2)) (fun J59 => (cond (x44 != 6) (some (x44 != 7)) (some false) : Option Bool).bind fun q75 => cond q75 ((r12_reader_bad.f m55 a0_0 x53 x54 x47).bind fun r77 => J59 r77.1 r77.2) (J59 x53 x54))) (J27 l39 x53 x54)
def r12_reader_plain.g (Rc : RS) (k : Nat) (a0_0 : List (Int × ByteArray × Int × Int)) (a0_1 : Int) (a0_2 : Int) (a1 : Int) : Option (Int × ByteArray × Int × Int × List Tree × Int × Int) := (r12_reader_suffixed.f k a0_0 a0_1 a0_2).bind fun r2 => ((r12_reader_see.f k a0_0 r2.2.2.2.2.2.1 r2.2.2.2.2.2.2 (⟨#[61]⟩ : ByteArray)).bind fun r79 => cond (!r79) ((r12_reader_see.f k a0_0 r2.2.2.2.2.2.1 r2.2.2.2.2.2.2 (⟨#[44]⟩ : ByteArray)).bind fun r81 => some (!r81)) (some false) : Option Bool).bind fun q8 => cond q8 (joinF (fun (x10 : Int) (x11 : Int) => some (23, (⟨#[]⟩ : ByteArray), 0, a1, [(Tree.mk r2.1 r2.2.1 r2.2.2.1 r2.2.2.2.1 r2.2.2.2.2.1)], x10, x11)) (fun J12 => cond (r2.1 != 8) ((r12_reader_at.f k a0_0 r2.2.2.2.2.2.1 r2.2.2.2.2.2.2).bind fun r17 => (r12_reader_bad.f k a0_0 r2.2.2.2.2.2.1 r2.2.2.2.2.2.2 r17).bind fun r18 => J12 r18.1 r18.2) (J12 r2.2.2.2.2.2.1 r2.2.2.2.2.2.2))) (joinF (fun (l20 : List Tree) (x25 : Int) (x26 : Int) => (r12_reader_need.f k a0_0 x25 x26 (⟨#[61]⟩ : ByteArray)).bind fun r28 => (r12_reader_list.f k a0_0 r28.1 r28.2).bind fun r29 => (apd 64 l20 r29.1).bind fun l34 => some (22, (⟨#[]⟩ : ByteArray), ((l20.length : Nat) : Int), a1, l34, r29.2.1, r29.2.2)) (fun J27 => r12_reader_plain.l0 k a0_0 J27 ([]) r2.1 r2.2.1 r2.2.2.1 r2.2.2.2.1 r2.2.2.2.2.1 r2.2.2.2.2.2.1 r2.2.2.2.2.2.2))
set_option maxRecDepth 100000 in
theorem r12_reader_plain.okg {Rc : RS} (hR : Rc.Good) {k : Nat} {a0_0 : List (Int × ByteArray × Int × Int)} {a0_1 : Int} {a0_2 : Int} {a1 : Int} {b0 : Nat} {H_a0_0 : Frag} {A_a0_0 : Option Addr} {c_a0_0 : Nat} {r : Int × ByteArray × Int × Int × List Tree × Int × Int} (h : r12_reader_plain.g Rc k a0_0 a0_1 a0_2 a1 = some r) (R_a0_0 : RdT e59 4 H_a0_0 (.slice A_a0_0 a0_0.length c_a0_0) a0_0) : Ct Tryz.prog 72 #[pt b0, iv a1] [bk b0 #[.slice A_a0_0 a0_0.length c_a0_0, iv a0_1, iv a0_2] 57] [H_a0_0] (fun e l1 => ∃ (H0_ : Frag) (A0_ : Option Addr) (c0_ : Nat), OwnR (rTree 32) 32 H0_ (.slice A0_ r.2.2.2.2.1.length c0_) r.2.2.2.2.1 ∧ e = .returned (.agg #[iv r.1, sv r.2.1, iv r.2.2.1, iv r.2.2.2.1, .slice A0_ r.2.2.2.2.1.length c0_]) ∧ l1 = [H0_, bk b0 #[.slice A_a0_0 a0_0.length c_a0_0, iv r.2.2.2.2.2.1, iv r.2.2.2.2.2.2] 57]) := by
 refine ct_enter (args := [pt b0, iv a1]) Tryz.func72 rfl (Nat.le_of_ble_eq_true rfl) ?_
 intro A X hh_
 obtain ⟨hm_H_a0_0, _⟩ := hh_
 unfold r12_reader_plain.g at h
 refine K.eq (env' := [(0, pt b0), (1, iv a1)]) (l' := bk b0 #[.slice A_a0_0 a0_0.length c_a0_0, iv a0_1, iv a0_2] 57 :: X) rfl rfl (ksr (knp #[iv 0, sv noS, iv 0, iv 0, nS] 32 fun b1 => (kns' (kx 1 (K.mv1 (bnd h fun r2 hr2 h => (kcl (r12_reader_suffixed.ok (b0 := b0) hr2 R_a0_0) rfl ⟨(.tail _ hm_H_a0_0), trivial⟩ ?_)))))))
 rintro _ _ ⟨h3, A4, k5, o6, rfl, rfl⟩
 refine nx_ret2 (knp #[iv 0, sv noS, iv 0, iv 0, nS] 32 fun b7 => (kst 0 5 #[iv r2.1, sv r2.2.1, iv r2.2.2.1, iv r2.2.2.2.1, .slice A4 r2.2.2.2.2.1.length k5] (knt (k_seq (bnd h fun q8 hq8 h => ?_)))))
 refine k_cut1 [(0, pt b0), (1, iv a1), (4, pt b1), (5, pt b7), (16, bv q8)] (bk b7 #[iv r2.1, sv r2.2.1, iv r2.2.2.1, iv r2.2.2.2.1, .slice A4 r2.2.2.2.2.1.length k5] 32 :: h3 :: bk b0 #[.slice A_a0_0 a0_0.length c_a0_0, iv r2.2.2.2.2.2.1, iv r2.2.2.2.2.2.2] 57 :: bk b1 #[iv 0, sv noS, iv 0, iv 0, nS] 32 :: X) ?_ ?_
 ·clear hq8
  refine kcn h (fun h => ?_) fun h => ?_
  ·obtain ⟨J12, hJ12, h⟩ := joinSplit h
   refine k_cut (τ := Int × Int) (fun t => [(1, iv a1), (4, pt b1), (5, pt b7)]) (fun t => bk b7 #[iv r2.1, sv r2.2.1, iv r2.2.2.1, iv r2.2.2.2.1, .slice A4 r2.2.2.2.2.1.length k5] 32 :: h3 :: bk b0 #[.slice A_a0_0 a0_0.length c_a0_0, iv t.1, iv t.2] 57 :: bk b1 #[iv 0, sv noS, iv 0, iv 0, nS] 32 :: X) (fun t => J12 t.1 t.2 = some r) ?_ ?_
   ·rintro ⟨x10, x11⟩ h
    subst hJ12
    refine ksr (kx 1 (kla 0 0 5 rfl (K.drop (kns #[iv r2.1, sv r2.2.1, iv r2.2.2.1, iv r2.2.2.2.1, .slice A4 r2.2.2.2.2.1.length k5] 32 1 fun b13 => (kx 1 (K.mv3 (kst 0 5 #[iv 23, sv noS, iv 0, iv a1, .slice (some ⟨b13, 0, none⟩) 1 1] (knt (k_ret (k_then_ret ?_))))))))))
    refine K.mv2 (K.mv2 (k_row (T := 32) (n := 1) (xs := [(Tree.mk r2.1 r2.2.1 r2.2.2.1 r2.2.2.2.1 r2.2.2.2.2.1)]) (RowI.one (treeO_mk (k := r2.1) (t := r2.2.1) (n := r2.2.2.1) (a := r2.2.2.2.1) 32 o6)) rfl rfl (Nat.le_of_ble_eq_true rfl) fun h14 o15 => ?_))
    obtain rfl := Option.some.inj h
    exact kda 1 5 rfl [h14, bk b0 #[.slice A_a0_0 a0_0.length c_a0_0, iv x10, iv x11] 57] (K.mv1 (K.drop (k_end ⟨h14, (some ⟨b13, 0, none⟩), 1, o15, rfl, rfl⟩)))
   ·skip
    refine ksr (kx 1 (kld 0 0 rfl (kx 1 (knt ?_))))
    refine kcn h (fun h => ?_) fun h => ?_
    ·refine k_region (kx 2 (K.mv2 (bnd h fun r17 hr17 h => (kc1 (r12_reader_at.ok (b0 := b0) hr17 R_a0_0) rfl ⟨(t3 hm_H_a0_0), trivial⟩ (bnd h fun r18 hr18 h => (kc1 (r12_reader_bad.ok (b0 := b0) hr18 R_a0_0) rfl ⟨(t3 hm_H_a0_0), trivial⟩ (knt (K.mv3 (K.mv1 (K.mv3 ?_))))))))))
     exact K.mv3 (k_meet (r18.1, r18.2) h sb rfl)
    ·exact k_skip (k_then (k_meet (r2.2.2.2.2.2.1, r2.2.2.2.2.2.2) h sb rfl))
  ·refine k_skip (k_then (ksr (kx 2 (knp #[iv 0, sv noS, iv 0, iv 0, nS] 32 fun b19 => (kst 0 5 #[iv 22, sv noS, iv 0, iv a1, nS] (knt ?_))))))
   obtain ⟨J27, hJ27, h⟩ := joinSplit h
   refine k_cut (τ := (List Tree) × Int × Int × Frag × (Option Addr) × Nat) (fun t => [(0, pt b0), (4, pt b1), (6, pt b19)]) (fun t => bk b19 #[iv 22, sv noS, iv 0, iv a1, .slice t.2.2.2.2.1 t.1.length t.2.2.2.2.2] 32 :: bk b0 #[.slice A_a0_0 a0_0.length c_a0_0, iv t.2.1, iv t.2.2.1] 57 :: bk b1 #[iv 0, sv noS, iv 0, iv 0, nS] 32 :: t.2.2.2.1 :: X) (fun t => J27 t.1 t.2.1 t.2.2.1 = some r ∧ OwnR (rTree 32) 32 t.2.2.2.1 (.slice t.2.2.2.2.1 t.1.length t.2.2.2.2.2) t.1) ?_ ?_
   ·rintro ⟨l20, x25, x26, h21, A22, k23⟩ ⟨h, o24⟩
    subst hJ27
    refine ksr (kx 1 (kld 0 4 rfl (kx 2 (kst 2 1 #[iv 22, sv noS, iv ((l20.length : Nat) : Int), iv a1, .slice A22 l20.length k23] (kns' (kx 1 (K.mv1 (bnd h fun r28 hr28 h => (kc1 (r12_reader_need.ok (b0 := b0) hr28 R_a0_0) rfl ⟨(t3 hm_H_a0_0), trivial⟩ (knt ?_))))))))))
    refine k_seq (kpr [(0, 0), (1, 3), (2, 0), (3, 1)] [1] (kpx 1 (kpd 0 4 rfl (kpx 1 (kpt (bnd h fun r29 hr29 h => (ocl (r12_reader_list.ok (b0 := b0) hr29 R_a0_0) rfl ⟨(t3 hm_H_a0_0), trivial⟩ ?_)))))))
    rintro _ _ ⟨h30, A31, k32, o33, rfl, rfl⟩
    refine nx_ret2 (kan [2] rfl (kpz (K.mv4 (bnd h fun l34 hl34 h => (kapR rfl ety30 rfl hl34 o24 o33 fun h35 A36 k37 o38 => (kx 1 (K.mv2 (kst 4 1 #[iv 22, sv noS, iv ((l20.length : Nat) : Int), iv a1, .slice A36 l34.length k37] (kns' (kla 0 0 5 rfl ?_))))))))))
    refine K.drop (K.mv2 (kst 0 5 #[iv 22, sv noS, iv ((l20.length : Nat) : Int), iv a1, .slice A36 l34.length k37] (knt (k_ret ?_))))
    obtain rfl := Option.some.inj h
    exact kda 0 5 rfl [h35, bk b0 #[.slice A_a0_0 a0_0.length c_a0_0, iv r29.2.1, iv r29.2.2] 57] (K.drop (k_end ⟨h35, A36, k37, o38, rfl, rfl⟩))
   ·skip
    refine k_block (k_none (K.mv3 (K.mv1 (K.mvN [_, _, _, _, _] _ _ (K.mvN [_, _, _, _, _] _ _ (K.mvN [_, _, _, _, _] _ _ (K.mvN [_, _, _, _, _] _ _ (k_loop (τ := (List Tree) × Int × ByteArray × Int × Int × (List Tree) × Int × Int × Frag × (Option Addr) × Nat × Frag × (Option Addr) × Nat) (fun t => [(0, pt b0), (4, pt b1), (5, pt b7), (6, pt b19)]) (fun t => bk b19 #[iv 22, sv noS, iv 0, iv a1, .slice t.2.2.2.2.2.2.2.2.2.1 t.1.length t.2.2.2.2.2.2.2.2.2.2.1] 32 :: bk b7 #[iv t.2.1, sv t.2.2.1, iv t.2.2.2.1, iv t.2.2.2.2.1, .slice t.2.2.2.2.2.2.2.2.2.2.2.2.1 t.2.2.2.2.2.1.length t.2.2.2.2.2.2.2.2.2.2.2.2.2] 32 :: bk b0 #[.slice A_a0_0 a0_0.length c_a0_0, iv t.2.2.2.2.2.2.1, iv t.2.2.2.2.2.2.2.1] 57 :: bk b1 #[iv 0, sv noS, iv 0, iv 0, nS] 32 :: t.2.2.2.2.2.2.2.2.1 :: t.2.2.2.2.2.2.2.2.2.2.2.1 :: X) (fun m t => r12_reader_plain.l0 m a0_0 J27 t.1 t.2.1 t.2.2.1 t.2.2.2.1 t.2.2.2.2.1 t.2.2.2.2.2.1 t.2.2.2.2.2.2.1 t.2.2.2.2.2.2.2.1 = some r ∧ OwnR (rTree 32) 32 t.2.2.2.2.2.2.2.2.1 (.slice t.2.2.2.2.2.2.2.2.2.1 t.1.length t.2.2.2.2.2.2.2.2.2.2.1) t.1 ∧ OwnR (rTree 32) 32 t.2.2.2.2.2.2.2.2.2.2.2.1 (.slice t.2.2.2.2.2.2.2.2.2.2.2.2.1 t.2.2.2.2.2.1.length t.2.2.2.2.2.2.2.2.2.2.2.2.2) t.2.2.2.2.2.1) k ([], r2.1, r2.2.1, r2.2.2.1, r2.2.2.2.1, r2.2.2.2.2.1, r2.2.2.2.2.2.1, r2.2.2.2.2.2.2, none_, none, 0, h3, A4, k5) ⟨h, (OwnR.nil (rTree 32) 32 none_), o6⟩ sb rfl ?_))))))))
    clear h
    rintro m55 ⟨l39, x44, x45, x46, x47, l48, x53, x54, h40, A41, k42, h49, A50, k51⟩ ⟨h, o43, o52⟩
    cases m55 with
    | zero => simp [r12_reader_plain.l0] at h
    | succ m55 =>
     simp only [r12_reader_plain.l0] at h
     refine k_seq (ksr (kx 3 (kld 2 2 rfl (kx 1 (knt ?_)))))
     refine kcn h (fun h => ?_) fun h => ?_
     ·refine k_skip (k_then (k_block ?_))
      obtain ⟨J59, hJ59, h⟩ := joinSplit h
      refine k_cut (τ := Int × Int) (fun t => [(0, pt b0), (4, pt b1), (5, pt b7), (6, pt b19)]) (fun t => bk b19 #[iv 22, sv noS, iv 0, iv a1, .slice A41 l39.length k42] 32 :: bk b7 #[iv x44, sv x45, iv x46, iv x47, .slice A50 l48.length k51] 32 :: bk b0 #[.slice A_a0_0 a0_0.length c_a0_0, iv t.1, iv t.2] 57 :: bk b1 #[iv 0, sv noS, iv 0, iv 0, nS] 32 :: h40 :: h49 :: X) (fun t => J59 t.1 t.2 = some r) ?_ ?_
      ·rintro ⟨x57, x58⟩ h
       subst hJ59
       refine ksr (kx 1 (kld 0 4 rfl (kla 1 0 5 rfl (kns #[iv x44, sv x45, iv x46, iv x47, .slice A50 l48.length k51] 32 1 fun b60 => (K.mvN [_, _, _, _, _, _] _ _ (K.mv1 (k_row (T := 32) (n := 1) (xs := [(Tree.mk x44 x45 x46 x47 l48)]) (RowI.one (treeO_mk (k := x44) (t := x45) (n := x46) (a := x47) 32 o52)) rfl rfl (Nat.le_of_ble_eq_true rfl) fun h61 o62 => (K.mvN [_, _, _, _, _] _ _ (bnd h fun l63 hl63 h => (kapR rfl ety30 rfl hl63 o43 o62 fun h64 A65 k66 o67 => ?_))))))))))
       refine kx 1 (K.mv1 (kst 4 1 #[iv 22, sv noS, iv 0, iv a1, .slice A65 l63.length k66] (knt (k_seq (ksr (kx 1 (K.mv3 (bnd h fun r68 hr68 h => (kc1 (r12_reader_take.ok (b0 := b0) hr68 R_a0_0) rfl ⟨(t4 hm_H_a0_0), trivial⟩ (kx 1 ?_))))))))))
       refine knt ?_
       refine kcn h (fun h => ?_) fun h => ?_
       ·refine k_exit (k_then_exit (k_there rfl (k_then_exit (k_here (k_then (K.mv3 (K.drop (K.mv2 (K.mv3 (K.mv2 ?_))))))))))
        exact K.mv3 (k_meet (l63, r68.2, x58, h64, A65, k66) ⟨h, o67⟩ sb rfl)
       ·refine k_skip (k_then (k_region (kx 1 (bnd h fun r70 hr70 h => (kcl (r12_reader_suffixed.ok (b0 := b0) hr70 R_a0_0) rfl ⟨(t4 hm_H_a0_0), trivial⟩ ?_)))))
        rintro _ _ ⟨h71, A72, k73, o74, rfl, rfl⟩
        refine nx_ret2 (K.mv4 (kst 0 5 #[iv r70.1, sv r70.2.1, iv r70.2.2.1, iv r70.2.2.2.1, .slice A72 r70.2.2.2.2.1.length k73] (knl (k_blk (k_then (K.mv1 (K.mv4 (K.mvN [_, _, _, _, _] _ _ (K.mv4 (K.mv4 ?_))))))))))
        exact K.mvN [_, _, _, _, _] _ _ (k_again m55 (l63, r70.1, r70.2.1, r70.2.2.1, r70.2.2.2.1, r70.2.2.2.2.1, r70.2.2.2.2.2.1, r70.2.2.2.2.2.2, h64, A65, k66, h71, A72, k73) (Nat.lt_succ_self _) ⟨h, o67, o74⟩ sb rfl)
      ·skip
       refine bnd h fun q75 hq75 h => ?_
       refine k_cut1 [(0, pt b0), (4, pt b1), (5, pt b7), (6, pt b19), (42, bv q75)] (bk b19 #[iv 22, sv noS, iv 0, iv a1, .slice A41 l39.length k42] 32 :: bk b7 #[iv x44, sv x45, iv x46, iv x47, .slice A50 l48.length k51] 32 :: bk b0 #[.slice A_a0_0 a0_0.length c_a0_0, iv x53, iv x54] 57 :: bk b1 #[iv 0, sv noS, iv 0, iv 0, nS] 32 :: h40 :: h49 :: X) ?_ ?_
       ·clear hq75
        refine kcn h (fun h => ?_) fun h => ?_
        ·refine k_region (kx 2 (kld 1 3 rfl (K.mv2 (bnd h fun r77 hr77 h => (kc1 (r12_reader_bad.ok (b0 := b0) hr77 R_a0_0) rfl ⟨(t5 hm_H_a0_0), trivial⟩ (knt (K.mvN [_, _, _, _, _] _ _ (K.mvN [_, _, _, _, _] _ _ (K.mvN [_, _, _, _, _] _ _ (K.mv3 ?_))))))))))
         exact K.mvN [_, _, _, _, _] _ _ (K.mvN [_, _, _, _, _] _ _ (k_meet (r77.1, r77.2) h sb rfl))
        ·exact k_skip (k_then (k_meet (x53, x54) h sb rfl))
       ·have h := hq75
        clear hq75
        refine k_region (kx 1 (kld 1 0 rfl (kx 2 ?_)))
        refine kcs 38 h (fun h => ?_) fun h => ?_
        ·exact kx 1 (kld 1 0 rfl (kx 2 (knt (k_meet1 ⟨gr, gr, gr, gr, gb (Option.some.inj h), trivial⟩))))
        ·exact kx 4 (knt (k_meet1 ⟨gr, gr, gr, gr, gb (Option.some.inj h), trivial⟩))
     ·exact k_exit (k_then_exit (k_then_exit (k_here (k_then (K.mv1 (K.drop (K.mv4 (K.drop (k_meet (l39, x53, x54, h40, A41, k42) ⟨h, o43⟩ sb rfl)))))))))
 ·have h := hq8
  clear hq8
  refine k_region (kx 1 (K.mv2 (bnd h fun r79 hr79 h => (kc1 (r12_reader_see.ok (b0 := b0) hr79 R_a0_0) rfl ⟨(t3 hm_H_a0_0), trivial⟩ (kx 2 ?_)))))
  refine kcs 12 h (fun h => ?_) fun h => ?_
  ·exact kx 1 (bnd h fun r81 hr81 h => (kc1 (r12_reader_see.ok (b0 := b0) hr81 R_a0_0) rfl ⟨(t3 hm_H_a0_0), trivial⟩ (kx 2 (knt (K.mv3 (K.mv1 (K.mv3 (K.mv3 (k_meet1 ⟨gr, gr, gr, gr, gb (Option.some.inj h), trivial⟩)))))))))
  ·exact kx 4 (knt (K.mv3 (K.mv1 (K.mv3 (K.mv3 (k_meet1 ⟨gr, gr, gr, gr, gb (Option.some.inj h), trivial⟩))))))
def r12_reader_body.g (Rc : RS) (k : Nat) (a0_0 : List (Int × ByteArray × Int × Int)) (a0_1 : Int) (a0_2 : Int) : Option (Int × ByteArray × Int × Int × List Tree × Int × Int) := (r12_reader_need.f k a0_0 a0_1 a0_2 (⟨#[100, 111]⟩ : ByteArray)).bind fun r2 => (Rc.r12_reader_block a0_0 r2.1 r2.2 false).bind fun r3 => (r12_reader_need.f k a0_0 r3.2.2.2.2.2.1 r3.2.2.2.2.2.2 (⟨#[101, 110, 100]⟩ : ByteArray)).bind fun r9 => some (r3.1, r3.2.1, r3.2.2.1, r3.2.2.2.1, r3.2.2.2.2.1, r9.1, r9.2)
set_option maxRecDepth 100000 in
theorem r12_reader_body.okg {Rc : RS} (hR : Rc.Good) {k : Nat} {a0_0 : List (Int × ByteArray × Int × Int)} {a0_1 : Int} {a0_2 : Int} {b0 : Nat} {H_a0_0 : Frag} {A_a0_0 : Option Addr} {c_a0_0 : Nat} {r : Int × ByteArray × Int × Int × List Tree × Int × Int} (h : r12_reader_body.g Rc k a0_0 a0_1 a0_2 = some r) (R_a0_0 : RdT e59 4 H_a0_0 (.slice A_a0_0 a0_0.length c_a0_0) a0_0) : Ct Tryz.prog 70 #[pt b0] [bk b0 #[.slice A_a0_0 a0_0.length c_a0_0, iv a0_1, iv a0_2] 57] [H_a0_0] (fun e l1 => ∃ (H0_ : Frag) (A0_ : Option Addr) (c0_ : Nat), OwnR (rTree 32) 32 H0_ (.slice A0_ r.2.2.2.2.1.length c0_) r.2.2.2.2.1 ∧ e = .returned (.agg #[iv r.1, sv r.2.1, iv r.2.2.1, iv r.2.2.2.1, .slice A0_ r.2.2.2.2.1.length c0_]) ∧ l1 = [H0_, bk b0 #[.slice A_a0_0 a0_0.length c_a0_0, iv r.2.2.2.2.2.1, iv r.2.2.2.2.2.2] 57]) := by
 refine ct_enter (args := [pt b0]) Tryz.func70 rfl (Nat.le_of_ble_eq_true rfl) ?_
 intro A X hh_
 obtain ⟨hm_H_a0_0, _⟩ := hh_
 unfold r12_reader_body.g at h
 refine K.eq (env' := [(0, pt b0)]) (l' := bk b0 #[.slice A_a0_0 a0_0.length c_a0_0, iv a0_1, iv a0_2] 57 :: X) rfl rfl (ksr (knp #[iv 0, sv noS, iv 0, iv 0, nS] 32 fun b1 => (kns' (kx 1 (K.mv1 (bnd h fun r2 hr2 h => (kc1 (r12_reader_need.ok (b0 := b0) hr2 R_a0_0) rfl ⟨(.tail _ hm_H_a0_0), trivial⟩ (kns' (kx 1 (bnd h fun r3 hr3 h => ?_))))))))))
 refine kcl (hR.r12_reader_block (b0 := b0) hr3 R_a0_0) rfl ⟨(.tail _ hm_H_a0_0), trivial⟩ ?_
 rintro _ _ ⟨h4, A5, k6, o7, rfl, rfl⟩
 refine nx_ret2 (knp #[iv 0, sv noS, iv 0, iv 0, nS] 32 fun b8 => (kst 0 5 #[iv r3.1, sv r3.2.1, iv r3.2.2.1, iv r3.2.2.2.1, .slice A5 r3.2.2.2.2.1.length k6] (kns' (kx 1 (K.mv2 (bnd h fun r9 hr9 h => (kc1 (r12_reader_need.ok (b0 := b0) hr9 R_a0_0) rfl ⟨(t3 hm_H_a0_0), trivial⟩ (kns' (kla 1 0 5 rfl (K.mv1 ?_))))))))))
 refine K.drop (K.mv2 (kst 0 5 #[iv r3.1, sv r3.2.1, iv r3.2.2.1, iv r3.2.2.2.1, .slice A5 r3.2.2.2.2.1.length k6] (knt (k_ret ?_))))
 obtain rfl := Option.some.inj h
 exact kda 0 5 rfl [h4, bk b0 #[.slice A_a0_0 a0_0.length c_a0_0, iv r9.1, iv r9.2] 57] (K.drop (K.mv1 (k_end ⟨h4, A5, k6, o7, rfl, rfl⟩)))
def RS.at : Nat → RS
 | 0 => ⟨fun _ _ _ _ => none, fun _ _ _ _ => none, fun _ _ _ _ => none, fun _ _ _ _ => none, fun _ _ _ => none⟩
 | k + 1 => ⟨fun a0_0 a0_1 a0_2 a1 => r12_reader_block.g (RS.at k) k a0_0 a0_1 a0_2 a1, fun a0_0 a0_1 a0_2 a1 => r12_reader_stat.g (RS.at k) k a0_0 a0_1 a0_2 a1, fun a0_0 a0_1 a0_2 a1 => r12_reader_loop.g (RS.at k) k a0_0 a0_1 a0_2 a1, fun a0_0 a0_1 a0_2 a1 => r12_reader_plain.g (RS.at k) k a0_0 a0_1 a0_2 a1, fun a0_0 a0_1 a0_2 => r12_reader_body.g (RS.at k) k a0_0 a0_1 a0_2⟩
theorem RS.good : ∀ k, (RS.at k).Good
 | 0 => ⟨fun h _ => (by cases (show (none : Option _) = some _ from h)), fun h _ => (by cases (show (none : Option _) = some _ from h)), fun h _ => (by cases (show (none : Option _) = some _ from h)), fun h _ => (by cases (show (none : Option _) = some _ from h)), fun h _ => (by cases (show (none : Option _) = some _ from h))⟩
 | k + 1 => ⟨fun h R_a0_0 => r12_reader_block.okg (RS.good k) h R_a0_0, fun h R_a0_0 => r12_reader_stat.okg (RS.good k) h R_a0_0, fun h R_a0_0 => r12_reader_loop.okg (RS.good k) h R_a0_0, fun h R_a0_0 => r12_reader_plain.okg (RS.good k) h R_a0_0, fun h R_a0_0 => r12_reader_body.okg (RS.good k) h R_a0_0⟩
def r12_reader_block.f (k : Nat) (a0_0 : List (Int × ByteArray × Int × Int)) (a0_1 : Int) (a0_2 : Int) (a1 : Bool) : Option (Int × ByteArray × Int × Int × List Tree × Int × Int) := r12_reader_block.g (RS.at k) k a0_0 a0_1 a0_2 a1
theorem r12_reader_block.ok {k : Nat} {a0_0 : List (Int × ByteArray × Int × Int)} {a0_1 : Int} {a0_2 : Int} {a1 : Bool} {b0 : Nat} {H_a0_0 : Frag} {A_a0_0 : Option Addr} {c_a0_0 : Nat} {r : Int × ByteArray × Int × Int × List Tree × Int × Int} (h : r12_reader_block.f k a0_0 a0_1 a0_2 a1 = some r) (R_a0_0 : RdT e59 4 H_a0_0 (.slice A_a0_0 a0_0.length c_a0_0) a0_0) : Ct Tryz.prog 15 #[pt b0, bv a1] [bk b0 #[.slice A_a0_0 a0_0.length c_a0_0, iv a0_1, iv a0_2] 57] [H_a0_0] (fun e l1 => ∃ (H0_ : Frag) (A0_ : Option Addr) (c0_ : Nat), OwnR (rTree 32) 32 H0_ (.slice A0_ r.2.2.2.2.1.length c0_) r.2.2.2.2.1 ∧ e = .returned (.agg #[iv r.1, sv r.2.1, iv r.2.2.1, iv r.2.2.2.1, .slice A0_ r.2.2.2.2.1.length c0_]) ∧ l1 = [H0_, bk b0 #[.slice A_a0_0 a0_0.length c_a0_0, iv r.2.2.2.2.2.1, iv r.2.2.2.2.2.2] 57]) := r12_reader_block.okg (RS.good k) h R_a0_0
end Go.Proofs.YtidiahkobapnjaaGreatDoor
namespace Go.Proofs.YtidiahkobapnjaaGreatDoor
open Go Go.RowKit
def r12_Parse.f (k : Nat) (a0 : ByteArray) : Option (Int × ByteArray × Int × Int × List Tree × Int × Int) := (r11_Scan.f k a0).bind fun r3 => cond (r3.2.1 != 0) (some (0, (⟨#[]⟩ : ByteArray), 0, 0, [], r3.2.1, r3.2.2)) ((r12_reader_block.f k r3.1 0 (-1 : Int) true).bind fun r11 => joinF (fun (x17 : Int) (x18 : Int) => cond (decide (x18 ≥ 0)) (some (0, (⟨#[]⟩ : ByteArray), 0, 0, [], 4, x18)) (some (r11.1, r11.2.1, r11.2.2.1, r11.2.2.2.1, r11.2.2.2.2.1, 0, 0))) (fun J19 => (cond (decide (r11.2.2.2.2.2.2 < 0)) ((lIdx r3.1 r11.2.2.2.2.2.1).bind fun x26 => some (x26.1 != 6)) (some false) : Option Bool).bind fun q21 => cond q21 ((r12_reader_at.f k r3.1 r11.2.2.2.2.2.1 r11.2.2.2.2.2.2).bind fun r23 => (r12_reader_bad.f k r3.1 r11.2.2.2.2.2.1 r11.2.2.2.2.2.2 r23).bind fun r24 => J19 r24.1 r24.2) (J19 r11.2.2.2.2.2.1 r11.2.2.2.2.2.2)))
set_option maxRecDepth 100000 in
theorem r12_Parse.ok {k : Nat} {a0 : ByteArray} {r : Int × ByteArray × Int × Int × List Tree × Int × Int} (h : r12_Parse.f k a0 = some r) : Ct Tryz.prog 5 #[sv a0] [] [] (fun e l1 => ∃ (H0_ : Frag) (A0_ : Option Addr) (c0_ : Nat), OwnR (rTree 32) 32 H0_ (.slice A0_ r.2.2.2.2.1.length c0_) r.2.2.2.2.1 ∧ e = .returned (.tuple #[.agg #[iv r.1, sv r.2.1, iv r.2.2.1, iv r.2.2.2.1, .slice A0_ r.2.2.2.2.1.length c0_], .agg #[iv r.2.2.2.2.2.1, iv r.2.2.2.2.2.2]]) ∧ l1 = [H0_]) := by
 refine ct_enter (args := [sv a0]) Tryz.func5 rfl (Nat.le_of_ble_eq_true rfl) ?_
 intro A X hh_
 unfold r12_Parse.f at h
 refine ksr (knp #[iv 0, sv noS, iv 0, iv 0, nS] 32 fun b1 => (knp #[iv 0, iv 0] 27 fun b2 => (kns' (kx 1 (bnd h fun r3 hr3 h => (kcl (r11_Scan.ok hr3) rfl trivial ?_))))))
 rintro _ _ ⟨h4, A5, k6, o7, rfl, rfl⟩
 refine nx_ret1 (kx 3 (knp #[iv 0, iv 0] 27 fun b8 => (kx 1 (kst 0 2 #[iv r3.2.1, iv r3.2.2] (knt (k_seq (ksr (kx 1 (kld 0 0 rfl (kx 1 ?_))))))))))
 refine knt ?_
 refine kcn h (fun h => ?_) fun h => ?_
 ·refine k_seq (kpr [(0, 0), (1, 3), (2, 1)] [0] (kpx 1 (kpa 0 0 2 rfl (kpt (K.mv3 (ost 0 5 #[iv 0, sv noS, iv 0, iv 0, nS] (kan [1] rfl (kpz (K.mv3 (kst 0 2 #[iv r3.2.1, iv r3.2.2] ?_))))))))))
  refine K.mv2 (K.drop (K.mv2 (K.drop (knt (k_ret (k_then_ret ?_))))))
  obtain rfl := Option.some.inj h
  exact k_done (v := .tuple #[.agg #[iv 0, sv noS, iv 0, iv 0, nS], .agg #[iv r3.2.1, iv r3.2.2]]) [.val (iv 0), .val (sv noS), .val (iv 0), .val (iv 0), .val (nS), .val (iv r3.2.1), .val (iv r3.2.2)] [.ld ⟨b1, 0, none⟩ (iv 0), .ld ⟨b1, 1, none⟩ (sv noS), .ld ⟨b1, 2, none⟩ (iv 0), .ld ⟨b1, 3, none⟩ (iv 0), .ld ⟨b1, 4, none⟩ (nS), .ld ⟨b2, 0, none⟩ (iv r3.2.1), .ld ⟨b2, 1, none⟩ (iv r3.2.2)] [none_] (by kernel_rfl) (by kernel_rfl) ⟨⟨1, _, _, _, rfl, rfl, rfl⟩, ⟨1, _, _, _, rfl, rfl, rfl⟩, ⟨1, _, _, _, rfl, rfl, rfl⟩, ⟨1, _, _, _, rfl, rfl, rfl⟩, ⟨1, _, _, _, rfl, rfl, rfl⟩, ⟨0, _, _, _, rfl, rfl, rfl⟩, ⟨0, _, _, _, rfl, rfl, rfl⟩, trivial⟩ (k_none (K.mv1 (K.drop (K.mv1 (K.drop (k_end ⟨none_, none, 0, (OwnR.nil (rTree 32) 32 none_), rfl, rfl⟩))))))
 ·refine k_skip (k_then (ksr (kx 2 (knp #[.slice A5 r3.1.length k6, iv 0, iv (-1)] 57 fun b10 => (K.mv1 (K.drop (kx 1 (kns' (kx 1 (bnd h fun r11 hr11 h => ?_))))))))))
  refine kcl (r12_reader_block.ok (b0 := b10) hr11 (OwnT.rd o7)) rfl ⟨(.head _), trivial⟩ ?_
  rintro _ _ ⟨h12, A13, k14, o15, rfl, rfl⟩
  refine nx_ret2 (knp #[iv 0, sv noS, iv 0, iv 0, nS] 32 fun b16 => (kst 0 5 #[iv r11.1, sv r11.2.1, iv r11.2.2.1, iv r11.2.2.2.1, .slice A13 r11.2.2.2.2.1.length k14] (knt ?_)))
  obtain ⟨J19, hJ19, h⟩ := joinSplit h
  refine k_cut (τ := Int × Int) (fun t => [(2, pt b1), (3, pt b2), (6, pt b10), (7, pt b16)]) (fun t => bk b16 #[iv r11.1, sv r11.2.1, iv r11.2.2.1, iv r11.2.2.2.1, .slice A13 r11.2.2.2.2.1.length k14] 32 :: h12 :: bk b10 #[.slice A5 r3.1.length k6, iv t.1, iv t.2] 57 :: h4 :: bk b2 #[iv 0, iv 0] 27 :: bk b1 #[iv 0, sv noS, iv 0, iv 0, nS] 32 :: X) (fun t => J19 t.1 t.2 = some r) ?_ ?_
  ·rintro ⟨x17, x18⟩ h
   subst hJ19
   refine k_seq (ksr (kx 3 (kld 2 2 rfl (kx 1 (knt ?_)))))
   refine kcn h (fun h => ?_) fun h => ?_
   ·refine k_seq (kpr [(0, 0), (1, 0), (2, 0), (3, 0), (4, 3), (5, 0), (6, 1)] [2] (kpx 4 (kpd 0 2 rfl (kpx 1 (kpt (K.mvN [_, _, _, _, _] _ _ (ost 0 5 #[iv 0, sv noS, iv 0, iv 0, nS] (kan [3] rfl (kpz (K.mvN [_, _, _, _, _] _ _ ?_))))))))))
    refine kst 0 2 #[iv 4, iv x18] (K.mv2 (K.drop (K.mv2 (K.drop (K.mv2 (K.drop (K.mv2 (K.drop (knt (k_ret ?_))))))))))
    refine k_then_ret ?_
    obtain rfl := Option.some.inj h
    exact k_done (v := .tuple #[.agg #[iv 0, sv noS, iv 0, iv 0, nS], .agg #[iv 4, iv x18]]) [.val (iv 0), .val (sv noS), .val (iv 0), .val (iv 0), .val (nS), .val (iv 4), .val (iv x18)] [.ld ⟨b1, 0, none⟩ (iv 0), .ld ⟨b1, 1, none⟩ (sv noS), .ld ⟨b1, 2, none⟩ (iv 0), .ld ⟨b1, 3, none⟩ (iv 0), .ld ⟨b1, 4, none⟩ (nS), .ld ⟨b2, 0, none⟩ (iv 4), .ld ⟨b2, 1, none⟩ (iv x18)] [none_] (by kernel_rfl) (by kernel_rfl) ⟨⟨1, _, _, _, rfl, rfl, rfl⟩, ⟨1, _, _, _, rfl, rfl, rfl⟩, ⟨1, _, _, _, rfl, rfl, rfl⟩, ⟨1, _, _, _, rfl, rfl, rfl⟩, ⟨1, _, _, _, rfl, rfl, rfl⟩, ⟨0, _, _, _, rfl, rfl, rfl⟩, ⟨0, _, _, _, rfl, rfl, rfl⟩, trivial⟩ (k_none (K.mv1 (K.drop (K.mv1 (K.drop (k_end ⟨none_, none, 0, (OwnR.nil (rTree 32) 32 none_), rfl, rfl⟩))))))
   ·refine k_skip (k_then (ksr (kla 0 0 5 rfl (K.drop (K.mv1 (K.drop (K.mv1 (K.drop (kx 1 (K.mv2 ?_))))))))))
    refine kst 0 5 #[iv r11.1, sv r11.2.1, iv r11.2.2.1, iv r11.2.2.2.1, .slice A13 r11.2.2.2.2.1.length k14] (K.mv2 (kst 0 2 #[iv 0, iv 0] (knt (k_ret ?_))))
    obtain rfl := Option.some.inj h
    exact k_done (v := .tuple #[.agg #[iv r11.1, sv r11.2.1, iv r11.2.2.1, iv r11.2.2.2.1, .slice A13 r11.2.2.2.2.1.length k14], .agg #[iv 0, iv 0]]) [.val (iv r11.1), .val (sv r11.2.1), .val (iv r11.2.2.1), .val (iv r11.2.2.2.1), .val (.slice A13 r11.2.2.2.2.1.length k14), .val (iv 0), .val (iv 0)] [.ld ⟨b1, 0, none⟩ (iv r11.1), .ld ⟨b1, 1, none⟩ (sv r11.2.1), .ld ⟨b1, 2, none⟩ (iv r11.2.2.1), .ld ⟨b1, 3, none⟩ (iv r11.2.2.2.1), .ld ⟨b1, 4, none⟩ (.slice A13 r11.2.2.2.2.1.length k14), .ld ⟨b2, 0, none⟩ (iv 0), .ld ⟨b2, 1, none⟩ (iv 0)] [h12] (by kernel_rfl) (by kernel_rfl) ⟨⟨1, _, _, _, rfl, rfl, rfl⟩, ⟨1, _, _, _, rfl, rfl, rfl⟩, ⟨1, _, _, _, rfl, rfl, rfl⟩, ⟨1, _, _, _, rfl, rfl, rfl⟩, ⟨1, _, _, _, rfl, rfl, rfl⟩, ⟨0, _, _, _, rfl, rfl, rfl⟩, ⟨0, _, _, _, rfl, rfl, rfl⟩, trivial⟩ (K.drop (K.drop (k_end ⟨h12, A13, k14, o15, rfl, rfl⟩)))
  ·skip
   refine bnd h fun q21 hq21 h => ?_
   refine k_cut1 [(2, pt b1), (3, pt b2), (6, pt b10), (7, pt b16), (41, bv q21)] (bk b16 #[iv r11.1, sv r11.2.1, iv r11.2.2.1, iv r11.2.2.2.1, .slice A13 r11.2.2.2.2.1.length k14] 32 :: h12 :: bk b10 #[.slice A5 r3.1.length k6, iv r11.2.2.2.2.2.1, iv r11.2.2.2.2.2.2] 57 :: h4 :: bk b2 #[iv 0, iv 0] 27 :: bk b1 #[iv 0, sv noS, iv 0, iv 0, nS] 32 :: X) ?_ ?_
   ·clear hq21
    refine kcn h (fun h => ?_) fun h => ?_
    ·refine k_region (kx 2 (K.mv2 (bnd h fun r23 hr23 h => (kc1 (r12_reader_at.ok (b0 := b10) hr23 (OwnT.rd o7)) rfl ⟨(.tail _ (.tail _ (.head _))), trivial⟩ (bnd h fun r24 hr24 h => (kc1 (r12_reader_bad.ok (b0 := b10) hr24 (OwnT.rd o7)) rfl ⟨(.tail _ (.tail _ (.head _))), trivial⟩ (knt (K.mvN [_, _, _, _, _] _ _ (K.mvN [_, _, _, _, _] _ _ (K.mvN [_, _, _, _, _] _ _ ?_))))))))))
     exact K.mv3 (K.mvN [_, _, _, _, _] _ _ (K.mvN [_, _, _, _, _] _ _ (k_meet (r24.1, r24.2) h sb rfl)))
    ·exact k_skip (k_then (k_meet (r11.2.2.2.2.2.1, r11.2.2.2.2.2.2) h sb rfl))
   ·have h := hq21
    clear hq21
    refine kpr [(0, 0), (1, 0), (2, 0), (3, 3), (4, 0), (5, 0), (6, 0), (7, 0), (8, 0), (9, 3), (10, 0), (11, 0), (12, 0), (13, 3)] [2] (kpx 3 (kpd 0 2 rfl (kpx 2 ?_)))
    refine kcs 28 h (fun h => ?_) fun h => ?_
    ·refine kpx 3 (kpd 0 0 rfl (kpx 3 (kpd 0 1 rfl (kpz (bnd h fun x26 hx26 h => (kelP (T := 59) (kd := .i64) e59_ok rfl hx26 (OwnT.rd o7) fun p27 e28 y29 => ?_))))))
     have e28 : Elem _ p27 [iv x26.1, sv x26.2.1, iv x26.2.2.1, iv x26.2.2.2] := e28
     refine kefP (off := 0) rfl e28 y29 fun p30 e31 y32 => ?_
     have e31 : Elem _ p30 [iv x26.1, sv x26.2.1, iv x26.2.2.1, iv x26.2.2.2] := e31
     exact kl_eload1 rfl (by kernel_rfl) (by kernel_rfl) (by kernel_rfl) (by kernel_rfl) e31 (.tail _ (.tail _ (.tail _ (.head _)))) (kx 2 (knt (k_meet1 ⟨gr, gr, gr, gr, gb (Option.some.inj h), trivial⟩)))
    ·exact kpx 3 (kp_skip3 (by kernel_rfl) (by kernel_rfl) (kpx 3 (kp_skip3 (by kernel_rfl) (by kernel_rfl) (kpz (kx 5 (knt (k_meet1 ⟨gr, gr, gr, gr, gb (Option.some.inj h), trivial⟩)))))))
structure TA where
 law12_treesAlike : (a0_0 : Int) → (a0_1 : ByteArray) → (a0_2 : Int) → (a0_3 : Int) → (a0_4 : List Tree) → (a1_0 : Int) → (a1_1 : ByteArray) → (a1_2 : Int) → (a1_3 : Int) → (a1_4 : List Tree) → Option (Bool)
structure TA.Good (R : TA) : Prop where
 law12_treesAlike : ∀ {a0_0 : Int} {a0_1 : ByteArray} {a0_2 : Int} {a0_3 : Int} {a0_4 : List Tree} {a1_0 : Int} {a1_1 : ByteArray} {a1_2 : Int} {a1_3 : Int} {a1_4 : List Tree} {H_a0_4 : Frag} {A_a0_4 : Option Addr} {c_a0_4 : Nat} {H_a1_4 : Frag} {A_a1_4 : Option Addr} {c_a1_4 : Nat} {r : Bool} (h : R.law12_treesAlike a0_0 a0_1 a0_2 a0_3 a0_4 a1_0 a1_1 a1_2 a1_3 a1_4 = some r) (R_a0_4 : RdR (rTree 24) H_a0_4 (.slice A_a0_4 a0_4.length c_a0_4) a0_4) (R_a1_4 : RdR (rTree 32) H_a1_4 (.slice A_a1_4 a1_4.length c_a1_4) a1_4), Ct Tryz.prog 8 #[.agg #[iv a0_0, sv a0_1, iv a0_2, iv a0_3, .slice A_a0_4 a0_4.length c_a0_4], .agg #[iv a1_0, sv a1_1, iv a1_2, iv a1_3, .slice A_a1_4 a1_4.length c_a1_4]] [] [H_a0_4, H_a1_4] (fun e l1 => e = .returned (bv r) ∧ l1 = [])
def law12_treesAlike.l0 : Nat → (Rc : TA) → (a0_4 : List Tree) → (a1_4 : List Tree) → (J5 : (Unit → Option (Bool))) → (x6 : Int) → Option (Bool)
 | 0, _, _, _, _, _ => none
 | m7 + 1, Rc, a0_4, a1_4, J5, x6 => cond (decide (x6 < ((a0_4.length : Nat) : Int))) ((lIdx a0_4 x6).bind fun x9 => (lIdx a1_4 x6).bind fun x18 => (Rc.law12_treesAlike x9.kind x9.text x9.n x9.at_ x9.kids x18.kind x18.text x18.n x18.at_ x18.kids).bind fun r27 => cond (!r27) (some (false)) (law12_treesAlike.l0 m7 Rc a0_4 a1_4 J5 (IntKind.i64.wrap (x6 + 1)))) (J5 ())
def law12_treesAlike.g (Rc : TA) (k : Nat) (a0_0 : Int) (a0_1 : ByteArray) (a0_2 : Int) (a0_3 : Int) (a0_4 : List Tree) (a1_0 : Int) (a1_1 : ByteArray) (a1_2 : Int) (a1_3 : Int) (a1_4 : List Tree) : Option (Bool) := (cond (a0_0 != a1_0) (some true) (cond (!(a0_1.toList == a1_1.toList)) (some true) (cond (a0_2 != a1_2) (some true) (cond (a0_3 != a1_3) (some true) (some (((a0_4.length : Nat) : Int) != ((a1_4.length : Nat) : Int)))))) : Option Bool).bind fun q3 => cond q3 (some (false)) (joinF (fun (_ : Unit) => some (true)) (fun J5 => law12_treesAlike.l0 k Rc a0_4 a1_4 J5 0))
set_option maxRecDepth 100000 in
theorem law12_treesAlike.okg {Rc : TA} (hR : Rc.Good) {k : Nat} {a0_0 : Int} {a0_1 : ByteArray} {a0_2 : Int} {a0_3 : Int} {a0_4 : List Tree} {a1_0 : Int} {a1_1 : ByteArray} {a1_2 : Int} {a1_3 : Int} {a1_4 : List Tree} {H_a0_4 : Frag} {A_a0_4 : Option Addr} {c_a0_4 : Nat} {H_a1_4 : Frag} {A_a1_4 : Option Addr} {c_a1_4 : Nat} {r : Bool} (h : law12_treesAlike.g Rc k a0_0 a0_1 a0_2 a0_3 a0_4 a1_0 a1_1 a1_2 a1_3 a1_4 = some r) (R_a0_4 : RdR (rTree 24) H_a0_4 (.slice A_a0_4 a0_4.length c_a0_4) a0_4) (R_a1_4 : RdR (rTree 32) H_a1_4 (.slice A_a1_4 a1_4.length c_a1_4) a1_4) : Ct Tryz.prog 8 #[.agg #[iv a0_0, sv a0_1, iv a0_2, iv a0_3, .slice A_a0_4 a0_4.length c_a0_4], .agg #[iv a1_0, sv a1_1, iv a1_2, iv a1_3, .slice A_a1_4 a1_4.length c_a1_4]] [] [H_a0_4, H_a1_4] (fun e l1 => e = .returned (bv r) ∧ l1 = []) := by
 refine ct_enter (args := [.agg #[iv a0_0, sv a0_1, iv a0_2, iv a0_3, .slice A_a0_4 a0_4.length c_a0_4], .agg #[iv a1_0, sv a1_1, iv a1_2, iv a1_3, .slice A_a1_4 a1_4.length c_a1_4]]) Tryz.func8 rfl (Nat.le_of_ble_eq_true rfl) ?_
 intro A X hh_
 obtain ⟨hm_H_a0_4, hm_H_a1_4, _⟩ := hh_
 unfold law12_treesAlike.g at h
 refine ksr (knp #[iv a0_0, sv a0_1, iv a0_2, iv a0_3, .slice A_a0_4 a0_4.length c_a0_4] 24 fun b1 => (knp #[iv a1_0, sv a1_1, iv a1_2, iv a1_3, .slice A_a1_4 a1_4.length c_a1_4] 32 fun b2 => (kx 1 (knt (k_seq (bnd h fun q3 hq3 h => ?_))))))
 refine k_cut1 [(2, pt b1), (3, pt b2), (40, bv q3)] (bk b2 #[iv a1_0, sv a1_1, iv a1_2, iv a1_3, .slice A_a1_4 a1_4.length c_a1_4] 32 :: bk b1 #[iv a0_0, sv a0_1, iv a0_2, iv a0_3, .slice A_a0_4 a0_4.length c_a0_4] 24 :: X) ?_ ?_
 ·clear hq3
  refine kcn h (fun h => ?_) fun h => ?_
  ·refine ksr (kx 1 (knt (k_ret (k_then_ret ?_))))
   obtain rfl := Option.some.inj h
   exact K.drop (K.drop (kdn rfl))
  ·refine k_skip (k_then ?_)
   obtain ⟨J5, hJ5, h⟩ := joinSplit h
   refine k_cut (τ := Unit) (fun t => []) (fun t => X) (fun t => J5 () = some r) ?_ ?_
   ·rintro ⟨⟩ h
    subst hJ5
    refine ksr (kx 1 (knt (k_ret ?_)))
    obtain rfl := Option.some.inj h
    exact kdn rfl
   ·skip
    refine ksr (kx 1 (knt (k_block (k_loop (τ := Int) (fun t => [(2, pt b1), (3, pt b2), (5, iv t)]) (fun t => bk b2 #[iv a1_0, sv a1_1, iv a1_2, iv a1_3, .slice A_a1_4 a1_4.length c_a1_4] 32 :: bk b1 #[iv a0_0, sv a0_1, iv a0_2, iv a0_3, .slice A_a0_4 a0_4.length c_a0_4] 24 :: X) (fun m t => law12_treesAlike.l0 m Rc a0_4 a1_4 J5 t = some r) k 0 h sb rfl ?_))))
    clear h
    rintro m7 x6 h
    cases m7 with
    | zero => simp [law12_treesAlike.l0] at h
    | succ m7 =>
     simp only [law12_treesAlike.l0] at h
     refine k_seq (ksr (kx 2 (kld 1 4 rfl (kx 2 (knt ?_)))))
     refine kcn h (fun h => ?_) fun h => ?_
     ·refine k_skip (k_then (k_seq (k_block (k_seq (kprs [(0, 0), (1, 3), (2, 0), (3, 0), (4, 3), (5, 0), (6, 3), (7, 0), (8, 0), (9, 3)] [bk b2 #[iv a1_0, sv a1_1, iv a1_2, iv a1_3, .slice A_a1_4 a1_4.length c_a1_4] 32, bk b1 #[iv a0_0, sv a0_1, iv a0_2, iv a0_3, .slice A_a0_4 a0_4.length c_a0_4] 24, H_a0_4, H_a1_4] (fun w h_ => ⟨h_.sat.on _ (.head _), h_.sat.on _ (.tail _ (.head _)), h_.sat.on _ (t2 hm_H_a0_4), h_.sat.on _ (t2 hm_H_a1_4), trivial⟩) (kpx 1 (kpd 1 4 rfl (kpx 1 (bnd h fun x9 hx9 h => (kpelR (T := 24) (kd := .i64) (R := (rTree 24)) rfl hx9 R_a0_4 fun p10 u13 q14 e11 y12 => ?_))))))))))
      obtain ⟨A15, k16, rfl, o17⟩ := treeR_mk 24 q14
      refine kpeN rfl e11 (fun w h_ => h_.mem _ (.tail _ (.tail _ (.head _)))) (kpx 1 (kpd 0 4 rfl (kpx 1 (bnd h fun x18 hx18 h => (kpelR (T := 32) (kd := .i64) (R := (rTree 32)) rfl hx18 R_a1_4 fun p19 u22 q23 e20 y21 => ?_)))))
      obtain ⟨A24, k25, rfl, o26⟩ := treeR_mk 32 q23
      refine kpeN rfl e20 (fun w h_ => h_.mem _ (.tail _ (.tail _ (.tail _ (.head _))))) (kpz (bnd h fun r27 hr27 h => (kcv (hR.law12_treesAlike hr27 o17 o26) ⟨(t2 hm_H_a0_4), (t2 hm_H_a1_4), trivial⟩ (kx 1 (knt ?_)))))
      refine kcn h (fun h => ?_) fun h => ?_
      ·refine ksr (kx 1 (knt (k_ret (k_blk_ret (k_then_ret (k_then_ret (k_blk_ret (k_then_ret ?_))))))))
       obtain rfl := Option.some.inj h
       exact K.drop (K.drop (kdn rfl))
      ·exact k_skip (k_blk (k_then (k_region (kx 3 (knt (k_again m7 (IntKind.i64.wrap (x6 + 1)) (Nat.lt_succ_self _) h sb rfl))))))
     ·exact k_exit (k_then_exit (k_then_exit (k_here (k_then (K.drop (K.drop (k_meet () h trivial rfl)))))))
 ·have h := hq3
  clear hq3
  refine k_region (kx 1 (kld 1 0 rfl (kx 1 (kld 0 0 rfl (kx 2 ?_)))))
  refine kcs 11 h (fun h => ?_) fun h => ?_
  ·exact kx 29 (knt (k_meet1 ⟨gr, gr, gb (Option.some.inj h), trivial⟩))
  ·refine kx 1 (kld 1 1 rfl (kx 1 (kld 0 1 rfl (kx 3 ?_))))
   refine kcs 18 h (fun h => ?_) fun h => ?_
   ·exact kx 22 (knt (k_meet1 ⟨gr, gr, gb (Option.some.inj h), trivial⟩))
   ·refine kx 1 (kld 1 2 rfl (kx 1 (kld 0 2 rfl (kx 3 ?_))))
    refine kcs 25 h (fun h => ?_) fun h => ?_
    ·exact kx 15 (knt (k_meet1 ⟨gr, gr, gb (Option.some.inj h), trivial⟩))
    ·refine kx 1 (kld 1 3 rfl (kx 1 (kld 0 3 rfl (kx 3 ?_))))
     refine kcs 32 h (fun h => ?_) fun h => ?_
     ·exact kx 8 (knt (k_meet1 ⟨gr, gr, gb (Option.some.inj h), trivial⟩))
     ·exact kx 1 (kld 1 4 rfl (kx 2 (kld 0 4 rfl (kx 3 (knt (k_meet1 ⟨gr, gr, gb (Option.some.inj h), trivial⟩))))))
def TA.at : Nat → TA
 | 0 => ⟨fun _ _ _ _ _ _ _ _ _ _ => none⟩
 | k + 1 => ⟨fun a0_0 a0_1 a0_2 a0_3 a0_4 a1_0 a1_1 a1_2 a1_3 a1_4 => law12_treesAlike.g (TA.at k) k a0_0 a0_1 a0_2 a0_3 a0_4 a1_0 a1_1 a1_2 a1_3 a1_4⟩
theorem TA.good : ∀ k, (TA.at k).Good
 | 0 => ⟨fun h _ _ => (by cases (show (none : Option _) = some _ from h))⟩
 | k + 1 => ⟨fun h R_a0_4 R_a1_4 => law12_treesAlike.okg (TA.good k) h R_a0_4 R_a1_4⟩
def law12_treesAlike.f (k : Nat) (a0_0 : Int) (a0_1 : ByteArray) (a0_2 : Int) (a0_3 : Int) (a0_4 : List Tree) (a1_0 : Int) (a1_1 : ByteArray) (a1_2 : Int) (a1_3 : Int) (a1_4 : List Tree) : Option (Bool) := law12_treesAlike.g (TA.at k) k a0_0 a0_1 a0_2 a0_3 a0_4 a1_0 a1_1 a1_2 a1_3 a1_4
theorem law12_treesAlike.ok {k : Nat} {a0_0 : Int} {a0_1 : ByteArray} {a0_2 : Int} {a0_3 : Int} {a0_4 : List Tree} {a1_0 : Int} {a1_1 : ByteArray} {a1_2 : Int} {a1_3 : Int} {a1_4 : List Tree} {H_a0_4 : Frag} {A_a0_4 : Option Addr} {c_a0_4 : Nat} {H_a1_4 : Frag} {A_a1_4 : Option Addr} {c_a1_4 : Nat} {r : Bool} (h : law12_treesAlike.f k a0_0 a0_1 a0_2 a0_3 a0_4 a1_0 a1_1 a1_2 a1_3 a1_4 = some r) (R_a0_4 : RdR (rTree 24) H_a0_4 (.slice A_a0_4 a0_4.length c_a0_4) a0_4) (R_a1_4 : RdR (rTree 32) H_a1_4 (.slice A_a1_4 a1_4.length c_a1_4) a1_4) : Ct Tryz.prog 8 #[.agg #[iv a0_0, sv a0_1, iv a0_2, iv a0_3, .slice A_a0_4 a0_4.length c_a0_4], .agg #[iv a1_0, sv a1_1, iv a1_2, iv a1_3, .slice A_a1_4 a1_4.length c_a1_4]] [] [H_a0_4, H_a1_4] (fun e l1 => e = .returned (bv r) ∧ l1 = []) := law12_treesAlike.okg (TA.good k) h R_a0_4 R_a1_4
structure H1 where
 parse_Height : (a0_0 : Int) → (a0_1 : ByteArray) → (a0_2 : Int) → (a0_3 : Int) → (a0_4 : List Tree) → Option (Int)
structure H1.Good (R : H1) : Prop where
 parse_Height : ∀ {a0_0 : Int} {a0_1 : ByteArray} {a0_2 : Int} {a0_3 : Int} {a0_4 : List Tree} {H_a0_4 : Frag} {A_a0_4 : Option Addr} {c_a0_4 : Nat} {r : Int} (h : R.parse_Height a0_0 a0_1 a0_2 a0_3 a0_4 = some r) (R_a0_4 : RdR (rTree 24) H_a0_4 (.slice A_a0_4 a0_4.length c_a0_4) a0_4), Ct Tryz.prog 19 #[.agg #[iv a0_0, sv a0_1, iv a0_2, iv a0_3, .slice A_a0_4 a0_4.length c_a0_4]] [] [H_a0_4] (fun e l1 => e = .returned (iv r) ∧ l1 = [])
def parse_Height.l0 : Nat → (Rc : H1) → (a0_4 : List Tree) → (J3 : Int → Option (Int)) → (x4 : Int) → (x5 : Int) → Option (Int)
 | 0, _, _, _, _, _ => none
 | m6 + 1, Rc, a0_4, J3, x4, x5 => cond (decide (x5 < ((a0_4.length : Nat) : Int))) ((lIdx a0_4 x5).bind fun x8 => (Rc.parse_Height x8.kind x8.text x8.n x8.at_ x8.kids).bind fun r18 => parse_Height.l0 m6 Rc a0_4 J3 (if r18 > x4 then r18 else x4) (IntKind.i64.wrap (x5 + 1))) (J3 x4)
def parse_Height.g (Rc : H1) (k : Nat) (a0_0 : Int) (a0_1 : ByteArray) (a0_2 : Int) (a0_3 : Int) (a0_4 : List Tree) : Option (Int) := joinF (fun (x2 : Int) => some (IntKind.i64.wrap (x2 + 1))) (fun J3 => parse_Height.l0 k Rc a0_4 J3 0 0)
set_option maxRecDepth 100000 in
theorem parse_Height.okg {Rc : H1} (hR : Rc.Good) {k : Nat} {a0_0 : Int} {a0_1 : ByteArray} {a0_2 : Int} {a0_3 : Int} {a0_4 : List Tree} {H_a0_4 : Frag} {A_a0_4 : Option Addr} {c_a0_4 : Nat} {r : Int} (h : parse_Height.g Rc k a0_0 a0_1 a0_2 a0_3 a0_4 = some r) (R_a0_4 : RdR (rTree 24) H_a0_4 (.slice A_a0_4 a0_4.length c_a0_4) a0_4) : Ct Tryz.prog 19 #[.agg #[iv a0_0, sv a0_1, iv a0_2, iv a0_3, .slice A_a0_4 a0_4.length c_a0_4]] [] [H_a0_4] (fun e l1 => e = .returned (iv r) ∧ l1 = []) := by
 refine ct_enter (args := [.agg #[iv a0_0, sv a0_1, iv a0_2, iv a0_3, .slice A_a0_4 a0_4.length c_a0_4]]) Tryz.func19 rfl (Nat.le_of_ble_eq_true rfl) ?_
 intro A X hh_
 obtain ⟨hm_H_a0_4, _⟩ := hh_
 unfold parse_Height.g at h
 refine ksr (knp #[iv a0_0, sv a0_1, iv a0_2, iv a0_3, .slice A_a0_4 a0_4.length c_a0_4] 24 fun b1 => (kx 1 (kns' (kx 1 (knt ?_)))))
 obtain ⟨J3, hJ3, h⟩ := joinSplit h
 refine k_cut (τ := Int) (fun t => [(3, iv t)]) (fun t => X) (fun t => J3 t = some r) ?_ ?_
 ·rintro x2 h
  subst hJ3
  refine ksr (kx 3 (knt (k_ret ?_)))
  obtain rfl := Option.some.inj h
  exact kdn rfl
 ·skip
  refine ksr (kx 1 (kld 0 4 rfl (K.drop (kx 2 (knt (k_block (k_loop (τ := Int × Int) (fun t => [(3, iv t.1), (7, .slice A_a0_4 a0_4.length c_a0_4), (8, iv ((a0_4.length : Nat) : Int)), (9, iv t.2)]) (fun t => X) (fun m t => parse_Height.l0 m Rc a0_4 J3 t.1 t.2 = some r) k (0, 0) h sb rfl ?_)))))))
  clear h
  rintro m6 ⟨x4, x5⟩ h
  cases m6 with
  | zero => simp [parse_Height.l0] at h
  | succ m6 =>
   simp only [parse_Height.l0] at h
   refine ksr (kx 1 (knt (k_seq ?_)))
   refine kcn h (fun h => ?_) fun h => ?_
   ·refine k_skip (k_then (k_seq (k_block (ksr (bnd h fun x8 hx8 h => (kelR (T := 24) (kd := .i64) (R := (rTree 24)) rfl hx8 R_a0_4 fun p9 u12 q13 e10 y11 => ?_))))))
    obtain ⟨A14, k15, rfl, o16⟩ := treeR_mk 24 q13
    refine keN rfl e10 hm_H_a0_4 (knp #[iv 0, sv noS, iv 0, iv 0, nS] 24 fun b17 => (kst 0 5 #[iv x8.kind, sv x8.text, iv x8.n, iv x8.at_, .slice A14 x8.kids.length k15] (knr (kx 1 (kla 0 0 5 rfl (K.drop (bnd h fun r18 hr18 h => (kcv (hR.parse_Height hr18 o16) ⟨hm_H_a0_4, trivial⟩ (kx 2 (knl ?_))))))))))
    exact k_blk (k_then (k_region (kx 2 (knt (k_again m6 ((if r18 > x4 then r18 else x4), IntKind.i64.wrap (x5 + 1)) (Nat.lt_succ_self _) h sb rfl)))))
   ·exact k_exit (k_then_exit (k_then_exit (k_here (k_then (k_meet x4 h sb rfl)))))
def H1.at : Nat → H1
 | 0 => ⟨fun _ _ _ _ _ => none⟩
 | k + 1 => ⟨fun a0_0 a0_1 a0_2 a0_3 a0_4 => parse_Height.g (H1.at k) k a0_0 a0_1 a0_2 a0_3 a0_4⟩
theorem H1.good : ∀ k, (H1.at k).Good
 | 0 => ⟨fun h _ => (by cases (show (none : Option _) = some _ from h))⟩
 | k + 1 => ⟨fun h R_a0_4 => parse_Height.okg (H1.good k) h R_a0_4⟩
def parse_Height.f (k : Nat) (a0_0 : Int) (a0_1 : ByteArray) (a0_2 : Int) (a0_3 : Int) (a0_4 : List Tree) : Option (Int) := parse_Height.g (H1.at k) k a0_0 a0_1 a0_2 a0_3 a0_4
theorem parse_Height.ok {k : Nat} {a0_0 : Int} {a0_1 : ByteArray} {a0_2 : Int} {a0_3 : Int} {a0_4 : List Tree} {H_a0_4 : Frag} {A_a0_4 : Option Addr} {c_a0_4 : Nat} {r : Int} (h : parse_Height.f k a0_0 a0_1 a0_2 a0_3 a0_4 = some r) (R_a0_4 : RdR (rTree 24) H_a0_4 (.slice A_a0_4 a0_4.length c_a0_4) a0_4) : Ct Tryz.prog 19 #[.agg #[iv a0_0, sv a0_1, iv a0_2, iv a0_3, .slice A_a0_4 a0_4.length c_a0_4]] [] [H_a0_4] (fun e l1 => e = .returned (iv r) ∧ l1 = []) := parse_Height.okg (H1.good k) h R_a0_4
end Go.Proofs.YtidiahkobapnjaaGreatDoor
namespace Go.Proofs.YtidiahkobapnjaaGreatDoor
namespace Lx
abbrev Bs := List UInt8
def bs (s : ByteArray) : Bs := s.data.toList
def str (l : Bs) : ByteArray := ⟨l.toArray⟩
theorem bs_str (l : Bs) : bs (str l) = l := by simp [bs, str]
theorem str_bs (s : ByteArray) : str (bs s) = s := by simp [bs, str]
theorem bs_length (s : ByteArray) : (bs s).length = s.size := Array.length_toList
theorem str_size (l : Bs) : (str l).size = l.length := by simp [str, ByteArray.size]
theorem bs_extract (s : ByteArray) (a e : Nat) : bs (s.extract a e) = ((bs s).drop a).take (e - a) := by
 simp [bs, ByteArray.data_extract, Array.toList_extract, List.extract_eq_take_drop]
theorem bs_tail (s : ByteArray) (a : Nat) : bs (s.extract a s.size) = (bs s).drop a := by
 rw [bs_extract, List.take_of_length_le]
 simp [bs_length]
theorem bs_inj {s t : ByteArray} (h : bs s = bs t) : s = t := by rw [← str_bs s, h, str_bs]
def decL (l : Bs) : Nat × Nat :=
 let at' (k : Nat) : Nat := (l.getD k 0).toNat
 let cont (k : Nat) : Bool := decide (k < l.length) && at' k / 64 == 2
 let b0 := at' 0
 if b0 < 0x80 then (b0, 1)
 else if b0 / 32 == 6 && cont 1 then
  let c := (b0 % 32) * 64 + at' 1 % 64
  if c ≥ 0x80 then (c, 2) else (65533, 1)
 else if b0 / 16 == 14 && cont 1 && cont 2 then
  let c := (b0 % 16) * 4096 + (at' 1 % 64) * 64 + at' 2 % 64
  if c ≥ 0x800 && Utf8.valid c then (c, 3) else (65533, 1)
 else if b0 / 8 == 30 && cont 1 && cont 2 && cont 3 then
  let c := (b0 % 8) * 262144 + (at' 1 % 64) * 4096 + (at' 2 % 64) * 64 + at' 3 % 64
  if c ≥ 0x10000 && Utf8.valid c then (c, 4) else (65533, 1)
 else (65533, 1)
theorem get!_drop (s : ByteArray) (i k : Nat) : s.get! (i + k) = ((bs s).drop i).getD k 0 := by
 show s.data[i + k]! = _
 rw [List.getD_eq_getElem?_getD, List.getElem?_drop]
 simp only [bs, Array.getElem!_eq_getD]
 simp [Array.getD_eq_getD_getElem?]
 rfl
theorem decode_eq (s : ByteArray) (i : Nat) : Utf8.decode s i = decL ((bs s).drop i) := by
 have h1 : ∀ k, (s.get! (i + k)).toNat = (((bs s).drop i).getD k 0).toNat := fun k => by rw [get!_drop]
 have h2 : ∀ k, decide (i + k < s.size) = decide (k < ((bs s).drop i).length) := fun k => by
  congr 1
  rw [List.length_drop, bs_length]
  exact propext ⟨fun h => by omega, fun h => by omega⟩
 unfold Utf8.decode decL
 simp only [h1, h2, Utf8.runeError]
theorem decL_width (l : Bs) : 1 ≤ (decL l).2 ∧ (decL l).2 ≤ 4 ∧ (l ≠ [] → (decL l).2 ≤ l.length) := by
 have h0 : l ≠ [] → 1 ≤ l.length := fun h => by
  cases l with
  | nil => exact absurd rfl h
  | cons a t => simp
 unfold decL
 simp only []
 (repeat' split) <;> simp_all <;> omega
def letterR (r : Nat) : Bool := (97 ≤ r && r ≤ 122) || (65 ≤ r && r ≤ 90) || r == 95 || (128 ≤ r && r ≤ 1114111 && r != 65533 && Utf8.valid r)
def digitR (r : Nat) : Bool := 48 ≤ r && r ≤ 57
def partR (r : Nat) : Bool := letterR r || digitR r
def blankR (r : Nat) : Bool := r == 32 || r == 9 || r == 10 || r == 13
def inLineR (r : Nat) : Bool := r != 10
def runG (p : Nat → Bool) : Nat → Bs → Nat
 | 0, _ => 0
 | _ + 1, [] => 0
 | f + 1, b :: t => if p (decL (b :: t)).1 then (decL (b :: t)).2 + runG p f ((b :: t).drop (decL (b :: t)).2) else 0
def runL (p : Nat → Bool) (l : Bs) : Nat := runG p l.length l
theorem runG_fuel (p : Nat → Bool) : ∀ (f g : Nat) (l : Bs), l.length ≤ f → l.length ≤ g → runG p f l = runG p g l
 | 0, 0, _, _, _ => rfl
 | 0, g + 1, l, h, _ => by
  have : l = [] := List.eq_nil_of_length_eq_zero (by omega)
  subst this; rfl
 | f + 1, 0, l, _, h => by
  have : l = [] := List.eq_nil_of_length_eq_zero (by omega)
  subst this; rfl
 | f + 1, g + 1, [], _, _ => rfl
 | f + 1, g + 1, b :: t, h, h' => by
  simp only [runG]
  have hw := (decL_width (b :: t)).1
  rw [runG_fuel p f g ((b :: t).drop (decL (b :: t)).2) (by rw [List.length_drop]; simp only [List.length_cons] at *; omega) (by rw [List.length_drop]; simp only [List.length_cons] at *; omega)]
theorem runL_nil (p : Nat → Bool) : runL p [] = 0 := rfl
theorem runL_step (p : Nat → Bool) (l : Bs) (h : l ≠ []) : runL p l = if p (decL l).1 then (decL l).2 + runL p (l.drop (decL l).2) else 0 := by
 cases l with
 | nil => exact absurd rfl h
 | cons b t =>
  have hw := (decL_width (b :: t)).1
  unfold runL
  simp only [List.length_cons, runG]
  rw [runG_fuel p t.length ((b :: t).drop (decL (b :: t)).2).length ((b :: t).drop (decL (b :: t)).2) (by rw [List.length_drop]; simp only [List.length_cons]; omega) (Nat.le_refl _)]
theorem runL_le (p : Nat → Bool) : ∀ (n : Nat) (l : Bs), l.length ≤ n → runL p l ≤ l.length
 | 0, l, h => by
  have : l = [] := List.eq_nil_of_length_eq_zero (by omega)
  subst this; simp [runL_nil]
 | n + 1, l, h => by
  by_cases hl : l = []
  ·subst hl; simp [runL_nil]
  ·rw [runL_step p l hl]
   have hw := decL_width l
   split
   ·have := runL_le p n (l.drop (decL l).2) (by rw [List.length_drop]; omega)
    rw [List.length_drop] at this
    have := hw.2.2 hl
    omega
   ·omega
theorem runL_le' (p : Nat → Bool) (l : Bs) : runL p l ≤ l.length := runL_le p _ l (Nat.le_refl _)
def digR (r : Nat) : Option Nat := if 48 ≤ r ∧ r ≤ 57 then some (r - 48) else if 97 ≤ r ∧ r ≤ 102 then some (r - 87) else if 65 ≤ r ∧ r ≤ 70 then some (r - 55) else none
def sizeG (hex : Bool) : Nat → Nat → Bs → Option Nat
 | 0, n, _ => some n
 | _ + 1, n, [] => some n
 | f + 1, n, b :: t =>
  match digR (decL (b :: t)).1 with
  | none => none
  | some d => if d > 9 && !hex then none else
    sizeG hex f (if hex then (n * 16 + d) % 18446744073709551616 else min (10 * n + d) 18446744073709551615) ((b :: t).drop (decL (b :: t)).2)
def sizeL (hex : Bool) (n : Nat) (l : Bs) : Option Nat := sizeG hex l.length n l
def hexHead (l : Bs) : Bool := [48, 120].isPrefixOf l || [48, 88].isPrefixOf l
def sint (u : Nat) : Int := if u < 9223372036854775808 then u else (u : Int) - 18446744073709551616
def parseF (l : Bs) : Int × Int :=
 let rest := if hexHead l then l.drop 2 else l
 if rest = [] then (0, 4) else
 match sizeL (hexHead l) 0 rest with
 | none => (0, 4)
 | some u => if !hexHead l && u > 9223372036854775807 then (0, 14) else (sint u, 0)
def hexD (b : UInt8) : Option Nat := if 48 ≤ b.toNat ∧ b.toNat ≤ 57 then some (b.toNat - 48) else if 97 ≤ b.toNat ∧ b.toNat ≤ 102 then some (b.toNat - 87) else if 65 ≤ b.toNat ∧ b.toNat ≤ 70 then some (b.toNat - 55) else none
def hexG : Nat → Bs → Nat → Nat → Nat × Nat
 | 0, _, n, k => (n, k)
 | _ + 1, [], n, k => (n, k)
 | m + 1, b :: t, n, k => match hexD b with | none => (n, k) | some d => hexG m t (16 * n + d) (k + 1)
def decG : Nat → Bs → Nat → Nat → Nat × Nat
 | 0, _, n, k => (n, k)
 | _ + 1, [], n, k => (n, k)
 | m + 1, b :: t, n, k => if 48 ≤ b.toNat ∧ b.toNat ≤ 57 then decG m t (10 * n + (b.toNat - 48)) (k + 1) else (n, k)
def plainB (c : UInt8) : UInt8 := if c = 110 then 10 else if c = 116 then 9 else if c = 114 then 13 else if c = 92 ∨ c = 34 ∨ c = 39 then c else 0
inductive Esc where
 | ended
 | unfit
 | ok (bytes : Bs) (len : Nat)
def escF : Bs → Esc
 | [] => .ended
 | c :: t =>
  if plainB c ≠ 0 then .ok [plainB c] 2
  else if c = 120 then
   if (hexG 2 t 0 0).2 < 2 then .unfit else .ok [UInt8.ofNat (hexG 2 t 0 0).1] 4
  else if c = 117 ∧ t.head? = some 123 then
   if (hexG 8 t.tail 0 0).2 = 0 ∨ Utf8.valid (hexG 8 t.tail 0 0).1 = false ∨ (t.tail.drop (hexG 8 t.tail 0 0).2).head? ≠ some 125 then .unfit
   else .ok (bs (Utf8.encode (hexG 8 t.tail 0 0).1)) (4 + (hexG 8 t.tail 0 0).2)
  else if (decG 3 (c :: t) 0 0).2 = 0 ∨ (decG 3 (c :: t) 0 0).1 > 255 then .unfit
  else .ok [UInt8.ofNat (decG 3 (c :: t) 0 0).1] (1 + (decG 3 (c :: t) 0 0).2)
inductive TextR where
 | bad (code : Int) (rel : Nat)
 | ok (val : Bs) (len : Nat)
def textG (q : UInt8) : Nat → Bs → Bs → Nat → TextR
 | 0, _, _, _ => .bad 4 0
 | _ + 1, [], _, _ => .bad 4 0
 | f + 1, b :: t, acc, i =>
  if b = 10 then .bad 4 0
  else if b = q then (if acc.length > 10000 then .bad 14 0 else .ok acc (i + 1))
  else if b = 92 then
   match escF t with
   | .ended => .bad 4 0
   | .unfit => .bad 4 i
   | .ok e n => textG q f ((b :: t).drop n) (acc ++ e) (i + n)
  else textG q f t (acc ++ [b]) (i + 1)
def wordList : List Bs := [[97, 110, 100], [98, 114, 101, 97, 107], [100, 111], [101, 108, 115, 101], [101, 108, 115, 101, 105, 102], [101, 110, 100], [102, 97, 108, 115, 101], [102, 111, 114], [102, 117, 110, 99, 116, 105, 111, 110], [105, 102], [105, 110], [108, 111, 99, 97, 108], [110, 105, 108], [110, 111, 116], [111, 114], [114, 101, 116, 117, 114, 110], [116, 104, 101, 110], [116, 114, 117, 101], [119, 104, 105, 108, 101]]
def isWordF (l : Bs) : Bool := wordList.contains l
def signList : List Bs := [[61, 61], [126, 61], [60, 61], [62, 61], [47, 47], [46, 46], [43], [45], [42], [37], [60], [62], [61], [35], [40], [41], [123], [125], [91], [93], [59], [44], [46]]
def signF (l : Bs) : Option Bs := signList.find? fun s => s.isPrefixOf l
inductive Step where
 | done
 | skip (n : Nat)
 | tok (kind : Int) (text : Bs) (n : Int) (len : Nat)
 | bad (code : Int) (rel : Nat)
def stepF (l : Bs) : Step :=
 if l = [] then .done
 else if [45, 45].isPrefixOf l then .skip (runL inLineR l)
 else if letterR (decL l).1 then
  let n := runL partR l
  if n > 40 then .bad 14 0 else .tok (if isWordF (l.take n) then 2 else 1) (l.take n) 0 n
 else if digitR (decL l).1 then
  let n := runL partR l
  if (parseF (l.take n)).2 ≠ 0 then .bad (parseF (l.take n)).2 0 else .tok 3 (l.take n) (parseF (l.take n)).1 n
 else if (decL l).1 = 34 ∨ (decL l).1 = 39 then
  match textG (UInt8.ofNat (decL l).1) l.length l.tail [] 1 with
  | .bad c r => .bad c r
  | .ok v k => .tok 4 v 0 k
 else match signF l with
  | none => .bad 4 0
  | some s => .tok 5 s 0 s.length
structure Tok where
 kind : Int
 text : Bs
 n : Int
 at_ : Nat
deriving DecidableEq
def scanG : Nat → Bs → Nat → List Tok → (Int × Int) ⊕ List Tok
 | 0, _, at_, acc => .inr (acc ++ [⟨6, [], 0, at_⟩])
 | f + 1, l, at_, acc =>
  let k := runL blankR l
  match stepF (l.drop k) with
  | .done => .inr (acc ++ [⟨6, [], 0, at_ + k⟩])
  | .skip n => scanG f ((l.drop k).drop n) (at_ + k + n) acc
  | .tok kind text n len => scanG f ((l.drop k).drop len) (at_ + k + len) (acc ++ [⟨kind, text, n, at_ + k⟩])
  | .bad c r => .inl (c, (at_ + k + r : Nat))
def scanF (l : Bs) : (Int × Int) ⊕ List Tok := if l.length > 20000 then .inl (14, -1) else scanG (l.length + 1) l 0 []
end Lx
end Go.Proofs.YtidiahkobapnjaaGreatDoor
namespace Go.Proofs.YtidiahkobapnjaaGreatDoor
open Go Go.RowKit Lx
section
variable {w w' : World} {b i : Nat} {c : Array Value} {e : TypeId} {v : Value}
theorem blk_lt {o : Obj} (h : w.heap[b]? = some o) : b < w.heap.size := (Array.getElem?_eq_some_iff.1 h).1
theorem blk_cell {z : Nat × Nat} (h : w.heap[b]? = some (.cells c e z)) (i : Nat) : w.cell? ⟨b, i, none⟩ = c[i]? := by simp [World.cell?, h]
theorem blk_free (h : w.heap[b]? = some (.cells c e (0, 0))) (i : Nat) : w.frozen? ⟨b, i, none⟩ = false := by simp [World.frozen?, h]
theorem blk_set {z : Nat × Nat} (h : w.heap[b]? = some (.cells c e z)) (i : Nat) (v : Value) : (w.setCell ⟨b, i, none⟩ v).heap[b]? = some (.cells (c.setIfInBounds i v) e z) := by
 simp [World.setCell, Array.getElem?_modify, h]
theorem blk_set_ne {o : Obj} {a : Addr} (h : w.heap[b]? = some o) (hne : a.block ≠ b) (v : Value) : (w.setCell a v).heap[b]? = some o := by
 rw [Below.heap_setCell w a v b (fun e => hne e.symm)]; exact h
theorem blk_alloc {o o' : Obj} (h : w.heap[b]? = some o) : (w.alloc o').heap[b]? = some o := by
 rw [Below.heap_alloc w o' b (blk_lt h)]; exact h
theorem blk_drew {o : Obj} (h : w.heap[b]? = some o) : w.drew.heap[b]? = some o := h
theorem blk_new (w : World) (o : Obj) : (w.alloc o).heap[w.heap.size]? = some o := heap_alloc_new w o
theorem blk_below {B : Nat} {o : Obj} (hb : Below B w w') (hlt : b < B) (h : w.heap[b]? = some o) : w'.heap[b]? = some o := by rw [hb.block b hlt]; exact h
theorem blk_grown {o : Obj} {row : Option Nat} (hg : w.grownBy w' row) (hne : row ≠ some b) (h : w.heap[b]? = some o) : w'.heap[b]? = some o := by
 rw [hg.block b (blk_lt h) (fun e => hne e.symm)]; exact h
theorem new_cells (w : World) (vs : List Value) (e : TypeId) (n : Nat) (h : w.heap.size = n) : ∀ j u, vs[j]? = some u → (w.alloc (.cells vs.toArray e)).drew.cell? ((⟨n, 0, none⟩ : Addr).add j) = some u := by
 intro j u hu
 subst h
 have hadd : (⟨w.heap.size, 0, none⟩ : Addr).add j = ⟨w.heap.size, j, none⟩ := by unfold Addr.add; split <;> simp_all
 rw [hadd]
 simp [hu]
theorem new_cells' (w : World) (vs : List Value) (e : TypeId) : ∀ j u, vs[j]? = some u → (w.alloc (.cells vs.toArray e)).cell? ((⟨w.heap.size, 0, none⟩ : Addr).add j) = some u := by
 intro j u hu
 have hadd : (⟨w.heap.size, 0, none⟩ : Addr).add j = ⟨w.heap.size, j, none⟩ := by unfold Addr.add; split <;> simp_all
 rw [hadd]
 simp [hu]
theorem owns_shape {w : World} {B : Nat} {e e' : TypeId} {size n sb : Nat} {v : Value} {xs : List Value} {c : Array Value} {z : Nat × Nat} (h : w.ownsRow B e size v (n + 1) xs) (hs : w.heap[sb]? = some (.cells c e' z)) (hne : e ≠ e') :
  ∃ g cap, v = .slice (some ⟨g, 0, none⟩) (n + 1) cap ∧ B ≤ g ∧ g ≠ sb := by
 rcases h.2 with ⟨_, h⟩ | ⟨g, cap, cur, hv, hg, hh, _⟩
 ·omega
 ·refine ⟨g, cap, hv, hg, fun h => hne ?_⟩
  subst h
  rw [hs] at hh
  cases hh
  rfl
end
def tokCells (t : Tok) : List Value := [.int .i64 t.kind, .string (str t.text), .int .i64 t.n, .int .i64 t.at_]
def tokRow (l : List Tok) : List Value := l.flatMap tokCells
theorem tokRow_snoc (l : List Tok) (t : Tok) : tokRow (l ++ [t]) = tokRow l ++ tokCells t := by simp [tokRow]
def Sc (B sb : Nat) (src : ByteArray) (at_ : Nat) (l : List Tok) (w : World) : Prop :=
 ∃ lv, w.heap[sb]? = some (.cells #[.string src, .int .i64 at_, lv] 67 (0, 0)) ∧ w.ownsRow B 49 4 lv l.length (tokRow l) ∧ lv.ownBlock ≠ some sb ∧ B ≤ sb
section
variable {B sb at_ : Nat} {src : ByteArray} {l : List Tok} {w w' : World}
theorem Sc.keep (h : Sc B sb src at_ l w) (hk : ∀ k, B ≤ k → k < w.heap.size → w'.heap[k]? = w.heap[k]?) : Sc B sb src at_ l w' := by
 obtain ⟨lv, h1, h2, h3, h4⟩ := h
 refine ⟨lv, by rw [hk sb h4 (blk_lt h1)]; exact h1, ⟨h2.1, ?_⟩, h3, h4⟩
 rcases h2.2 with h | ⟨g, cap, cur, hv, hg, hh, r⟩
 ·exact .inl h
 ·exact .inr ⟨g, cap, cur, hv, hg, by rw [hk g hg (blk_lt hh)]; exact hh, r⟩
theorem Sc.alloc (h : Sc B sb src at_ l w) (o : Obj) : Sc B sb src at_ l (w.alloc o) := h.keep fun k _ hk => Below.heap_alloc w o k hk
theorem Sc.drew (h : Sc B sb src at_ l w) : Sc B sb src at_ l w.drew := h.keep fun _ _ _ => rfl
theorem Sc.below {C : Nat} (h : Sc B sb src at_ l w) (hC : ∀ k, B ≤ k → k < w.heap.size → k < C) (hb : Below C w w') : Sc B sb src at_ l w' := h.keep fun k h1 h2 => hb.block k (hC k h1 h2)
theorem Sc.later (h : Sc B sb src at_ l w) (hb : Below w.heap.size w w') : Sc B sb src at_ l w' := h.keep fun k _ hk => hb.block k hk
theorem Sc.lt (h : Sc B sb src at_ l w) : sb < w.heap.size := by
 obtain ⟨lv, h1, _⟩ := h
 exact blk_lt h1
theorem Sc.base (h : Sc B sb src at_ l w) : B ≤ sb := by
 obtain ⟨lv, _, _, _, h4⟩ := h
 exact h4
theorem Sc.reads (h : Sc B sb src at_ l w) : sb < w.heap.size ∧ w.cell? ⟨sb, 0, none⟩ = some (.string src) ∧ w.cell? ⟨sb, 1, none⟩ = some (.int .i64 at_) := by
 obtain ⟨lv, h1, _⟩ := h
 exact ⟨blk_lt h1, by rw [blk_cell h1]; rfl, by rw [blk_cell h1]; rfl⟩
theorem Sc.move (h : Sc B sb src at_ l w) (at' : Nat) : Sc B sb src at' l (w.setCell ⟨sb, 1, none⟩ (.int .i64 at')) := by
 obtain ⟨lv, h1, h2, h3, h4⟩ := h
 refine ⟨lv, by rw [blk_set h1]; rfl, ⟨h2.1, ?_⟩, h3, h4⟩
 rcases h2.2 with h | ⟨g, cap, cur, hv, hg, hh, r⟩
 ·exact .inl h
 ·refine .inr ⟨g, cap, cur, hv, hg, blk_set_ne hh (fun e => ?_) _, r⟩
  rw [hv] at h3
  exact h3 (by simp only [Value.ownBlock]; exact congrArg some e.symm)
theorem Sc.free (h : Sc B sb src at_ l w) (i : Nat) : w.frozen? ⟨sb, i, none⟩ = false := by
 obtain ⟨lv, h1, _⟩ := h
 exact blk_free h1 i
end
theorem infoTok : (Tryz.prog.info? 49).map (fun i => (i.zero, i.size, i.bytes)) = some (some (.agg #[.int .i64 0, .string ByteArray.empty, .int .i64 0, .int .i64 0]), 4, 40) := by kernel_rfl
end Go.Proofs.YtidiahkobapnjaaGreatDoor
namespace Go.Proofs.YtidiahkobapnjaaGreatDoor
open Go Go.RowKit Lx
abbrev failEnd (c a : Int) : Ending := .panicked [{ v := .iface 64 (.agg #[.int .i64 c, .int .i64 a]), recovered := false }]
set_option maxHeartbeats 400000 in
theorem fail_any (c n : Int) (w : World) :
  Calls Tryz.prog 80 #[.int .i64 c, .int .i64 n] w fun e w' => e = failEnd c n ∧ w = w' := by
 go_enter Tryz.func80, Tryz.ntmps80
 go_wp2
 exact ⟨rfl, rfl, rfl⟩
set_option maxHeartbeats 400000 in
theorem unfit_any (p : Value) (n : Int) (w : World) :
  Calls Tryz.prog 109 #[p, .int .i64 n] w fun e w' => e = failEnd 4 n ∧ w = w' := by
 go_enter Tryz.func109, Tryz.ntmps109
 go_wp2_with ((go_at_call 80; refine (fail_any _ _ _).mono ?_; rintro e w' ⟨rfl, rfl⟩))
 exact ⟨rfl, rfl, rfl⟩
set_option maxHeartbeats 1000000 in
theorem add_any (B sb at_ : Nat) (src : ByteArray) (l : List Tok) (n : Nat) (k x m : Int) (t : ByteArray) (w : World)
  (h : Sc B sb src at_ l w) (hB : B ≤ w.heap.size) (hl : l.length ≤ 100000) (hat : at_ + n ≤ 1000000) :
  Calls Tryz.prog 22 #[.pointer (some ⟨sb, 0, none⟩), .agg #[.int .i64 k, .string t, .int .i64 x, .int .i64 m], .int .i64 n] w
   fun e w' => e = .returned (.tuple #[]) ∧ Sc B sb src (at_ + n) (l ++ [⟨k, bs t, x, at_⟩]) w' ∧ Below B w w' := by
 obtain ⟨lv, hblk, hown, hne, hsb⟩ := h
 have hb := blk_lt hblk
 have c0 : w.cell? ⟨sb, 0, none⟩ = some (.string src) := by rw [blk_cell hblk]; rfl
 have c1 : w.cell? ⟨sb, 1, none⟩ = some (.int .i64 at_) := by rw [blk_cell hblk]; rfl
 have c2 : w.cell? ⟨sb, 2, none⟩ = some lv := by rw [blk_cell hblk]; rfl
 have HB := Lib.hid hblk; clear hblk
 obtain ⟨i0, hi, hz0, hz1, hz2⟩ := info_parts infoTok
 go_enter Tryz.func22, Tryz.ntmps22
 go_wp2
 refine wp_region_plan [(0, 0), (1, 0), (2, 0), (3, 0), (4, 3), (5, 3), (6, 1)] (fun w' => w'.cell? ⟨sb, 2, none⟩ = some lv ∧ w'.cell? ⟨w.heap.size, 0, none⟩ = some (.int .i64 k) ∧ w'.cell? ⟨w.heap.size, 1, none⟩ = some (.string t) ∧ w'.cell? ⟨w.heap.size, 2, none⟩ = some (.int .i64 x) ∧ w'.cell? ⟨w.heap.size, 3, none⟩ = some (.int .i64 at_)) (by kernel_rfl) (by kernel_rfl) (fun _ _ d _ _ h => by cases d <;> exact h) (by refine ⟨?_, ?_, ?_, ?_, ?_⟩ <;> go_simp) ?_
 simp only [planOps, List.filterMap_cons, List.filterMap_nil, List.getElem?_toArray, List.getElem?_cons_zero, List.getElem?_cons_succ, Option.map_some, List.drop_succ_cons, List.drop_zero, List.length_cons, List.length_nil]
 iterate 4 (refine plan_pure (by rfl) (fun wq => by go_simp; with_reducible rfl) ?_; simp only [Act.put, List.setIfInBounds_toArray, List.set_cons_zero, List.set_cons_succ])
 iterate 2 (refine plan_load (by rfl) (fun wq hq => by obtain ⟨hq0, hq1, hq2, hq3, hq4⟩ := hq; go_simp; with_reducible rfl) ?_; simp only [Act.put, List.setIfInBounds_toArray, List.set_cons_zero, List.set_cons_succ])
 refine plan_turn ?_ ?_
 ·rfl
 intro K hK
 go_wp2
 refine ⟨by refine ⟨?_, ?_, ?_, ?_, ?_⟩ <;> go_simp, ?_⟩
 refine plan_done ?_
 refine wpList_append_own _ rfl _ _ 40 rfl B 49 i0 _ 4 40 Tryz.underlying40 hi hz0 hz1 hz2 rfl (by decide) lv l.length (tokRow l) rfl ((hown.alloc _).alloc _) ⟨w.heap.size + 1, 0, none⟩ 1 1 [.int .i64 k, .string t, .int .i64 x, .int .i64 at_] rfl rfl ?_ ?_ ?_ ?_ ?_ ?_
 ·exact new_cells (w.alloc _) _ _ _ (by simp)
 ·simp [Value.oneCell']
 ·unfold maxLen; omega
 ·omega
 ·simp; omega
 intro v1 w1 hown1 hgr1 _
 have HB1 := Lib.hid (blk_grown hgr1 hne (blk_drew (blk_alloc (blk_alloc HB.out))))
 have d1 : w1.cell? ⟨sb, 1, none⟩ = some (.int .i64 at_) := by rw [blk_cell HB1.out]; rfl
 have d2 : w1.cell? ⟨sb, 2, none⟩ = some lv := by rw [blk_cell HB1.out]; rfl
 have e1 := blk_free HB1.out 1
 have e2 := blk_free HB1.out 2
 obtain ⟨g1, cap1, hv1, hg1, hne1⟩ := owns_shape hown1 HB1.out (by decide)
 have hown1 : w1.ownsRow B 49 4 (.slice (some ⟨g1, 0, none⟩) (l.length + 1) cap1) (l.length + 1) (tokRow l ++ [.int .i64 k, .string t, .int .i64 x, .int .i64 at_]) := by rw [← hv1]; exact hown1
 rw [hv1]
 have HO := Lib.hid hown1
 have HG := Lib.hid hgr1
 have HV := Lib.hid hv1
 clear hown1 hgr1 c0 c1 c2 hi hz0 hz1 hz2 hv1
 go_wp2
 go_end0
 have hb2 : Below B w w1 := ((((Below.refl B w).alloc hB _).alloc (by simp; omega) _).drew).grown HG.out (by simp; omega) (fun k hk => (hown.lt k hk).1)
 refine ⟨rfl, ?_, ?_⟩
 ·refine ⟨.slice (some ⟨g1, 0, none⟩) (l.length + 1) cap1, ?_, ?_, by simp only [Value.ownBlock]; exact fun h => hne1 (Option.some.inj h), hsb⟩
  ·rw [blk_set (blk_set HB1.out 2 _) 1 _]; simp
  ·rw [List.length_append, List.length_singleton, tokRow_snoc]
   have e : tokCells ⟨k, bs t, x, at_⟩ = [.int .i64 k, .string t, .int .i64 x, .int .i64 at_] := by simp [tokCells, str_bs]
   rw [e]
   refine ⟨HO.out.1, ?_⟩
   rcases HO.out.2 with ⟨h, _⟩ | ⟨g, cap, cur, hv, hg, hh, r⟩
   ·cases h
   ·cases hv
    exact .inr ⟨g1, cap1, cur, rfl, hg, blk_set_ne (blk_set_ne hh (fun h => hne1 h.symm) _) (fun h => hne1 h.symm) _, r⟩
 ·exact (hb2.setCell hsb _).setCell hsb _
end Go.Proofs.YtidiahkobapnjaaGreatDoor
namespace Go.Proofs.YtidiahkobapnjaaGreatDoor
open Go Go.RowKit Lx
theorem ret_int {k : IntKind} {a b : Int} (h : a = b) : Ending.returned (.int k a) = .returned (.int k b) := by rw [h]
def IsSort (f : FuncId) (p : Nat → Bool) : Prop :=
 (∀ args w, (callFunc f args).run Tryz.prog w = .ok (.enter f args) w) ∧
 ∀ (r : Nat) (w : World), r ≤ 1114111 → Calls Tryz.prog f #[.int .i32 r] w fun e w' => e = .returned (.bool (p r)) ∧ w = w'
theorem decL_le (l : Bs) : (decL l).1 ≤ 1114111 := by
 have hb : ∀ k, (l.getD k 0).toNat < 256 := fun k => (l.getD k 0).toNat_lt
 have h0 := hb 0; have h1 := hb 1; have h2 := hb 2; have h3 := hb 3
 unfold decL
 simp only []
 (repeat' split) <;> simp_all [Utf8.valid] <;> omega
set_option maxHeartbeats 1000000 in
theorem run_any (f : FuncId) (p : Nat → Bool) (sb at_ : Nat) (src : ByteArray) (w : World) (hf : IsSort f p)
  (hb : sb < w.heap.size) (c0 : w.cell? ⟨sb, 0, none⟩ = some (.string src)) (c1 : w.cell? ⟨sb, 1, none⟩ = some (.int .i64 at_)) (hat : at_ ≤ src.size) (hsz : src.size ≤ 1000000) :
  Calls Tryz.prog 47 #[.pointer (some ⟨sb, 0, none⟩), .func (.func f) #[] #[]] w
   fun e w' => e = .returned (.int .i64 (runL p ((bs src).drop at_))) ∧ Below w.heap.size w w' := by
 have h1 := hf.1
 have H2 := Lib.hid hf.2
 clear hf
 have hat' : (at_ : Int) ≤ src.size := by omega
 go_enter Tryz.func47, Tryz.ntmps47
 go_wp2
 refine wp_region_plan [(0, 0), (1, 0), (2, 0), (3, 3), (4, 0), (5, 0), (6, 0), (7, 3)] (fun w' => w'.cell? ⟨sb, 0, none⟩ = some (.string src) ∧ w'.cell? ⟨sb, 1, none⟩ = some (.int .i64 at_)) (by kernel_rfl) (by kernel_rfl) (fun _ _ d _ _ h => by cases d <;> exact h) (by refine ⟨?_, ?_⟩ <;> go_simp) ?_
 simp only [planOps, List.filterMap_cons, List.filterMap_nil, List.getElem?_toArray, List.getElem?_cons_zero, List.getElem?_cons_succ, Option.map_some, List.drop_succ_cons, List.drop_zero, List.length_cons, List.length_nil]
 iterate 3 (refine plan_pure (by rfl) (fun wq => by go_simp; with_reducible rfl) ?_; simp only [Act.put, List.setIfInBounds_toArray, List.set_cons_zero, List.set_cons_succ])
 iterate 1 (refine plan_load (by rfl) (fun wq hq => by obtain ⟨hq0, hq1⟩ := hq; go_simp; with_reducible rfl) ?_; simp only [Act.put, List.setIfInBounds_toArray, List.set_cons_zero, List.set_cons_succ])
 iterate 3 (refine plan_pure (by rfl) (fun wq => by go_simp; with_reducible rfl) ?_; simp only [Act.put, List.setIfInBounds_toArray, List.set_cons_zero, List.set_cons_succ])
 iterate 1 (refine plan_load (by rfl) (fun wq hq => by obtain ⟨hq0, hq1⟩ := hq; go_simp; with_reducible rfl) ?_; simp only [Act.put, List.setIfInBounds_toArray, List.set_cons_zero, List.set_cons_succ])
 refine plan_done ?_
 go_wp2
 have HL := Lib.hid (runL_le' p (bs (src.extract at_ src.size)))
 have hss : (src.extract at_ src.size).size ≤ 1000000 := by rw [← bs_length, bs_tail, List.length_drop, bs_length]; omega
 have Hss := Lib.hid (show bs (src.extract at_ src.size) = (bs src).drop at_ from bs_tail src at_)
 have Hlen := Lib.hid (show (src.extract at_ src.size).size = src.size - at_ by rw [← bs_length, bs_tail, List.length_drop, bs_length])
 generalize src.extract at_ src.size = suf at *
 go_loopw [17] (fun _ wr => ∃ pos, pos ≤ suf.size ∧ Hid (runL p (bs suf) = pos + runL p ((bs suf).drop pos)) ∧ wr = w.drew.iter suf pos) (fun _ wr => suf.size - wr.iterPos w.heap.size)
 case atStart => exact ⟨0, Nat.zero_le _, by unfold Hid; simp, rfl⟩
 case round =>
  obtain ⟨pos, hpos, hrun, rfl⟩ := hrel
  by_cases hlt : pos < suf.size
  ·have hnext := run_next_any (P := Tryz.prog) w.drew suf pos
   have hd := decL_le ((bs suf).drop pos)
   have HD := Lib.hid (decode_eq suf pos)
   have hnx : ∀ ty, (Instr.next (.pointer (some ⟨w.heap.size, 0, none⟩)) true ty).run Tryz.prog (w.drew.iter suf pos) = .ok (.tuple #[.bool true, .int .i64 pos, .int .i32 (decL ((bs suf).drop pos)).1]) (w.drew.iter suf (pos + (decL ((bs suf).drop pos)).2)) := fun ty => by
    have := hnext ty hlt
    rw [HD.out] at this
    exact this
   clear hnext
   have hne : (bs suf).drop pos ≠ [] := fun h => by
    have := congrArg List.length h
    rw [List.length_drop, bs_length] at this
    simp at this; omega
   have HS := Lib.hid (runL_step p ((bs suf).drop pos) hne)
   have HW := Lib.hid (decL_width ((bs suf).drop pos))
   have hlen : ((bs suf).drop pos).length = suf.size - pos := by rw [List.length_drop, bs_length]
   have HLL := Lib.hid hlen
   clear hlen
   have hne' := Lib.hid hne
   clear hne
   generalize hr : (decL ((bs suf).drop pos)).1 = r at *
   generalize hk : (decL ((bs suf).drop pos)).2 = k at *
   have hcase : p r = true ∨ p r = false := by cases p r <;> simp
   have HR := Lib.hid hr
   have HK := Lib.hid hk
   clear hr hk
   rcases hcase with hp | hp
   ·have HP := Lib.hid hp
    clear hp
    go_wp2_with fail
    refine (H2.out r _ hd).mono ?_
    rintro e w' ⟨rfl, rfl⟩
    rw [HP.out]
    go_wp2_with fail
    go_roundw
    case rel =>
     refine ⟨pos + k, ?_, ?_, rfl⟩
     ·have := (HW.out.2.2 hne'.out); rw [HLL.out] at this; omega
     ·unfold Hid at *
      rw [hrun, HS, if_pos HP, List.drop_drop]; omega
    case measure =>
     have hk1 := HW.out.1
     have e : ∀ q, (w.drew.iter suf q).iterPos w.heap.size = q := fun q => World.iterPos_iter w.drew suf q
     simp only [e]
     omega
   ·have HP := Lib.hid hp
    clear hp
    go_wp2_with fail
    refine (H2.out r _ hd).mono ?_
    rintro e w' ⟨rfl, rfl⟩
    rw [HP.out]
    go_wp2_with fail
    go_ret
    have hp' := HP.out
    refine ⟨ret_int ?_, ?_⟩
    ·have h := hrun
     unfold Hid at *
     rw [HS, hp', Hss] at h
     simp only [Bool.false_eq_true, if_false, Nat.add_zero] at h
     rw [h]
    ·exact ((Below.refl _ w).drew).alloc (Nat.le_refl _) _
  ·have hnx := fun ty => run_next_end (P := Tryz.prog) w.drew suf pos ty hlt
   have hnx' : ∀ ty, (Instr.next (.pointer (some ⟨w.heap.size, 0, none⟩)) true ty).run Tryz.prog (w.drew.iter suf pos) = .ok (.tuple #[.bool false]) (w.drew.iter suf pos) := hnx
   clear hnx
   have d0 : (w.drew.iter suf pos).cell? ⟨sb, 0, none⟩ = some (.string src) := (World.cell?_alloc_lt w.drew _ ⟨sb, 0, none⟩ hb).trans c0
   have d1 : (w.drew.iter suf pos).cell? ⟨sb, 1, none⟩ = some (.int .i64 at_) := (World.cell?_alloc_lt w.drew _ ⟨sb, 1, none⟩ hb).trans c1
   have HBW := Lib.hid (((Below.refl w.heap.size w).drew).alloc (Nat.le_refl _) (.stringIter suf pos))
   clear c0 c1
   go_wp2
   refine wp_region_plan [(0, 0), (1, 0), (2, 0), (3, 3), (4, 0), (5, 0), (6, 0), (7, 0), (8, 3)] (fun w' => w'.cell? ⟨sb, 0, none⟩ = some (.string src) ∧ w'.cell? ⟨sb, 1, none⟩ = some (.int .i64 at_)) (by kernel_rfl) (by kernel_rfl) (fun _ _ d _ _ h => by cases d <;> exact h) (by refine ⟨?_, ?_⟩ <;> go_simp) ?_
   simp only [planOps, List.filterMap_cons, List.filterMap_nil, List.getElem?_toArray, List.getElem?_cons_zero, List.getElem?_cons_succ, Option.map_some, List.drop_succ_cons, List.drop_zero, List.length_cons, List.length_nil]
   iterate 3 (refine plan_pure (by rfl) (fun wq => by go_simp; with_reducible rfl) ?_; simp only [Act.put, List.setIfInBounds_toArray, List.set_cons_zero, List.set_cons_succ])
   iterate 1 (refine plan_load (by rfl) (fun wq hq => by obtain ⟨hq0, hq1⟩ := hq; go_simp; with_reducible rfl) ?_; simp only [Act.put, List.setIfInBounds_toArray, List.set_cons_zero, List.set_cons_succ])
   iterate 4 (refine plan_pure (by rfl) (fun wq => by go_simp; with_reducible rfl) ?_; simp only [Act.put, List.setIfInBounds_toArray, List.set_cons_zero, List.set_cons_succ])
   iterate 1 (refine plan_load (by rfl) (fun wq hq => by obtain ⟨hq0, hq1⟩ := hq; go_simp; with_reducible rfl) ?_; simp only [Act.put, List.setIfInBounds_toArray, List.set_cons_zero, List.set_cons_succ])
   refine plan_done ?_
   go_wp2
   go_ret
   refine ⟨ret_int ?_, HBW.out.drew⟩
   have h := hrun
   have hp : pos = suf.size := by omega
   unfold Hid at h Hss Hlen
   rw [List.drop_of_length_le (by rw [bs_length]; omega), runL_nil, Hss] at h
   rw [h]
   omega
end Go.Proofs.YtidiahkobapnjaaGreatDoor
namespace Go.Proofs
open Go.Shelf
def Tryz.lays169_ren : Go.Shelf.Ren := ⟨fun | 169 => 46 | n => n, fun | 70 => 84 | 9 => 9 | 0 => 0 | 72 => 87 | 37 => 85 | 127 => 106 | 3 => 3 | 5 => 5 | n => n, fun | n => n⟩
theorem Tryz.lays169 : Go.Proofs.Lays.n169 Tryz.prog Tryz.lays169_ren := {
 mixed := by kernel_rfl
 f169 := Tryz.func46.trans (congrArg some (by kernel_rfl))
 t0 := Tryz.underlying0
 a0 := Tryz.isAgg0
 z0 := Tryz.sizeOf0
 v0 := Tryz.zeroValue0
 t3 := Tryz.underlying3
 a3 := Tryz.isAgg3
 z3 := Tryz.sizeOf3
 v3 := Tryz.zeroValue3
 t9 := Tryz.underlying9
 a9 := Tryz.isAgg9
 z9 := Tryz.sizeOf9
 v9 := Tryz.zeroValue9
 t37 := Tryz.underlying85
 a37 := Tryz.isAgg85
 z37 := Tryz.sizeOf85
 v37 := Tryz.zeroValue85
 t70 := Tryz.underlying84
 a70 := Tryz.isAgg84
 z70 := Tryz.sizeOf84
 v70 := Tryz.zeroValue84
 t72 := Tryz.underlying87
 a72 := Tryz.isAgg87
 z72 := Tryz.sizeOf87
 v72 := Tryz.zeroValue87
 t127 := Tryz.underlying106
 a127 := Tryz.isAgg106
 z127 := Tryz.sizeOf106
 v127 := Tryz.zeroValue106 }
theorem Tryz.Builder_Extra_169 : Builder.Extra Tryz.prog Tryz.lays169_ren := {
 sizeBuilder := by kernel_rfl
 liesBuilder := by kernel_rfl
 t5 := Tryz.underlying5
 a5 := Tryz.isAgg5
 z5 := Tryz.sizeOf5
 v5 := Tryz.zeroValue5
 infoByte := by kernel_rfl
 cellsByte := by kernel_rfl
 sizeByte := by kernel_rfl
 neB5 := by decide }
open Go.RowKit in
theorem Tryz.Builder_String_any (B b : Nat) (l : List UInt8) (w : World) (h : Lib.IsBuilder 87 5 B b (Lib.byteCells l) w) (hBw : B ≤ w.heap.size) :
  Calls Tryz.prog 46 #[.pointer (some ⟨b, 0, none⟩)] w fun e w' => e = .returned (.string ⟨l.toArray⟩) ∧ Below B w w' := Any.Builder_String_any Tryz.lays169 Tryz.Builder_Extra_169 B b l w h hBw
def Tryz.lays119_ren : Go.Shelf.Ren := ⟨fun | 119 => 104 | n => n, fun | 21 => 21 | 4 => 4 | n => n, fun | n => n⟩
theorem Tryz.lays119 : Go.Proofs.Lays.n119 Tryz.prog Tryz.lays119_ren := {
 mixed := by kernel_rfl
 f119 := Tryz.func104.trans (congrArg some (by kernel_rfl))
 t4 := Tryz.underlying4
 a4 := Tryz.isAgg4
 z4 := Tryz.sizeOf4
 v4 := Tryz.zeroValue4
 t21 := Tryz.underlying21
 a21 := Tryz.isAgg21
 z21 := Tryz.sizeOf21
 v21 := Tryz.zeroValue21 }
theorem Tryz.utf8_ValidRune (r : Int) (w : World) :
  Calls Tryz.prog 104 #[.int .i32 r] w fun e w' => e = .returned (.bool (Lib.validRune r)) ∧ w' = w := Any.utf8_ValidRune Tryz.lays119 r w
def Tryz.lays137_ren : Go.Shelf.Ren := ⟨fun | 137 => 122 | 217 => 131 | 266 => 144 | n => n, fun | 9 => 9 | 5 => 5 | 3 => 3 | n => n, fun | n => n⟩
theorem Tryz.lays137 : Go.Proofs.Lays.n137 Tryz.prog Tryz.lays137_ren := {
 mixed := by kernel_rfl
 f137 := Tryz.func122.trans (congrArg some (by kernel_rfl))
 f217 := Tryz.func131.trans (congrArg some (by kernel_rfl))
 f266 := Tryz.func144.trans (congrArg some (by kernel_rfl))
 t3 := Tryz.underlying3
 a3 := Tryz.isAgg3
 z3 := Tryz.sizeOf3
 v3 := Tryz.zeroValue3
 t5 := Tryz.underlying5
 a5 := Tryz.isAgg5
 z5 := Tryz.sizeOf5
 v5 := Tryz.zeroValue5
 t9 := Tryz.underlying9
 a9 := Tryz.isAgg9
 z9 := Tryz.sizeOf9
 v9 := Tryz.zeroValue9 }
open Go.RowKit in
theorem Tryz.strings_IndexByte (s : ByteArray) (c : Int) (w : World) :
  Calls Tryz.prog 122 #[.string s, .int .u8 c] w fun e w' => e = .returned (.int .i64 (Lib.indexByte s.data.toList c.toNat.toUInt8)) ∧ w' = w := Any.strings_IndexByte Tryz.lays137 s c w
def Tryz.lays103_ren : Go.Shelf.Ren := ⟨fun | 103 => 135 | 210 => 146 | 206 => 77 | n => n, fun | 9 => 9 | 4 => 4 | 24 => 156 | 3 => 3 | n => n, fun | n => n⟩
theorem Tryz.lays103 : Go.Proofs.Lays.n103 Tryz.prog Tryz.lays103_ren := {
 mixed := by kernel_rfl
 f103 := Tryz.func135.trans (congrArg some (by kernel_rfl))
 f206 := Tryz.func77.trans (congrArg some (by kernel_rfl))
 f210 := Tryz.func146.trans (congrArg some (by kernel_rfl))
 t3 := Tryz.underlying3
 a3 := Tryz.isAgg3
 z3 := Tryz.sizeOf3
 v3 := Tryz.zeroValue3
 t4 := Tryz.underlying4
 a4 := Tryz.isAgg4
 z4 := Tryz.sizeOf4
 v4 := Tryz.zeroValue4
 t9 := Tryz.underlying9
 a9 := Tryz.isAgg9
 z9 := Tryz.sizeOf9
 v9 := Tryz.zeroValue9
 t24 := Tryz.underlying156
 a24 := Tryz.isAgg156
 z24 := Tryz.sizeOf156
 v24 := Tryz.zeroValue156 }
open Go.RowKit in
theorem Tryz.strings_CutPrefix (s p : ByteArray) (w : World) :
  Calls Tryz.prog 135 #[.string s, .string p] w fun e w' => e = .returned (.tuple #[.string ⟨(Lib.trimPrefix s.data.toList p.data.toList).toArray⟩, .bool (Lib.hasPrefix s.data.toList p.data.toList)]) ∧ w' = w := Any.strings_CutPrefix Tryz.lays103 s p w
def Tryz.laysM171_ren : Go.Shelf.Ren := ⟨fun | 171 => 126 | 243 => 141 | 246 => 147 | 283 => 149 | 284 => 150 | 285 => 151 | 286 => 152 | 129 => 154 | 317 => 153 | 318 => 155 | 319 => 156 | 320 => 157 | 337 => 158 | 338 => 159 | n => n, fun | 3 => 3 | 9 => 9 | 2 => 2 | 4 => 4 | 171 => 180 | 0 => 0 | 53 => 135 | 37 => 85 | 5 => 5 | 173 => 183 | 212 => 186 | 51 => 149 | 20 => 20 | 213 => 187 | 46 => 127 | 232 => 190 | 233 => 191 | n => n, fun | 17 => 5 | 18 => 6 | 19 => 7 | n => n⟩
theorem Tryz.laysM171 : Go.Proofs.LaysM.n171 Tryz.prog Tryz.laysM171_ren := {
 mixed := by kernel_rfl
 f129 := Tryz.func154.trans (congrArg some (by kernel_rfl))
 f171 := Tryz.func126.trans (congrArg some (by kernel_rfl))
 f243 := Tryz.func141.trans (congrArg some (by kernel_rfl))
 f246 := Tryz.func147.trans (congrArg some (by kernel_rfl))
 f283 := Tryz.func149.trans (congrArg some (by kernel_rfl))
 f284 := Tryz.func150.trans (congrArg some (by kernel_rfl))
 f285 := Tryz.func151.trans (congrArg some (by kernel_rfl))
 f286 := Tryz.func152.trans (congrArg some (by kernel_rfl))
 f317 := Tryz.func153.trans (congrArg some (by kernel_rfl))
 f318 := Tryz.func155.trans (congrArg some (by kernel_rfl))
 f319 := Tryz.func156.trans (congrArg some (by kernel_rfl))
 f320 := Tryz.func157.trans (congrArg some (by kernel_rfl))
 f337 := Tryz.func158.trans (congrArg some (by kernel_rfl))
 f338 := Tryz.func159.trans (congrArg some (by kernel_rfl))
 t0 := Tryz.underlying0
 a0 := Tryz.isAgg0
 z0 := Tryz.sizeOf0
 v0 := Tryz.zeroValue0
 t2 := Tryz.underlying2
 a2 := Tryz.isAgg2
 z2 := Tryz.sizeOf2
 v2 := Tryz.zeroValue2
 t3 := Tryz.underlying3
 a3 := Tryz.isAgg3
 z3 := Tryz.sizeOf3
 v3 := Tryz.zeroValue3
 t4 := Tryz.underlying4
 a4 := Tryz.isAgg4
 z4 := Tryz.sizeOf4
 v4 := Tryz.zeroValue4
 t5 := Tryz.underlying5
 a5 := Tryz.isAgg5
 z5 := Tryz.sizeOf5
 v5 := Tryz.zeroValue5
 t9 := Tryz.underlying9
 a9 := Tryz.isAgg9
 z9 := Tryz.sizeOf9
 v9 := Tryz.zeroValue9
 t20 := Tryz.underlying20
 a20 := Tryz.isAgg20
 z20 := Tryz.sizeOf20
 v20 := Tryz.zeroValue20
 t37 := Tryz.underlying85
 a37 := Tryz.isAgg85
 z37 := Tryz.sizeOf85
 v37 := Tryz.zeroValue85
 t46 := Tryz.underlying127
 a46 := Tryz.isAgg127
 z46 := Tryz.sizeOf127
 v46 := Tryz.zeroValue127
 t51 := Tryz.underlying149
 a51 := Tryz.isAgg149
 z51 := Tryz.sizeOf149
 v51 := Tryz.zeroValue149
 t53 := Tryz.underlying135
 a53 := Tryz.isAgg135
 z53 := Tryz.sizeOf135
 v53 := Tryz.zeroValue135
 t171 := Tryz.underlying180
 a171 := Tryz.isAgg180
 z171 := Tryz.sizeOf180
 v171 := Tryz.zeroValue180
 t173 := Tryz.underlying183
 a173 := Tryz.isAgg183
 z173 := Tryz.sizeOf183
 v173 := Tryz.zeroValue183
 t212 := Tryz.underlying186
 a212 := Tryz.isAgg186
 z212 := Tryz.sizeOf186
 v212 := Tryz.zeroValue186
 t213 := Tryz.underlying187
 a213 := Tryz.isAgg187
 z213 := Tryz.sizeOf187
 t232 := Tryz.underlying190
 a232 := Tryz.isAgg190
 z232 := Tryz.sizeOf190
 v232 := Tryz.zeroValue190
 t233 := Tryz.underlying191
 a233 := Tryz.isAgg191
 z233 := Tryz.sizeOf191
 v233 := Tryz.zeroValue191
 g17 := by kernel_rfl
 g18 := by kernel_rfl
 g19 := by kernel_rfl
 i0 := by kernel_rfl
 i2 := by kernel_rfl
 i3 := by kernel_rfl
 i4 := by kernel_rfl
 i5 := by kernel_rfl
 i9 := by kernel_rfl
 i20 := by kernel_rfl
 i37 := by kernel_rfl
 i46 := by kernel_rfl
 i51 := by kernel_rfl
 i53 := by kernel_rfl
 i171 := by kernel_rfl
 i173 := by kernel_rfl
 i212 := by kernel_rfl
 i232 := by kernel_rfl
 i233 := by kernel_rfl
 m17 := by kernel_rfl
 m18 := by kernel_rfl
 m19 := by kernel_rfl }
open Go.RowKit Go.Sort Go.Lib in
theorem Tryz.strconv_Itoa (n : Int) (h0 : -9223372036854775808 ≤ n) (h1 : n ≤ 9223372036854775807) (w : World) (htab : Lib.TabIs Tryz.prog w "internal/strconv.uint64pow10" .u64 Lib.pow10Tab) :
  Calls Tryz.prog 126 #[.int .i64 n] w fun e w' => e = .returned (.string ⟨(Lib.itoa n).toArray⟩) ∧ ∃ k os, w' = grow (w.drewN k) os := Any.strconv_Itoa Tryz.laysM171 n h0 h1 w htab
def Tryz.lays144_ren : Go.Shelf.Ren := ⟨fun | 144 => 81 | 143 => 105 | 219 => 119 | 217 => 131 | 225 => 132 | 224 => 133 | 267 => 134 | 266 => 144 | 314 => 145 | n => n, fun | 9 => 9 | 4 => 4 | 3 => 3 | 5 => 5 | 46 => 127 | 146 => 173 | 51 => 149 | n => n, fun | 1 => 4 | n => n⟩
theorem Tryz.lays144 : Go.Proofs.Lays.n144 Tryz.prog Tryz.lays144_ren := {
 mixed := by kernel_rfl
 f143 := Tryz.func105.trans (congrArg some (by kernel_rfl))
 f144 := Tryz.func81.trans (congrArg some (by kernel_rfl))
 f217 := Tryz.func131.trans (congrArg some (by kernel_rfl))
 f219 := Tryz.func119.trans (congrArg some (by kernel_rfl))
 f224 := Tryz.func133.trans (congrArg some (by kernel_rfl))
 f225 := Tryz.func132.trans (congrArg some (by kernel_rfl))
 f266 := Tryz.func144.trans (congrArg some (by kernel_rfl))
 f267 := Tryz.func134.trans (congrArg some (by kernel_rfl))
 f314 := Tryz.func145.trans (congrArg some (by kernel_rfl))
 t3 := Tryz.underlying3
 a3 := Tryz.isAgg3
 z3 := Tryz.sizeOf3
 v3 := Tryz.zeroValue3
 t4 := Tryz.underlying4
 a4 := Tryz.isAgg4
 z4 := Tryz.sizeOf4
 v4 := Tryz.zeroValue4
 t5 := Tryz.underlying5
 a5 := Tryz.isAgg5
 z5 := Tryz.sizeOf5
 v5 := Tryz.zeroValue5
 t9 := Tryz.underlying9
 a9 := Tryz.isAgg9
 z9 := Tryz.sizeOf9
 v9 := Tryz.zeroValue9
 t46 := Tryz.underlying127
 a46 := Tryz.isAgg127
 z46 := Tryz.sizeOf127
 v46 := Tryz.zeroValue127
 t51 := Tryz.underlying149
 a51 := Tryz.isAgg149
 z51 := Tryz.sizeOf149
 v51 := Tryz.zeroValue149
 t146 := Tryz.underlying173
 a146 := Tryz.isAgg173
 z146 := Tryz.sizeOf173
 v146 := Tryz.zeroValue173
 g1 := by kernel_rfl }
open Go.RowKit Go.Lib in
theorem Tryz.strings_Contains (s sub : ByteArray) (m : Int) (w : World) (hs : s.size < 4294967281) (hm : w.cell? ⟨4, 0, none⟩ = some (.int .i64 m)) :
  Calls Tryz.prog 81 #[.string s, .string sub] w fun e w' => e = .returned (.bool (Lib.contains s.data.toList sub.data.toList)) ∧ w' = w := Any.strings_Contains Tryz.lays144 s sub m w hs hm
def Tryz.laysM144_ren : Go.Shelf.Ren := ⟨fun | 144 => 81 | 143 => 105 | 219 => 119 | 217 => 131 | 225 => 132 | 224 => 133 | 267 => 134 | 266 => 144 | 314 => 145 | n => n, fun | 9 => 9 | 4 => 4 | 3 => 3 | 5 => 5 | 46 => 127 | 146 => 173 | 51 => 149 | n => n, fun | 1 => 4 | n => n⟩
theorem Tryz.laysM144 : Go.Proofs.LaysM.n144 Tryz.prog Tryz.laysM144_ren := {
 mixed := by kernel_rfl
 f143 := Tryz.func105.trans (congrArg some (by kernel_rfl))
 f144 := Tryz.func81.trans (congrArg some (by kernel_rfl))
 f217 := Tryz.func131.trans (congrArg some (by kernel_rfl))
 f219 := Tryz.func119.trans (congrArg some (by kernel_rfl))
 f224 := Tryz.func133.trans (congrArg some (by kernel_rfl))
 f225 := Tryz.func132.trans (congrArg some (by kernel_rfl))
 f266 := Tryz.func144.trans (congrArg some (by kernel_rfl))
 f267 := Tryz.func134.trans (congrArg some (by kernel_rfl))
 f314 := Tryz.func145.trans (congrArg some (by kernel_rfl))
 t3 := Tryz.underlying3
 a3 := Tryz.isAgg3
 z3 := Tryz.sizeOf3
 v3 := Tryz.zeroValue3
 t4 := Tryz.underlying4
 a4 := Tryz.isAgg4
 z4 := Tryz.sizeOf4
 v4 := Tryz.zeroValue4
 t5 := Tryz.underlying5
 a5 := Tryz.isAgg5
 z5 := Tryz.sizeOf5
 v5 := Tryz.zeroValue5
 t9 := Tryz.underlying9
 a9 := Tryz.isAgg9
 z9 := Tryz.sizeOf9
 v9 := Tryz.zeroValue9
 t46 := Tryz.underlying127
 a46 := Tryz.isAgg127
 z46 := Tryz.sizeOf127
 v46 := Tryz.zeroValue127
 t51 := Tryz.underlying149
 a51 := Tryz.isAgg149
 z51 := Tryz.sizeOf149
 v51 := Tryz.zeroValue149
 t146 := Tryz.underlying173
 a146 := Tryz.isAgg173
 z146 := Tryz.sizeOf173
 v146 := Tryz.zeroValue173
 g1 := by kernel_rfl
 i3 := by kernel_rfl
 i4 := by kernel_rfl
 i5 := by kernel_rfl
 i9 := by kernel_rfl
 i46 := by kernel_rfl
 i51 := by kernel_rfl
 i146 := by kernel_rfl
 m1 := by kernel_rfl
 s1_3 := fun w h => Go.Proofs.cell_of_shapedOpen_int (zero := #[.int .i64 0]) (t := 3) h (of_decide_eq_true (by kernel_rfl)) (by kernel_rfl) rfl (by kernel_rfl) (by kernel_rfl) Tryz.underlying3 }
def Tryz.lays99_ren : Go.Shelf.Ren := ⟨fun | 99 => 50 | 206 => 77 | n => n, fun | 9 => 9 | 4 => 4 | 3 => 3 | n => n, fun | n => n⟩
theorem Tryz.lays99 : Go.Proofs.Lays.n99 Tryz.prog Tryz.lays99_ren := {
 mixed := by kernel_rfl
 f99 := Tryz.func50.trans (congrArg some (by kernel_rfl))
 f206 := Tryz.func77.trans (congrArg some (by kernel_rfl))
 t3 := Tryz.underlying3
 a3 := Tryz.isAgg3
 z3 := Tryz.sizeOf3
 v3 := Tryz.zeroValue3
 t4 := Tryz.underlying4
 a4 := Tryz.isAgg4
 z4 := Tryz.sizeOf4
 v4 := Tryz.zeroValue4
 t9 := Tryz.underlying9
 a9 := Tryz.isAgg9
 z9 := Tryz.sizeOf9
 v9 := Tryz.zeroValue9 }
open Go.RowKit Go.Lib in
theorem Tryz.strings_HasPrefix (s p : ByteArray) (w : World) :
  Calls Tryz.prog 50 #[.string s, .string p] w fun e w' => e = .returned (.bool (Lib.hasPrefix s.data.toList p.data.toList)) ∧ w' = w := Any.strings_HasPrefix Tryz.lays99 s p w
def Tryz.lays157_ren : Go.Shelf.Ren := ⟨fun | 157 => 87 | 229 => 112 | 199 => 113 | 261 => 124 | 311 => 139 | 312 => 140 | n => n, fun | 9 => 9 | 31 => 112 | 3 => 3 | 5 => 5 | 4 => 4 | 119 => 126 | 0 => 0 | 40 => 93 | 152 => 146 | 21 => 21 | 154 => 148 | 51 => 149 | 141 => 151 | 196 => 165 | 193 => 162 | 198 => 168 | 49 => 166 | 194 => 163 | 201 => 171 | 226 => 176 | 46 => 127 | 227 => 177 | n => n, fun | 0 => 2 | 6 => 3 | n => n⟩
theorem Tryz.lays157 : Go.Proofs.Lays.n157 Tryz.prog Tryz.lays157_ren := {
 mixed := by kernel_rfl
 f157 := Tryz.func87.trans (congrArg some (by kernel_rfl))
 f199 := Tryz.func113.trans (congrArg some (by kernel_rfl))
 f229 := Tryz.func112.trans (congrArg some (by kernel_rfl))
 f261 := Tryz.func124.trans (congrArg some (by kernel_rfl))
 f311 := Tryz.func139.trans (congrArg some (by kernel_rfl))
 f312 := Tryz.func140.trans (congrArg some (by kernel_rfl))
 t0 := Tryz.underlying0
 a0 := Tryz.isAgg0
 z0 := Tryz.sizeOf0
 v0 := Tryz.zeroValue0
 t3 := Tryz.underlying3
 a3 := Tryz.isAgg3
 z3 := Tryz.sizeOf3
 v3 := Tryz.zeroValue3
 t4 := Tryz.underlying4
 a4 := Tryz.isAgg4
 z4 := Tryz.sizeOf4
 v4 := Tryz.zeroValue4
 t5 := Tryz.underlying5
 a5 := Tryz.isAgg5
 z5 := Tryz.sizeOf5
 v5 := Tryz.zeroValue5
 t9 := Tryz.underlying9
 a9 := Tryz.isAgg9
 z9 := Tryz.sizeOf9
 v9 := Tryz.zeroValue9
 t21 := Tryz.underlying21
 a21 := Tryz.isAgg21
 z21 := Tryz.sizeOf21
 v21 := Tryz.zeroValue21
 t31 := Tryz.underlying112
 a31 := Tryz.isAgg112
 z31 := Tryz.sizeOf112
 v31 := Tryz.zeroValue112
 t40 := Tryz.underlying93
 a40 := Tryz.isAgg93
 z40 := Tryz.sizeOf93
 v40 := Tryz.zeroValue93
 t46 := Tryz.underlying127
 a46 := Tryz.isAgg127
 z46 := Tryz.sizeOf127
 v46 := Tryz.zeroValue127
 t49 := Tryz.underlying166
 a49 := Tryz.isAgg166
 z49 := Tryz.sizeOf166
 v49 := Tryz.zeroValue166
 t51 := Tryz.underlying149
 a51 := Tryz.isAgg149
 z51 := Tryz.sizeOf149
 v51 := Tryz.zeroValue149
 t119 := Tryz.underlying126
 a119 := Tryz.isAgg126
 z119 := Tryz.sizeOf126
 t141 := Tryz.underlying151
 a141 := Tryz.isAgg151
 z141 := Tryz.sizeOf151
 v141 := Tryz.zeroValue151
 t152 := Tryz.underlying146
 a152 := Tryz.isAgg146
 z152 := Tryz.sizeOf146
 v152 := Tryz.zeroValue146
 t154 := Tryz.underlying148
 a154 := Tryz.isAgg148
 z154 := Tryz.sizeOf148
 v154 := Tryz.zeroValue148
 t193 := Tryz.underlying162
 a193 := Tryz.isAgg162
 z193 := Tryz.sizeOf162
 v193 := Tryz.zeroValue162
 t194 := Tryz.underlying163
 a194 := Tryz.isAgg163
 z194 := Tryz.sizeOf163
 v194 := Tryz.zeroValue163
 t196 := Tryz.underlying165
 a196 := Tryz.isAgg165
 z196 := Tryz.sizeOf165
 v196 := Tryz.zeroValue165
 t198 := Tryz.underlying168
 a198 := Tryz.isAgg168
 z198 := Tryz.sizeOf168
 v198 := Tryz.zeroValue168
 t201 := Tryz.underlying171
 a201 := Tryz.isAgg171
 z201 := Tryz.sizeOf171
 v201 := Tryz.zeroValue171
 t226 := Tryz.underlying176
 a226 := Tryz.isAgg176
 z226 := Tryz.sizeOf176
 v226 := Tryz.zeroValue176
 t227 := Tryz.underlying177
 a227 := Tryz.isAgg177
 z227 := Tryz.sizeOf177
 v227 := Tryz.zeroValue177
 g0 := by kernel_rfl
 g6 := by kernel_rfl }
open Go.RowKit Go.Lib in
theorem Tryz.strings_Fields (s : ByteArray) (w : World) (hs : s.size < 4294967281) (hascii : ∀ (j : Nat) b, s.data.toList[j]? = some b → b.toNat < 128) (htab : Lib.TabIs Tryz.prog w "strings.asciiSpace" .u8 Lib.asciiSpaceTab) :
  Calls Tryz.prog 87 #[.string s] w fun e w' =>
   e = .returned (.slice (some ⟨w.heap.size, 0, none⟩) (Lib.fields s.data.toList).length (Lib.fields s.data.toList).length) ∧ w' = w.alloc (.cells ((Lib.fields s.data.toList).map fun l => Value.string ⟨l.toArray⟩).toArray 9) := Any.strings_Fields Tryz.lays157 (by kernel_rfl) (by kernel_rfl) s w hs hascii htab
def Tryz.lays197_ren : Go.Shelf.Ren := ⟨fun | 197 => 49 | 260 => 76 | n => n, fun | 9 => 9 | 21 => 21 | 3 => 3 | 4 => 4 | 5 => 5 | 105 => 94 | 119 => 126 | 0 => 0 | 46 => 127 | 139 => 130 | 138 => 129 | n => n, fun | 3 => 0 | 4 => 1 | n => n⟩
theorem Tryz.lays197 : Go.Proofs.Lays.n197 Tryz.prog Tryz.lays197_ren := {
 mixed := by kernel_rfl
 f197 := Tryz.func49.trans (congrArg some (by kernel_rfl))
 f260 := Tryz.func76.trans (congrArg some (by kernel_rfl))
 t0 := Tryz.underlying0
 a0 := Tryz.isAgg0
 z0 := Tryz.sizeOf0
 v0 := Tryz.zeroValue0
 t3 := Tryz.underlying3
 a3 := Tryz.isAgg3
 z3 := Tryz.sizeOf3
 v3 := Tryz.zeroValue3
 t4 := Tryz.underlying4
 a4 := Tryz.isAgg4
 z4 := Tryz.sizeOf4
 v4 := Tryz.zeroValue4
 t5 := Tryz.underlying5
 a5 := Tryz.isAgg5
 z5 := Tryz.sizeOf5
 v5 := Tryz.zeroValue5
 t9 := Tryz.underlying9
 a9 := Tryz.isAgg9
 z9 := Tryz.sizeOf9
 v9 := Tryz.zeroValue9
 t21 := Tryz.underlying21
 a21 := Tryz.isAgg21
 z21 := Tryz.sizeOf21
 v21 := Tryz.zeroValue21
 t46 := Tryz.underlying127
 a46 := Tryz.isAgg127
 z46 := Tryz.sizeOf127
 v46 := Tryz.zeroValue127
 t105 := Tryz.underlying94
 a105 := Tryz.isAgg94
 z105 := Tryz.sizeOf94
 v105 := Tryz.zeroValue94
 t119 := Tryz.underlying126
 a119 := Tryz.isAgg126
 z119 := Tryz.sizeOf126
 t138 := Tryz.underlying129
 a138 := Tryz.isAgg129
 z138 := Tryz.sizeOf129
 v138 := Tryz.zeroValue129
 t139 := Tryz.underlying130
 a139 := Tryz.isAgg130
 z139 := Tryz.sizeOf130
 v139 := Tryz.zeroValue130
 g3 := by kernel_rfl
 g4 := by kernel_rfl }
def Tryz.lays264_ren : Go.Shelf.Ren := ⟨fun | 264 => 137 | n => n, fun | 53 => 135 | 46 => 127 | n => n, fun | n => n⟩
theorem Tryz.lays264 : Go.Proofs.Lays.n264 Tryz.prog Tryz.lays264_ren := {
 mixed := by kernel_rfl
 f264 := Tryz.func137.trans (congrArg some (by kernel_rfl))
 t46 := Tryz.underlying127
 a46 := Tryz.isAgg127
 z46 := Tryz.sizeOf127
 v46 := Tryz.zeroValue127
 t53 := Tryz.underlying135
 a53 := Tryz.isAgg135
 z53 := Tryz.sizeOf135
 v53 := Tryz.zeroValue135 }
open Go.RowKit Go.Lib in
theorem Tryz.bits_Mul64 (x y : Nat) (hx : x < 18446744073709551616) (hy : y < 18446744073709551616) (w : World) :
  Calls Tryz.prog 137 #[.int .u64 x, .int .u64 y] w fun e w' => e = .returned (.tuple #[.int .u64 ((x * y / 18446744073709551616 : Nat) : Int), .int .u64 ((x * y % 18446744073709551616 : Nat) : Int)]) ∧ w' = w := Any.bits_Mul64 Tryz.lays264 x y hx hy w
def Tryz.lays105_ren : Go.Shelf.Ren := ⟨fun | 105 => 118 | 212 => 129 | 99 => 50 | 165 => 130 | 166 => 98 | 170 => 84 | 169 => 46 | 263 => 142 | 264 => 137 | 206 => 77 | 240 => 111 | 241 => 143 | 276 => 123 | 277 => 148 | n => n, fun | 9 => 9 | 3 => 3 | 4 => 4 | 20 => 20 | 0 => 0 | 46 => 127 | 109 => 154 | 5 => 5 | 72 => 87 | 76 => 122 | 51 => 149 | 146 => 173 | 53 => 135 | 148 => 159 | 70 => 84 | 37 => 85 | 75 => 110 | 127 => 106 | 164 => 144 | 80 => 91 | n => n, fun | n => n⟩
theorem Tryz.lays105 : Go.Proofs.Lays.n105 Tryz.prog Tryz.lays105_ren := {
 mixed := by kernel_rfl
 f99 := Tryz.func50.trans (congrArg some (by kernel_rfl))
 f105 := Tryz.func118.trans (congrArg some (by kernel_rfl))
 f165 := Tryz.func130.trans (congrArg some (by kernel_rfl))
 f166 := Tryz.func98.trans (congrArg some (by kernel_rfl))
 f169 := Tryz.func46.trans (congrArg some (by kernel_rfl))
 f170 := Tryz.func84.trans (congrArg some (by kernel_rfl))
 f206 := Tryz.func77.trans (congrArg some (by kernel_rfl))
 f212 := Tryz.func129.trans (congrArg some (by kernel_rfl))
 f240 := Tryz.func111.trans (congrArg some (by kernel_rfl))
 f241 := Tryz.func143.trans (congrArg some (by kernel_rfl))
 f263 := Tryz.func142.trans (congrArg some (by kernel_rfl))
 f264 := Tryz.func137.trans (congrArg some (by kernel_rfl))
 f276 := Tryz.func123.trans (congrArg some (by kernel_rfl))
 f277 := Tryz.func148.trans (congrArg some (by kernel_rfl))
 t0 := Tryz.underlying0
 a0 := Tryz.isAgg0
 z0 := Tryz.sizeOf0
 v0 := Tryz.zeroValue0
 t3 := Tryz.underlying3
 a3 := Tryz.isAgg3
 z3 := Tryz.sizeOf3
 v3 := Tryz.zeroValue3
 t4 := Tryz.underlying4
 a4 := Tryz.isAgg4
 z4 := Tryz.sizeOf4
 v4 := Tryz.zeroValue4
 t5 := Tryz.underlying5
 a5 := Tryz.isAgg5
 z5 := Tryz.sizeOf5
 v5 := Tryz.zeroValue5
 t9 := Tryz.underlying9
 a9 := Tryz.isAgg9
 z9 := Tryz.sizeOf9
 v9 := Tryz.zeroValue9
 t20 := Tryz.underlying20
 a20 := Tryz.isAgg20
 z20 := Tryz.sizeOf20
 v20 := Tryz.zeroValue20
 t37 := Tryz.underlying85
 a37 := Tryz.isAgg85
 z37 := Tryz.sizeOf85
 v37 := Tryz.zeroValue85
 t46 := Tryz.underlying127
 a46 := Tryz.isAgg127
 z46 := Tryz.sizeOf127
 v46 := Tryz.zeroValue127
 t51 := Tryz.underlying149
 a51 := Tryz.isAgg149
 z51 := Tryz.sizeOf149
 v51 := Tryz.zeroValue149
 t53 := Tryz.underlying135
 a53 := Tryz.isAgg135
 z53 := Tryz.sizeOf135
 v53 := Tryz.zeroValue135
 t70 := Tryz.underlying84
 a70 := Tryz.isAgg84
 z70 := Tryz.sizeOf84
 v70 := Tryz.zeroValue84
 t72 := Tryz.underlying87
 a72 := Tryz.isAgg87
 z72 := Tryz.sizeOf87
 v72 := Tryz.zeroValue87
 t75 := Tryz.underlying110
 a75 := Tryz.isAgg110
 z75 := Tryz.sizeOf110
 v75 := Tryz.zeroValue110
 t76 := Tryz.underlying122
 a76 := Tryz.isAgg122
 z76 := Tryz.sizeOf122
 v76 := Tryz.zeroValue122
 t109 := Tryz.underlying154
 a109 := Tryz.isAgg154
 z109 := Tryz.sizeOf154
 v109 := Tryz.zeroValue154
 t127 := Tryz.underlying106
 a127 := Tryz.isAgg106
 z127 := Tryz.sizeOf106
 v127 := Tryz.zeroValue106
 t146 := Tryz.underlying173
 a146 := Tryz.isAgg173
 z146 := Tryz.sizeOf173
 v146 := Tryz.zeroValue173
 t148 := Tryz.underlying159
 a148 := Tryz.isAgg159
 z148 := Tryz.sizeOf159
 v148 := Tryz.zeroValue159
 t164 := Tryz.underlying144
 a164 := Tryz.isAgg144
 z164 := Tryz.sizeOf144
 v164 := Tryz.zeroValue144 }
theorem Tryz.Builder_Extra_105 : Builder.Extra Tryz.prog Tryz.lays105_ren := {
 sizeBuilder := by kernel_rfl
 liesBuilder := by kernel_rfl
 t5 := Tryz.underlying5
 a5 := Tryz.isAgg5
 z5 := Tryz.sizeOf5
 v5 := Tryz.zeroValue5
 infoByte := by kernel_rfl
 cellsByte := by kernel_rfl
 sizeByte := by kernel_rfl
 neB5 := by decide }
open Go.RowKit Go.Lib in
theorem Tryz.strings_Repeat (s : ByteArray) (c : Nat) (w : World) (hc : c ≤ 9223372036854775807) (hlen : s.size * c ≤ 140737488355328) :
  Calls Tryz.prog 118 #[.string s, .int .i64 c] w fun e w' => e = .returned (.string ⟨(Lib.repeatL s.data.toList c).toArray⟩) ∧ Below w.heap.size w w' := Any.strings_Repeat Tryz.lays105 Tryz.Builder_Extra_105 s c w hc hlen
def Tryz.lays260_ren : Go.Shelf.Ren := ⟨fun | 260 => 76 | n => n, fun | 9 => 9 | 21 => 21 | 3 => 3 | 4 => 4 | 5 => 5 | 119 => 126 | 0 => 0 | 46 => 127 | 139 => 130 | 138 => 129 | n => n, fun | 3 => 0 | 4 => 1 | n => n⟩
theorem Tryz.lays260 : Go.Proofs.Lays.n260 Tryz.prog Tryz.lays260_ren := {
 mixed := by kernel_rfl
 f260 := Tryz.func76.trans (congrArg some (by kernel_rfl))
 t0 := Tryz.underlying0
 a0 := Tryz.isAgg0
 z0 := Tryz.sizeOf0
 v0 := Tryz.zeroValue0
 t3 := Tryz.underlying3
 a3 := Tryz.isAgg3
 z3 := Tryz.sizeOf3
 v3 := Tryz.zeroValue3
 t4 := Tryz.underlying4
 a4 := Tryz.isAgg4
 z4 := Tryz.sizeOf4
 v4 := Tryz.zeroValue4
 t5 := Tryz.underlying5
 a5 := Tryz.isAgg5
 z5 := Tryz.sizeOf5
 v5 := Tryz.zeroValue5
 t9 := Tryz.underlying9
 a9 := Tryz.isAgg9
 z9 := Tryz.sizeOf9
 v9 := Tryz.zeroValue9
 t21 := Tryz.underlying21
 a21 := Tryz.isAgg21
 z21 := Tryz.sizeOf21
 v21 := Tryz.zeroValue21
 t46 := Tryz.underlying127
 a46 := Tryz.isAgg127
 z46 := Tryz.sizeOf127
 v46 := Tryz.zeroValue127
 t119 := Tryz.underlying126
 a119 := Tryz.isAgg126
 z119 := Tryz.sizeOf126
 t138 := Tryz.underlying129
 a138 := Tryz.isAgg129
 z138 := Tryz.sizeOf129
 v138 := Tryz.zeroValue129
 t139 := Tryz.underlying130
 a139 := Tryz.isAgg130
 z139 := Tryz.sizeOf130
 v139 := Tryz.zeroValue130
 g3 := by kernel_rfl
 g4 := by kernel_rfl }
open Go.RowKit Go.Lib in
theorem Tryz.utf8_DecodeRuneInString (s : ByteArray) (w : World) (hT : Lib.Utf8Tabs 0 1 w) :
  Calls Tryz.prog 49 #[.string s] w fun e w' => e = .returned (.tuple #[.int .i32 (Lib.decodeGo s).1, .int .i64 (Lib.decodeGo s).2]) ∧ Below w.heap.size w w' := Any.utf8_DecodeRuneInString Tryz.lays197 s w hT
end Go.Proofs
namespace Go.Proofs.YtidiahkobapnjaaGreatDoor
open Go Go.RowKit Lx
theorem vr_eq (r : Int) : Lib.validRune r = Utf8.valid r := by
 simp only [Lib.validRune, Utf8.valid]
 by_cases h : (0 ≤ r ∧ r < 55296) ∨ (57343 < r ∧ r ≤ 1114111)
 ·rw [decide_eq_true h]; rcases h with h | h <;> simp <;> omega
 ·rw [decide_eq_false h]; simp; omega
theorem valid_any (r : Int) (w : World) : Calls Tryz.prog 104 #[.int .i32 r] w fun e w' => e = .returned (.bool (Utf8.valid r)) ∧ w = w' :=
 (Tryz.utf8_ValidRune r w).mono fun _ _ ⟨h1, h2⟩ => ⟨by rw [h1, vr_eq], h2.symm⟩
theorem digit_any (r : Int) (w : World) : Calls Tryz.prog 82 #[.int .i64 r] w fun e w' => e = .returned (.bool (decide (48 ≤ r ∧ r ≤ 57))) ∧ w = w' := by
 by_cases h1 : 48 ≤ r
 ·go_enter Tryz.func82, Tryz.ntmps82
  go_wp2
  go_ret
  exact ⟨by simp [h1], rfl⟩
 ·go_enter Tryz.func82, Tryz.ntmps82
  go_wp2
  go_ret
  exact ⟨by simp; omega, rfl⟩
def letterZ (r : Int) : Bool := decide (97 ≤ r ∧ r ≤ 122 ∨ 65 ≤ r ∧ r ≤ 90 ∨ r = 95 ∨ (128 ≤ r ∧ r ≤ 1114111 ∧ r ≠ 65533 ∧ Utf8.valid r = true))
theorem ret_bool {a b : Bool} (h : a = b) : Ending.returned (.bool a) = .returned (.bool b) := by rw [h]
set_option maxHeartbeats 1000000 in
theorem letter_any (r : Int) (w : World) (h0 : 0 ≤ r) (h1 : r ≤ 2147483647) : Calls Tryz.prog 78 #[.int .i64 r] w fun e w' => e = .returned (.bool (letterZ r)) ∧ w = w' := by
  have hw : IntKind.i32.wrap r = r := by unfold IntKind.wrap; simp [IntKind.bits, IntKind.signed]; omega
  obtain ⟨lz, hlz⟩ : ∃ x, letterZ r = x := ⟨_, rfl⟩
  rw [hlz]
  have HL := Lib.hid hlz
  clear hlz
  obtain ⟨v, hv⟩ : ∃ v, Utf8.valid r = v := ⟨_, rfl⟩
  have hva := valid_any r
  rw [hv] at hva
  have HV := Lib.hid hv
  have HVA := Lib.hid hva
  clear hv hva
  have HW := Lib.hid hw
  go_enter Tryz.func78, Tryz.ntmps78
  go_wp2_with ((go_at_call 104; refine (HVA.out _).mono ?_; rintro e w' ⟨rfl, rfl⟩))
  all_goals go_ret
  all_goals refine ⟨ret_bool ?_, rfl⟩
  all_goals have hl := HL.out
  all_goals have hv := HV.out
  all_goals clear HL HV HVA HW hw
  all_goals subst hl
  all_goals unfold letterZ
  all_goals simp only [hv]
  all_goals try simp only [beq_iff_eq, beq_eq_false_iff_ne, ne_eq] at *
  all_goals first
    | exact (decide_eq_true (by omega)).symm
    | exact (decide_eq_false (by omega)).symm
    | (cases v
       · rw [Bool.and_false]; exact (decide_eq_false (by simp; omega)).symm
       · rw [Bool.and_true]; by_cases h : r = 65533
         · subst h; rfl
         · rw [show (r != 65533) = true from bne_iff_ne.2 h]; exact (decide_eq_true (by simp; omega)).symm)
theorem letterZ_eq (r : Nat) : letterZ r = letterR r := by
 unfold letterZ letterR
 generalize Utf8.valid (r : Int) = v
 rw [Bool.eq_iff_iff]
 simp only [decide_eq_true_eq, Bool.or_eq_true, Bool.and_eq_true, beq_iff_eq, bne_iff_ne]
 constructor
 ·rintro (h | h | h | ⟨h1, h2, h3, h4⟩)
  ·exact .inl (.inl (.inl ⟨by omega, by omega⟩))
  ·exact .inl (.inl (.inr ⟨by omega, by omega⟩))
  ·exact .inl (.inr (by omega))
  ·exact .inr ⟨⟨⟨by omega, by omega⟩, by omega⟩, h4⟩
 ·rintro (((⟨h1, h2⟩ | ⟨h1, h2⟩) | h) | ⟨⟨⟨h1, h2⟩, h3⟩, h4⟩)
  ·exact .inl ⟨by omega, by omega⟩
  ·exact .inr (.inl ⟨by omega, by omega⟩)
  ·exact .inr (.inr (.inl (by omega)))
  ·exact .inr (.inr (.inr ⟨by omega, by omega, by omega, h4⟩))
theorem digitZ_eq (r : Nat) : decide (48 ≤ (r : Int) ∧ (r : Int) ≤ 57) = digitR r := by
 unfold digitR
 rw [Bool.eq_iff_iff]
 simp only [decide_eq_true_eq, Bool.and_eq_true]
 omega
theorem sort_letter : IsSort 52 letterR := by
 refine ⟨fun args w => enters_of Tryz.func52 (by kernel_rfl) rfl args w, fun r w hr => ?_⟩
 have hc := letter_any r
 rw [letterZ_eq] at hc
 have HC := Lib.hid hc
 clear hc
 have h1 : (0 : Int) ≤ r := by omega
 have h2 : (r : Int) ≤ 2147483647 := by omega
 go_enter Tryz.func52, Tryz.ntmps52
 go_wp2_with ((go_at_call 78; refine (HC.out _ h1 h2).mono ?_; rintro e w' ⟨rfl, rfl⟩))
 go_ret
 exact ⟨rfl, rfl⟩
theorem sort_digit : IsSort 54 digitR := by
 refine ⟨fun args w => enters_of Tryz.func54 (by kernel_rfl) rfl args w, fun r w hr => ?_⟩
 have hc := digit_any r
 rw [digitZ_eq] at hc
 have HC := Lib.hid hc
 clear hc
 have h2 : (r : Int) ≤ 2147483647 := by omega
 go_enter Tryz.func54, Tryz.ntmps54
 go_wp2_with ((go_at_call 82; refine (HC.out _).mono ?_; rintro e w' ⟨rfl, rfl⟩))
 go_ret
 exact ⟨rfl, rfl⟩
theorem sort_part : IsSort 79 partR := by
 refine ⟨fun args w => enters_of Tryz.func79 (by kernel_rfl) rfl args w, fun r w hr => ?_⟩
 have H1 := Lib.hid (fun w => sort_letter.2 r w hr)
 have H2 := Lib.hid (fun w => sort_digit.2 r w hr)
 obtain ⟨pr, hpr⟩ : ∃ x, partR r = x := ⟨_, rfl⟩
 have HP := Lib.hid hpr
 rw [hpr]
 clear hpr
 generalize hl : letterR r = lr at *
 generalize hd : digitR r = dr at *
 have HL := Lib.hid hl
 have HD := Lib.hid hd
 clear hl hd
 cases lr
 ·go_enter Tryz.func79, Tryz.ntmps79
  go_wp2_with (first | ((go_at_call 52; refine (H1.out _).mono ?_; rintro e w' ⟨rfl, rfl⟩)) | ((go_at_call 54; refine (H2.out _).mono ?_; rintro e w' ⟨rfl, rfl⟩)))
  go_ret
  refine ⟨ret_bool ?_, rfl⟩
  rw [← HP.out, partR, HL.out, HD.out]; rfl
 ·go_enter Tryz.func79, Tryz.ntmps79
  go_wp2_with (first | ((go_at_call 52; refine (H1.out _).mono ?_; rintro e w' ⟨rfl, rfl⟩)) | ((go_at_call 54; refine (H2.out _).mono ?_; rintro e w' ⟨rfl, rfl⟩)))
  go_ret
  refine ⟨ret_bool ?_, rfl⟩
  rw [← HP.out, partR, HL.out]; rfl
theorem sort_blank : IsSort 48 blankR := by
 refine ⟨fun args w => enters_of Tryz.func48 (by kernel_rfl) rfl args w, fun r w hr => ?_⟩
 obtain ⟨pr, hpr⟩ : ∃ x, blankR r = x := ⟨_, rfl⟩
 have HP := Lib.hid hpr
 rw [hpr]
 clear hpr
 go_enter Tryz.func48, Tryz.ntmps48
 go_wp2
 all_goals go_ret
 all_goals refine ⟨ret_bool ?_, rfl⟩
 all_goals rw [← HP.out]; clear HP
 all_goals unfold blankR
 all_goals rw [Bool.eq_iff_iff]
 all_goals simp only [Bool.or_eq_true, beq_iff_eq, beq_eq_false_iff_ne, Bool.true_eq_false, Bool.false_eq_true, true_iff, false_iff, not_or] at *
 all_goals omega
theorem sort_inLine : IsSort 51 inLineR := by
 refine ⟨fun args w => enters_of Tryz.func51 (by kernel_rfl) rfl args w, fun r w hr => ?_⟩
 obtain ⟨pr, hpr⟩ : ∃ x, inLineR r = x := ⟨_, rfl⟩
 have HP := Lib.hid hpr
 rw [hpr]
 clear hpr
 go_enter Tryz.func51, Tryz.ntmps51
 go_wp2
 go_ret
 refine ⟨ret_bool ?_, rfl⟩
 rw [← HP.out]
 unfold inLineR
 rw [Bool.eq_iff_iff]
 simp only [bne_iff_ne]
 omega
end Go.Proofs.YtidiahkobapnjaaGreatDoor
namespace Go.Proofs.YtidiahkobapnjaaGreatDoor
open Go Go.RowKit Lx
theorem byte_beq (c k : UInt8) : (c = k) ↔ ((c.toNat : Int) == (k.toNat : Int)) = true := by
 rw [beq_iff_eq, Int.natCast_inj, UInt8.toNat_inj]
set_option maxHeartbeats 1000000 in
theorem plain_any (c : UInt8) (w : World) : Calls Tryz.prog 107 #[.int .u8 c.toNat] w fun e w' => e = .returned (.int .u8 (plainB c).toNat) ∧ w = w' := by
 obtain ⟨x, hx⟩ : ∃ x, (plainB c).toNat = x := ⟨_, rfl⟩
 have HX := Lib.hid hx
 rw [hx]
 clear hx
 go_enter Tryz.func107, Tryz.ntmps107
 go_wp2
 all_goals go_ret
 all_goals refine ⟨ret_int ?_, rfl⟩
 all_goals rw [← HX.out]; clear HX
 all_goals simp only [plainB, byte_beq]
 all_goals simp_all
theorem hexG_step (m : Nat) (b : UInt8) (t : Bs) (n k : Nat) : hexG (m + 1) (b :: t) n k = match hexD b with | none => (n, k) | some d => hexG m t (16 * n + d) (k + 1) := rfl
def hexTab : Bs := [48, 49, 50, 51, 52, 53, 54, 55, 56, 57, 97, 98, 99, 100, 101, 102]
def hexIx (b : UInt8) : Int := Lib.indexByte hexTab (Go.bits .or .u8 (b.toNat : Int) 32).toNat.toUInt8
def hexOk (b : UInt8) : Bool :=
 match hexD b with
 | none => decide (hexIx b < 0) || decide (b.toNat < 48)
 | some d => decide (hexIx b = d) && decide (48 ≤ b.toNat) && decide (d < 16)
theorem hexOk_all : ∀ n, n < 256 → hexOk (UInt8.ofNat n) = true := by decide +kernel
theorem hexOk_any (b : UInt8) : hexOk b = true := by
 have := hexOk_all b.toNat b.toNat_lt
 simpa using this
theorem hexD_none {b : UInt8} (h : hexD b = none) : hexIx b < 0 ∨ b.toNat < 48 := by
 have := hexOk_any b
 simpa [hexOk, h] using this
theorem hexD_some {b : UInt8} {d : Nat} (h : hexD b = some d) : hexIx b = d ∧ 48 ≤ b.toNat ∧ d < 16 := by
 have := hexOk_any b
 simpa [hexOk, h, and_assoc] using this
theorem pow16_le {k : Nat} (h : k ≤ 8) : 16 ^ k ≤ 4294967296 := by
 have := Nat.pow_le_pow_right (n := 16) (by omega) h
 omega
theorem ix_any (b : UInt8) (w : World) : Calls Tryz.prog 122 #[.string ⟨#[48, 49, 50, 51, 52, 53, 54, 55, 56, 57, 97, 98, 99, 100, 101, 102]⟩, .int .u8 (Go.bits .or .u8 (b.toNat : Int) 32)] w fun e w' => e = .returned (.int .i64 (hexIx b)) ∧ w = w' :=
 (Tryz.strings_IndexByte _ _ w).mono fun _ _ ⟨h1, h2⟩ => ⟨h1, h2.symm⟩
theorem drop_at (s : ByteArray) (k : Nat) (h : k < s.size) : (bs s).drop k = s[k] :: (bs s).drop (k + 1) := by
 rw [List.drop_eq_getElem_cons (by rw [bs_length]; exact h)]
 rfl
set_option maxHeartbeats 1000000 in
theorem hex_any (s : ByteArray) (most : Nat) (w : World) (hm : most ≤ 8) (hs : s.size ≤ 1000000) :
  Calls Tryz.prog 108 #[.string s, .int .i64 most] w fun e w' => e = .returned (.tuple #[.int .i64 (hexG most (bs s) 0 0).1, .int .i64 (hexG most (bs s) 0 0).2]) ∧ w = w' := by
 obtain ⟨R, hR⟩ : ∃ R, hexG most (bs s) 0 0 = R := ⟨_, rfl⟩
 rw [hR]
 have HR := Lib.hid hR
 clear hR
 go_enter Tryz.func108, Tryz.ntmps108
 go_wp2
 go_loop [6, 7, 8] (fun n k _ => ∃ N K : Nat, K ≤ most ∧ K ≤ s.size ∧ N < 16 ^ K ∧ n = .int .i64 N ∧ k = .int .i64 K ∧ Hid (hexG (most - K) ((bs s).drop K) N K = R)) (fun _ k _ => most - (intOf k).toNat)
 case atStart => exact ⟨0, 0, by omega, by omega, by simp, rfl, rfl, HR.out⟩
 case round =>
  obtain ⟨N, K, hK, hKs, hN, rfl, rfl, hG⟩ := hrel
  have hp := pow16_le (show K ≤ 8 by omega)
  have hN2 : N < 4294967296 := by omega
  have HN := Lib.hid hN
  clear hN hp
  by_cases hlt : K < most
  ·by_cases hls : K < s.size
   ·have hix := ix_any s[K]
    obtain ⟨D, hD⟩ : ∃ D, hexIx s[K] = D := ⟨_, rfl⟩
    rw [hD] at hix
    have HIX := Lib.hid hix
    have HD := Lib.hid hD
    clear hix hD
    go_wp2_with ((go_at_call 122; refine (HIX.out _).mono ?_; rintro e w' ⟨rfl, rfl⟩))
    ·go_ret2
     have hn : hexD s[K] = none := by
      cases h : hexD s[K] with
      | none => rfl
      | some d => have := hexD_some h; rw [HD.out] at this; omega
     have h := hG
     unfold Hid at h
     rw [show most - K = (most - K - 1) + 1 by omega, drop_at s K hls, hexG_step, hn] at h
     rw [← h]
     exact ⟨rfl, rfl⟩
    ·go_round
     case rel =>
      obtain ⟨d, hd⟩ : ∃ d, hexD s[K] = some d := by
       cases h : hexD s[K] with
       | none => have := hexD_none h; rw [HD.out] at this; omega
       | some d => exact ⟨d, rfl⟩
      have hs := hexD_some hd
      rw [HD.out] at hs
      obtain ⟨hDd, _, hd16⟩ := hs
      have hN16 := HN.out
      refine ⟨16 * N + d, K + 1, by omega, by omega, by rw [Nat.pow_succ]; omega, ?_, by go_num, ?_⟩
      ·rw [hDd]; congr 1; unfold wrap64; omega
      ·have h := hG
       unfold Hid at h ⊢
       rw [show most - K = (most - (K + 1)) + 1 by omega, drop_at s K hls, hexG_step, hd] at h
       exact h
     case measure => simp [intOf]; omega
    ·go_ret2
     have hn : hexD s[K] = none := by
      cases h : hexD s[K] with
      | none => rfl
      | some d => have := hexD_some h; rw [HD.out] at this; omega
     have h := hG
     unfold Hid at h
     rw [show most - K = (most - K - 1) + 1 by omega, drop_at s K hls, hexG_step, hn] at h
     rw [← h]
     exact ⟨rfl, rfl⟩
   ·go_wp2
    go_ret2
    have h := hG
    unfold Hid at h
    rw [show most - K = (most - K - 1) + 1 by omega, List.drop_of_length_le (by rw [bs_length]; omega)] at h
    rw [← h]
    exact ⟨rfl, rfl⟩
  ·go_wp2
   go_ret2
   have h := hG
   unfold Hid at h
   rw [show most - K = 0 by omega] at h
   rw [← h]
   exact ⟨rfl, rfl⟩
theorem hexG_le : ∀ (m : Nat) (l : Bs) (n k : Nat), n < 16 ^ k → (hexG m l n k).1 < 16 ^ (hexG m l n k).2 ∧ k ≤ (hexG m l n k).2 ∧ (hexG m l n k).2 ≤ k + m ∧ (hexG m l n k).2 ≤ k + l.length
 | 0, _, n, k, h => by simp only [hexG]; exact ⟨h, by omega, by omega, by omega⟩
 | m + 1, [], n, k, h => by simp only [hexG]; exact ⟨h, by omega, by omega, by simp⟩
 | m + 1, b :: t, n, k, h => by
  rw [hexG_step]
  cases hd : hexD b with
  | none => simp only []; exact ⟨h, by omega, by omega, by omega⟩
  | some d =>
   simp only []
   have h16 := (hexD_some hd).2.2
   have := hexG_le m t (16 * n + d) (k + 1) (by rw [Nat.pow_succ]; omega)
   simp only [List.length_cons]
   exact ⟨this.1, by omega, by omega, by omega⟩
set_option maxHeartbeats 1000000 in
theorem encode_any (n : Int) (w : World) (h0 : 0 ≤ n) (h1 : n ≤ 4294967296) :
  Calls Tryz.prog 110 #[.int .i64 n] w fun e w' => e = .returned (.tuple #[.string (if Utf8.valid n then Utf8.encode n else ⟨#[]⟩), .int .i64 (if Utf8.valid n then 0 else 3)]) ∧ w = w' := by
 obtain ⟨v, hv⟩ : ∃ v, Utf8.valid n = v := ⟨_, rfl⟩
 rw [hv]
 by_cases hbig : n ≤ 1114111
 ·have hw : IntKind.i32.wrap n = n := by unfold IntKind.wrap; simp [IntKind.bits, IntKind.signed]; omega
  have hva := valid_any n
  rw [hv] at hva
  have HVA := Lib.hid hva
  clear hva hv
  obtain ⟨E, hE⟩ : ∃ E, Utf8.encode n = E := ⟨_, rfl⟩
  rw [hE]
  have hconv : ∀ w, (convert 21 9 (.int .i32 n)).run Tryz.prog w = .ok (.string E) w := fun w => by
   rw [← hE]; exact run_convert_int_string w 21 9 .i32 n (by rw [Tryz.underlying21]; rfl) Tryz.underlying9
  clear hE
  cases v
  ·go_enter Tryz.func110, Tryz.ntmps110
   go_wp2_with ((go_at_call 104; refine (HVA.out _).mono ?_; rintro e w' ⟨rfl, rfl⟩))
   go_ret2
   exact ⟨rfl, rfl⟩
  ·go_enter Tryz.func110, Tryz.ntmps110
   go_wp2_with ((go_at_call 104; refine (HVA.out _).mono ?_; rintro e w' ⟨rfl, rfl⟩))
   go_ret2
   exact ⟨rfl, rfl⟩
 ·have hvf : v = false := by rw [← hv]; unfold Utf8.valid; simp; omega
  subst hvf
  clear hv
  go_enter Tryz.func110, Tryz.ntmps110
  go_wp2_with (fail)
  go_ret2
  exact ⟨rfl, rfl⟩
end Go.Proofs.YtidiahkobapnjaaGreatDoor
namespace Go.Proofs.YtidiahkobapnjaaGreatDoor
open Go Go.RowKit Lx
def digI (r : Nat) : Int := match digR r with | some d => d | none => -1
theorem digI_cases (r : Nat) : digI r = if 48 ≤ r ∧ r ≤ 57 then (r : Int) - 48 else if 97 ≤ r ∧ r ≤ 102 then (r : Int) - 87 else if 65 ≤ r ∧ r ≤ 70 then (r : Int) - 55 else -1 := by
 unfold digI digR
 (repeat' split) <;> simp_all <;> omega
set_option maxHeartbeats 1000000 in
theorem wdigit_any (r : Nat) (w : World) (hr : r ≤ 1114111) : Calls Tryz.prog 136 #[.int .i32 r] w fun e w' => e = .returned (.int .i64 (digI r)) ∧ w = w' := by
 obtain ⟨x, hx⟩ : ∃ x, digI r = x := ⟨_, rfl⟩
 rw [hx]
 rw [digI_cases] at hx
 have HX := Lib.hid hx
 clear hx
 have hr' : (r : Int) ≤ 1114111 := by omega
 go_enter Tryz.func136, Tryz.ntmps136
 go_wp2
 all_goals go_ret
 all_goals refine ⟨ret_int ?_, rfl⟩
 all_goals rw [← HX.out]; clear HX
 all_goals (repeat' split)
 all_goals (first | omega | (unfold wrap32 wrap64; omega) | (exfalso; omega) | (simp_all; omega))
theorem sizeG_fuel (hex : Bool) : ∀ (f g n : Nat) (l : Bs), l.length ≤ f → l.length ≤ g → sizeG hex f n l = sizeG hex g n l
 | 0, 0, _, _, _, _ => rfl
 | 0, g + 1, n, l, h, _ => by
  have : l = [] := List.eq_nil_of_length_eq_zero (by omega)
  subst this; rfl
 | f + 1, 0, n, l, _, h => by
  have : l = [] := List.eq_nil_of_length_eq_zero (by omega)
  subst this; rfl
 | f + 1, g + 1, n, [], _, _ => rfl
 | f + 1, g + 1, n, b :: t, h, h' => by
  simp only [sizeG]
  have hw := (decL_width (b :: t)).1
  split
  ·rfl
  ·split
   ·rfl
   ·exact sizeG_fuel hex f g _ _ (by rw [List.length_drop]; simp only [List.length_cons] at *; omega) (by rw [List.length_drop]; simp only [List.length_cons] at *; omega)
theorem sizeL_step (hex : Bool) (n : Nat) (l : Bs) (h : l ≠ []) : sizeL hex n l =
  match digR (decL l).1 with
  | none => none
  | some d => if d > 9 && !hex then none else
    sizeL hex (if hex then (n * 16 + d) % 18446744073709551616 else min (10 * n + d) 18446744073709551615) (l.drop (decL l).2) := by
 cases l with
 | nil => exact absurd rfl h
 | cons b t =>
  have hw := (decL_width (b :: t)).1
  unfold sizeL
  simp only [List.length_cons, sizeG]
  cases hd : digR (decL (b :: t)).1 with
  | none => rfl
  | some d =>
   simp only []
   split
   ·rfl
   ·rw [sizeG_fuel hex t.length ((b :: t).drop (decL (b :: t)).2).length _ ((b :: t).drop (decL (b :: t)).2) (by rw [List.length_drop]; simp only [List.length_cons]; omega) (Nat.le_refl _)]
theorem sizeL_nil (hex : Bool) (n : Nat) : sizeL hex n [] = some n := rfl
theorem or_low (N d : Nat) (hd : d < 16) : bits .or .u64 (IntKind.u64.wrap ((N : Int) * 16)) (d : Int) = (((N * 16 + d) % 18446744073709551616 : Nat) : Int) := by
 have hw : IntKind.u64.wrap ((N : Int) * 16) = ((2 ^ 4 * (N % 1152921504606846976) : Nat) : Int) := by
  unfold IntKind.wrap
  simp [IntKind.bits, IntKind.signed]
  omega
 rw [hw, bits_or_u64_nat _ _ (by omega) (by omega), ← Nat.two_pow_add_eq_or_of_lt (by omega : d < 2 ^ 4)]
 congr 1
 omega
theorem add64_run (x y : Int) (w : World) (hx : 0 ≤ x) (hy : 0 ≤ y) : (callFunc 138 #[.int .u64 x, .int .u64 y, .int .u64 0]).run Tryz.prog w =
  .ok (.value (.tuple #[.int .u64 ((x + y) % 18446744073709551616), .int .u64 ((x + y) / 18446744073709551616)])) w := by
 rw [run_callFunc_extern Tryz.func138 (by kernel_rfl) (by kernel_rfl) (by kernel_rfl) (e := add64Entry) (by kernel_rfl), run_add64 x y 0 hx hy (by omega) (by omega)]
 simp [Result.andThen]
theorem mul10_any (N : Nat) (hN : N < 18446744073709551616) (w : World) : Calls Tryz.prog 137 #[.int .u64 N, .int .u64 10] w fun e w' =>
  e = .returned (.tuple #[.int .u64 ((N * 10 / 18446744073709551616 : Nat)), .int .u64 ((N * 10 % 18446744073709551616 : Nat))]) ∧ w = w' :=
 (Tryz.bits_Mul64 N 10 hN (by omega) w).mono fun _ _ ⟨h1, h2⟩ => ⟨h1, h2.symm⟩
theorem dec_step (N d hi lo sm cy : Nat) (hN : N < 18446744073709551616) (hd : d < 16) (hhi : N * 10 / 18446744073709551616 = hi) (hlo : N * 10 % 18446744073709551616 = lo)
  (hsm : (lo + d) % 18446744073709551616 = sm) (hcy : (lo + d) / 18446744073709551616 = cy) :
  (hi + cy = 0 → sm = 10 * N + d ∧ N ≤ sm ∧ sm < 18446744073709551616) ∧ (hi + cy ≠ 0 → 18446744073709551616 ≤ 10 * N + d) ∧ hi ≤ 9 ∧ cy ≤ 1 := by
 omega
abbrev badEnd (c : Int) : Ending := .panicked [{ v := .iface 140 (.agg #[.int .i64 c]), recovered := false }]
def SizeEnd (r : Option Nat) (hex : Bool) (w : World) (e : Ending) (w' : World) : Prop :=
 (match r with | none => e = badEnd 4 | some u => e = .returned (.tuple #[.int .u64 u, .bool hex])) ∧ Below w.heap.size w w'
set_option maxHeartbeats 1000000 in
theorem size_hex (s A1 : ByteArray) (w : World) (hs : s.size ≤ 1000000) (hsz : A1.size ≤ 1000000) (hne : bs A1 ≠ [])
  (hc : ∀ w, Calls Tryz.prog 135 #[.string s, .string ⟨#[48, 120]⟩] w fun e w' => e = .returned (.tuple #[.string A1, .bool true]) ∧ w = w') :
  Calls Tryz.prog 121 #[.string s] w (SizeEnd (sizeL true 0 (bs A1)) true w) := by
 have HC := Lib.hid hc
 clear hc
 have HNE := Lib.hid hne
 have he : A1.toList.isEmpty = false := by
  rw [Lib.toList_data]; cases h : A1.data.toList with
  | nil => exact absurd h hne
  | cons _ _ => rfl
 clear hne
 go_enter Tryz.func121, Tryz.ntmps121
 go_wp2_with ((go_at_call 135; refine (HC.out _).mono ?_; rintro e w' ⟨rfl, rfl⟩))
 have Hsz := Lib.hid hsz
 generalize hM : A1.size = M at *
 have HM := Lib.hid hM
 clear hM
 go_loopw [2] (fun n wr => ∃ pos N : Nat, pos ≤ M ∧ Hid (N < 18446744073709551616) ∧ n = .int .u64 N ∧ Hid (sizeL true 0 (bs A1) = sizeL true N ((bs A1).drop pos)) ∧ wr = w.iter A1 pos) (fun _ wr => M - wr.iterPos w.heap.size)
 case atStart => exact ⟨0, 0, Nat.zero_le _, by unfold Hid; omega, rfl, by unfold Hid; simp, rfl⟩
 case round =>
  obtain ⟨pos, N, hpos, hN, rfl, hG, rfl⟩ := hrel
  by_cases hlt : pos < M
  ·have hnext := run_next_any (P := Tryz.prog) w A1 pos
   have hd := decL_le ((bs A1).drop pos)
   have hnx : ∀ ty, (Instr.next (.pointer (some ⟨w.heap.size, 0, none⟩)) true ty).run Tryz.prog (w.iter A1 pos) = .ok (.tuple #[.bool true, .int .i64 pos, .int .i32 (decL ((bs A1).drop pos)).1]) (w.iter A1 (pos + (decL ((bs A1).drop pos)).2)) := fun ty => by
    have := hnext ty (by rw [HM.out]; exact hlt)
    rw [decode_eq A1 pos] at this
    exact this
   clear hnext
   have hne : (bs A1).drop pos ≠ [] := fun h => by
    have := congrArg List.length h
    rw [List.length_drop, bs_length, HM.out] at this
    simp at this; omega
   have HS := Lib.hid (sizeL_step true N ((bs A1).drop pos) hne)
   have HW := Lib.hid (decL_width ((bs A1).drop pos))
   have HLL := Lib.hid (show ((bs A1).drop pos).length = M - pos by rw [List.length_drop, bs_length, HM.out])
   have HNE2 := Lib.hid hne
   clear hne
   generalize hr : (decL ((bs A1).drop pos)).1 = r at *
   generalize hk : (decL ((bs A1).drop pos)).2 = k at *
   have HR := Lib.hid hr
   have HK := Lib.hid hk
   clear hr hk
   have HDG := Lib.hid (fun w => wdigit_any r w hd)
   go_wp2_with fail
   refine (HDG.out _).mono ?_
   rintro e w' ⟨rfl, rfl⟩
   cases hdg : digR r with
   | none =>
    have hD : digI r = -1 := by unfold digI; rw [hdg]
    rw [hD]
    clear hD
    have HDN := Lib.hid hdg
    clear hdg
    go_wp2_with fail
    refine ⟨rfl, ?_⟩
    have hres : sizeL true 0 (bs A1) = none := by rw [hG.out, HS.out, HDN.out]
    rw [hres]
    exact ⟨rfl, (Below.refl _ w).alloc (Nat.le_refl _) _⟩
   | some d =>
    have hD : digI r = d := by unfold digI; rw [hdg]
    have hd16 : d < 16 := by unfold digR at hdg; revert hdg; (repeat' split) <;> intro h <;> (try cases h) <;> omega
    rw [hD]
    clear hD
    have HDN := Lib.hid hdg
    clear hdg
    have hdz : (d : Int) < 16 := by omega
    go_wp2_with fail
    all_goals
     go_roundw
     case rel =>
      have hN' := hN.out
      refine ⟨pos + k, (N * 16 + d) % 18446744073709551616, ?_, ?_, ?_, ?_, rfl⟩
      ·have := HW.out.2.2 HNE2.out; rw [HLL.out] at this; omega
      ·unfold Hid; omega
      ·rw [or_low N d hd16]
      ·unfold Hid
       rw [hG.out, HS.out, HDN.out, List.drop_drop]
       simp
     case measure =>
      have hk1 := HW.out.1
      have e : ∀ q, (w.iter A1 q).iterPos w.heap.size = q := fun q => World.iterPos_iter w A1 q
      simp only [e]
      omega
  ·have hnx := fun ty => run_next_end (P := Tryz.prog) w A1 pos ty (by rw [HM.out]; exact hlt)
   have hnx' : ∀ ty, (Instr.next (.pointer (some ⟨w.heap.size, 0, none⟩)) true ty).run Tryz.prog (w.iter A1 pos) = .ok (.tuple #[.bool false]) (w.iter A1 pos) := hnx
   clear hnx
   go_wp2_with fail
   go_ret2
   have hres : sizeL true 0 (bs A1) = some N := by
    rw [hG.out, List.drop_of_length_le (by rw [bs_length, HM.out]; omega), sizeL_nil]
   rw [hres]
   exact ⟨rfl, (Below.refl _ w).alloc (Nat.le_refl _) _⟩
set_option maxHeartbeats 1000000 in
theorem size_hex2 (s A0 A1 : ByteArray) (w : World) (hs : s.size ≤ 1000000) (hsz : A1.size ≤ 1000000) (hne : bs A1 ≠ [])
  (hc0 : ∀ w, Calls Tryz.prog 135 #[.string s, .string ⟨#[48, 120]⟩] w fun e w' => e = .returned (.tuple #[.string A0, .bool false]) ∧ w = w')
  (hc : ∀ w, Calls Tryz.prog 135 #[.string s, .string ⟨#[48, 88]⟩] w fun e w' => e = .returned (.tuple #[.string A1, .bool true]) ∧ w = w') :
  Calls Tryz.prog 121 #[.string s] w (SizeEnd (sizeL true 0 (bs A1)) true w) := by
 have HC := Lib.hid hc
 have HC0 := Lib.hid hc0
 clear hc hc0
 have HNE := Lib.hid hne
 have he : A1.toList.isEmpty = false := by
  rw [Lib.toList_data]; cases h : A1.data.toList with
  | nil => exact absurd h hne
  | cons _ _ => rfl
 clear hne
 go_enter Tryz.func121, Tryz.ntmps121
 go_wp2_with fail
 refine (HC0.out _).mono ?_
 rintro e w' ⟨rfl, rfl⟩
 go_wp2_with fail
 refine (HC.out _).mono ?_
 rintro e w' ⟨rfl, rfl⟩
 go_wp2_with fail
 have Hsz := Lib.hid hsz
 generalize hM : A1.size = M at *
 have HM := Lib.hid hM
 clear hM
 go_loopw [2] (fun n wr => ∃ pos N : Nat, pos ≤ M ∧ Hid (N < 18446744073709551616) ∧ n = .int .u64 N ∧ Hid (sizeL true 0 (bs A1) = sizeL true N ((bs A1).drop pos)) ∧ wr = w.iter A1 pos) (fun _ wr => M - wr.iterPos w.heap.size)
 case atStart => exact ⟨0, 0, Nat.zero_le _, by unfold Hid; omega, rfl, by unfold Hid; simp, rfl⟩
 case round =>
  obtain ⟨pos, N, hpos, hN, rfl, hG, rfl⟩ := hrel
  by_cases hlt : pos < M
  ·have hnext := run_next_any (P := Tryz.prog) w A1 pos
   have hd := decL_le ((bs A1).drop pos)
   have hnx : ∀ ty, (Instr.next (.pointer (some ⟨w.heap.size, 0, none⟩)) true ty).run Tryz.prog (w.iter A1 pos) = .ok (.tuple #[.bool true, .int .i64 pos, .int .i32 (decL ((bs A1).drop pos)).1]) (w.iter A1 (pos + (decL ((bs A1).drop pos)).2)) := fun ty => by
    have := hnext ty (by rw [HM.out]; exact hlt)
    rw [decode_eq A1 pos] at this
    exact this
   clear hnext
   have hne : (bs A1).drop pos ≠ [] := fun h => by
    have := congrArg List.length h
    rw [List.length_drop, bs_length, HM.out] at this
    simp at this; omega
   have HS := Lib.hid (sizeL_step true N ((bs A1).drop pos) hne)
   have HW := Lib.hid (decL_width ((bs A1).drop pos))
   have HLL := Lib.hid (show ((bs A1).drop pos).length = M - pos by rw [List.length_drop, bs_length, HM.out])
   have HNE2 := Lib.hid hne
   clear hne
   generalize hr : (decL ((bs A1).drop pos)).1 = r at *
   generalize hk : (decL ((bs A1).drop pos)).2 = k at *
   have HR := Lib.hid hr
   have HK := Lib.hid hk
   clear hr hk
   have HDG := Lib.hid (fun w => wdigit_any r w hd)
   go_wp2_with fail
   refine (HDG.out _).mono ?_
   rintro e w' ⟨rfl, rfl⟩
   cases hdg : digR r with
   | none =>
    have hD : digI r = -1 := by unfold digI; rw [hdg]
    rw [hD]
    clear hD
    have HDN := Lib.hid hdg
    clear hdg
    go_wp2_with fail
    refine ⟨rfl, ?_⟩
    have hres : sizeL true 0 (bs A1) = none := by rw [hG.out, HS.out, HDN.out]
    rw [hres]
    exact ⟨rfl, (Below.refl _ w).alloc (Nat.le_refl _) _⟩
   | some d =>
    have hD : digI r = d := by unfold digI; rw [hdg]
    have hd16 : d < 16 := by unfold digR at hdg; revert hdg; (repeat' split) <;> intro h <;> (try cases h) <;> omega
    rw [hD]
    clear hD
    have HDN := Lib.hid hdg
    clear hdg
    have hdz : (d : Int) < 16 := by omega
    go_wp2_with fail
    all_goals
     go_roundw
     case rel =>
      have hN' := hN.out
      refine ⟨pos + k, (N * 16 + d) % 18446744073709551616, ?_, ?_, ?_, ?_, rfl⟩
      ·have := HW.out.2.2 HNE2.out; rw [HLL.out] at this; omega
      ·unfold Hid; omega
      ·rw [or_low N d hd16]
      ·unfold Hid
       rw [hG.out, HS.out, HDN.out, List.drop_drop]
       simp
     case measure =>
      have hk1 := HW.out.1
      have e : ∀ q, (w.iter A1 q).iterPos w.heap.size = q := fun q => World.iterPos_iter w A1 q
      simp only [e]
      omega
  ·have hnx := fun ty => run_next_end (P := Tryz.prog) w A1 pos ty (by rw [HM.out]; exact hlt)
   have hnx' : ∀ ty, (Instr.next (.pointer (some ⟨w.heap.size, 0, none⟩)) true ty).run Tryz.prog (w.iter A1 pos) = .ok (.tuple #[.bool false]) (w.iter A1 pos) := hnx
   clear hnx
   go_wp2_with fail
   go_ret2
   have hres : sizeL true 0 (bs A1) = some N := by
    rw [hG.out, List.drop_of_length_le (by rw [bs_length, HM.out]; omega), sizeL_nil]
   rw [hres]
   exact ⟨rfl, (Below.refl _ w).alloc (Nat.le_refl _) _⟩
end Go.Proofs.YtidiahkobapnjaaGreatDoor
namespace Go.Proofs.YtidiahkobapnjaaGreatDoor
open Go Go.RowKit Lx
set_option maxHeartbeats 1000000 in
theorem size_dec (s A0 A1 : ByteArray) (w : World) (hs : s.size ≤ 1000000) (hsz : A1.size ≤ 1000000) (hne : bs A1 ≠ [])
  (hc0 : ∀ w, Calls Tryz.prog 135 #[.string s, .string ⟨#[48, 120]⟩] w fun e w' => e = .returned (.tuple #[.string A0, .bool false]) ∧ w = w')
  (hc : ∀ w, Calls Tryz.prog 135 #[.string s, .string ⟨#[48, 88]⟩] w fun e w' => e = .returned (.tuple #[.string A1, .bool false]) ∧ w = w') :
  Calls Tryz.prog 121 #[.string s] w (SizeEnd (sizeL false 0 (bs A1)) false w) := by
 have HC := Lib.hid hc
 have HC0 := Lib.hid hc0
 clear hc hc0
 have HNE := Lib.hid hne
 have he : A1.toList.isEmpty = false := by
  rw [Lib.toList_data]; cases h : A1.data.toList with
  | nil => exact absurd h hne
  | cons _ _ => rfl
 clear hne
 go_enter Tryz.func121, Tryz.ntmps121
 go_wp2_with fail
 refine (HC0.out _).mono ?_
 rintro e w' ⟨rfl, rfl⟩
 go_wp2_with fail
 refine (HC.out _).mono ?_
 rintro e w' ⟨rfl, rfl⟩
 go_wp2_with fail
 have Hsz := Lib.hid hsz
 generalize hM : A1.size = M at *
 have HM := Lib.hid hM
 clear hM
 go_loopw [2] (fun n wr => ∃ pos N : Nat, pos ≤ M ∧ Hid (N < 18446744073709551616) ∧ n = .int .u64 N ∧ Hid (sizeL false 0 (bs A1) = sizeL false N ((bs A1).drop pos)) ∧ wr = w.iter A1 pos) (fun _ wr => M - wr.iterPos w.heap.size)
 case atStart => exact ⟨0, 0, Nat.zero_le _, by unfold Hid; omega, rfl, by unfold Hid; simp, rfl⟩
 case round =>
  obtain ⟨pos, N, hpos, hN, rfl, hG, rfl⟩ := hrel
  by_cases hlt : pos < M
  ·have hnext := run_next_any (P := Tryz.prog) w A1 pos
   have hd := decL_le ((bs A1).drop pos)
   have hnx : ∀ ty, (Instr.next (.pointer (some ⟨w.heap.size, 0, none⟩)) true ty).run Tryz.prog (w.iter A1 pos) = .ok (.tuple #[.bool true, .int .i64 pos, .int .i32 (decL ((bs A1).drop pos)).1]) (w.iter A1 (pos + (decL ((bs A1).drop pos)).2)) := fun ty => by
    have := hnext ty (by rw [HM.out]; exact hlt)
    rw [decode_eq A1 pos] at this
    exact this
   clear hnext
   have hne : (bs A1).drop pos ≠ [] := fun h => by
    have := congrArg List.length h
    rw [List.length_drop, bs_length, HM.out] at this
    simp at this; omega
   have HS := Lib.hid (sizeL_step false N ((bs A1).drop pos) hne)
   have HW := Lib.hid (decL_width ((bs A1).drop pos))
   have HLL := Lib.hid (show ((bs A1).drop pos).length = M - pos by rw [List.length_drop, bs_length, HM.out])
   have HNE2 := Lib.hid hne
   clear hne
   generalize hr : (decL ((bs A1).drop pos)).1 = r at *
   generalize hk : (decL ((bs A1).drop pos)).2 = k at *
   have HR := Lib.hid hr
   have HK := Lib.hid hk
   clear hr hk
   have HDG := Lib.hid (fun w => wdigit_any r w hd)
   go_wp2_with fail
   refine (HDG.out _).mono ?_
   rintro e w' ⟨rfl, rfl⟩
   cases hdg : digR r with
   | none =>
    have hD : digI r = -1 := by unfold digI; rw [hdg]
    rw [hD]
    clear hD
    have HDN := Lib.hid hdg
    clear hdg
    go_wp2_with fail
    refine ⟨rfl, ?_⟩
    have hres : sizeL false 0 (bs A1) = none := by rw [hG.out, HS.out, HDN.out]
    rw [hres]
    exact ⟨rfl, (Below.refl _ w).alloc (Nat.le_refl _) _⟩
   | some d =>
    have hD : digI r = d := by unfold digI; rw [hdg]
    have hd16 : d < 16 := by unfold digR at hdg; revert hdg; (repeat' split) <;> intro h <;> (try cases h) <;> omega
    rw [hD]
    clear hD
    have HDN := Lib.hid hdg
    clear hdg
    have hdz : (d : Int) < 16 := by omega
    by_cases h9 : d ≤ 9
    ·have h9z : (d : Int) ≤ 9 := by omega
     have H9 := Lib.hid h9
     clear h9
     have HM64 := Lib.hid (mul10_any N hN.out)
     have hdw : IntKind.u64.wrap (d : Int) = d := by unfold IntKind.wrap; simp [IntKind.bits, IntKind.signed]; omega
     obtain ⟨hi, hhi⟩ : ∃ hi, N * 10 / 18446744073709551616 = hi := ⟨_, rfl⟩
     obtain ⟨lo, hlo⟩ : ∃ lo, N * 10 % 18446744073709551616 = lo := ⟨_, rfl⟩
     rw [hhi, hlo] at HM64
     obtain ⟨sm, hsm⟩ : ∃ sm, (lo + d) % 18446744073709551616 = sm := ⟨_, rfl⟩
     obtain ⟨cy, hcy⟩ : ∃ cy, (lo + d) / 18446744073709551616 = cy := ⟨_, rfl⟩
     have hadd : ∀ w, (callFunc 138 #[.int .u64 lo, .int .u64 d, .int .u64 0]).run Tryz.prog w = .ok (.value (.tuple #[.int .u64 sm, .int .u64 cy])) w := fun w => by
      rw [add64_run lo d w (by omega) (by omega), ← hsm, ← hcy]
      rfl
     have hNN := hN.out
     have HARI := Lib.hid (dec_step N d hi lo sm cy hNN hd16 hhi hlo hsm hcy)
     have hz1 : (hi : Int) ≤ 9 := by have := HARI.out.2.2.1; omega
     have hz2 : (cy : Int) ≤ 1 := by have := HARI.out.2.2.2; omega
     have hz0 : (0 : Int) ≤ hi := by omega
     have hz3 : (0 : Int) ≤ cy := by omega
     clear hhi hlo hsm hcy hNN
     go_wp2_with fail
     refine (HM64.out _).mono ?_
     rintro e w1 ⟨rfl, rfl⟩
     go_wp2_with fail
     ·go_roundw
      case rel =>
       have hc : hi + cy ≠ 0 := by
        have h : ((hi : Int) + cy != 0) = true := by assumption
        rw [bne_iff_ne] at h; omega
       have ha := HARI.out.2.1 hc
       have hN' := hN.out
       refine ⟨pos + k, 18446744073709551615, ?_, ?_, ?_, ?_, rfl⟩
       ·have := HW.out.2.2 HNE2.out; rw [HLL.out] at this; omega
       ·unfold Hid; omega
       ·congr 1; omega
       ·unfold Hid
        rw [hG.out, HS.out, HDN.out, List.drop_drop]
        have h9' : (decide (d > 9) && !false) = false := by simp; exact H9.out
        simp only [h9', Bool.false_eq_true, if_false]
        rw [Nat.min_eq_right (by omega)]
      case measure =>
       have hk1 := HW.out.1
       have e : ∀ q, (w.iter A1 q).iterPos w.heap.size = q := fun q => World.iterPos_iter w A1 q
       simp only [e]
       omega
     ·go_roundw
      case rel =>
       have hc : hi + cy = 0 := by
        have h : ((hi : Int) + cy != 0) = false := by assumption
        simp at h; omega
       have ha := HARI.out.1 hc
       have hN' := hN.out
       refine ⟨pos + k, sm, ?_, ?_, ?_, ?_, rfl⟩
       ·have := HW.out.2.2 HNE2.out; rw [HLL.out] at this; omega
       ·unfold Hid; omega
       ·congr 1; omega
       ·unfold Hid
        rw [hG.out, HS.out, HDN.out, List.drop_drop]
        have h9' : (decide (d > 9) && !false) = false := by simp; exact H9.out
        simp only [h9', Bool.false_eq_true, if_false]
        rw [Nat.min_eq_left (by omega), ← ha.1]
      case measure =>
       have hk1 := HW.out.1
       have e : ∀ q, (w.iter A1 q).iterPos w.heap.size = q := fun q => World.iterPos_iter w A1 q
       simp only [e]
       omega
    ·have h9z : (9 : Int) < d := by omega
     have H9 := Lib.hid h9
     clear h9
     go_wp2_with fail
     refine ⟨rfl, ?_⟩
     have hres : sizeL false 0 (bs A1) = none := by
      rw [hG.out, HS.out, HDN.out]
      have h9' : (decide (d > 9) && !false) = true := by simp; have := H9.out; omega
      simp only [h9', if_true]
     rw [hres]
     exact ⟨rfl, (Below.refl _ w).alloc (Nat.le_refl _) _⟩
  ·have hnx := fun ty => run_next_end (P := Tryz.prog) w A1 pos ty (by rw [HM.out]; exact hlt)
   have hnx' : ∀ ty, (Instr.next (.pointer (some ⟨w.heap.size, 0, none⟩)) true ty).run Tryz.prog (w.iter A1 pos) = .ok (.tuple #[.bool false]) (w.iter A1 pos) := hnx
   clear hnx
   go_wp2_with fail
   go_ret2
   have hres : sizeL false 0 (bs A1) = some N := by
    rw [hG.out, List.drop_of_length_le (by rw [bs_length, HM.out]; omega), sizeL_nil]
   rw [hres]
   exact ⟨rfl, (Below.refl _ w).alloc (Nat.le_refl _) _⟩
end Go.Proofs.YtidiahkobapnjaaGreatDoor
namespace Go.Proofs.YtidiahkobapnjaaGreatDoor
open Go Go.RowKit Lx
theorem cut_any (s : ByteArray) (p : Bs) (w : World) : Calls Tryz.prog 135 #[.string s, .string (str p)] w fun e w' =>
  e = .returned (.tuple #[.string (str (if p.isPrefixOf (bs s) then (bs s).drop p.length else bs s)), .bool (p.isPrefixOf (bs s))]) ∧ w = w' :=
 (Tryz.strings_CutPrefix s (str p) w).mono fun _ _ ⟨h1, h2⟩ => ⟨by rw [h1]; simp [str, bs, Lib.trimPrefix, Lib.hasPrefix], h2.symm⟩
def sizeS (l : Bs) : Option Nat :=
 let rest := if hexHead l then l.drop 2 else l
 if rest = [] then none else sizeL (hexHead l) 0 rest
theorem size_any (s : ByteArray) (w : World) (hs : s.size ≤ 1000000) : Calls Tryz.prog 121 #[.string s] w (SizeEnd (sizeS (bs s)) (hexHead (bs s)) w) := by
 have h0 := fun w => cut_any s [48, 120] w
 have h1 := fun w => cut_any s [48, 88] w
 have hl := bs_length s
 have hstr : ∀ l : Bs, l.length ≤ 1000000 → (str l).size ≤ 1000000 := fun l h => by rw [str_size]; exact h
 by_cases p0 : [48, 120].isPrefixOf (bs s) = true
 ·have hh : hexHead (bs s) = true := by simp [hexHead, p0]
  simp only [p0, if_true] at h0
  unfold sizeS
  rw [hh]
  simp only [if_true]
  by_cases hn : (bs s).drop 2 = []
  ·rw [if_pos hn]
   have hn' : (str ((bs s).drop [48, 120].length)).toList.isEmpty = true := by rw [Lib.toList_data]; show ((str ((bs s).drop 2)).data.toList).isEmpty = true; rw [hn]; rfl
   have H0 := Lib.hid h0
   generalize str ((bs s).drop [48, 120].length) = A at *
   clear h0 h1 hh p0 hl hstr hn
   go_enter Tryz.func121, Tryz.ntmps121
   go_wp2_with fail
   refine (H0.out _).mono ?_
   rintro e w' ⟨rfl, rfl⟩
   go_wp2_with fail
   exact ⟨rfl, rfl, Below.refl _ _⟩
  ·rw [if_neg hn]
   have := size_hex s (str ((bs s).drop 2)) w hs (hstr _ (by rw [List.length_drop]; omega)) (by rw [bs_str]; exact hn) h0
   rw [bs_str] at this
   exact this
 ·have p0' : [48, 120].isPrefixOf (bs s) = false := Bool.eq_false_iff.2 p0
  simp only [p0', Bool.false_eq_true, if_false] at h0
  by_cases p1 : [48, 88].isPrefixOf (bs s) = true
  ·have hh : hexHead (bs s) = true := by simp [hexHead, p1]
   simp only [p1, if_true] at h1
   unfold sizeS
   rw [hh]
   simp only [if_true]
   by_cases hn : (bs s).drop 2 = []
   ·rw [if_pos hn]
    have hn' : (str ((bs s).drop [48, 88].length)).toList.isEmpty = true := by rw [Lib.toList_data]; show ((str ((bs s).drop 2)).data.toList).isEmpty = true; rw [hn]; rfl
    have H0 := Lib.hid h0
    have H1 := Lib.hid h1
    generalize str ((bs s).drop [48, 88].length) = A at *
    generalize str (bs s) = A0 at *
    clear h0 h1 hh p0 p0' p1 hl hstr hn
    go_enter Tryz.func121, Tryz.ntmps121
    go_wp2_with fail
    refine (H0.out _).mono ?_
    rintro e w' ⟨rfl, rfl⟩
    go_wp2_with fail
    refine (H1.out _).mono ?_
    rintro e w' ⟨rfl, rfl⟩
    go_wp2_with fail
    exact ⟨rfl, rfl, Below.refl _ _⟩
   ·rw [if_neg hn]
    have := size_hex2 s (str (bs s)) (str ((bs s).drop 2)) w hs (hstr _ (by rw [List.length_drop]; omega)) (by rw [bs_str]; exact hn) h0 h1
    rw [bs_str] at this
    exact this
  ·have p1' : [48, 88].isPrefixOf (bs s) = false := Bool.eq_false_iff.2 p1
   simp only [p1', Bool.false_eq_true, if_false] at h1
   have hh : hexHead (bs s) = false := by simp [hexHead, p0', p1']
   unfold sizeS
   rw [hh]
   simp only [Bool.false_eq_true, if_false]
   by_cases hn : bs s = []
   ·rw [if_pos hn]
    have hn' : (str (bs s)).toList.isEmpty = true := by rw [Lib.toList_data]; show ((str (bs s)).data.toList).isEmpty = true; rw [hn]; rfl
    have H0 := Lib.hid h0
    have H1 := Lib.hid h1
    generalize str (bs s) = A0 at *
    clear h0 h1 hh p0 p0' p1 p1' hl hstr hn
    go_enter Tryz.func121, Tryz.ntmps121
    go_wp2_with fail
    refine (H0.out _).mono ?_
    rintro e w' ⟨rfl, rfl⟩
    go_wp2_with fail
    refine (H1.out _).mono ?_
    rintro e w' ⟨rfl, rfl⟩
    go_wp2_with fail
    exact ⟨rfl, rfl, Below.refl _ _⟩
   ·rw [if_neg hn]
    have := size_dec s (str (bs s)) (str (bs s)) w hs (hstr _ (by omega)) (by rw [bs_str]; exact hn) h0 h1
    rw [bs_str] at this
    exact this
theorem catch_panicking (p q : Nat) (x y c : Int) (w : World) (hp : w.cell? ⟨p, 0, none⟩ = some (.int .i64 x)) (hq : w.cell? ⟨q, 0, none⟩ = some (.int .i64 y)) (fp : w.frozen? ⟨p, 0, none⟩ = false) (fq : w.frozen? ⟨q, 0, none⟩ = false) (hne : ¬ p = q) :
  CallsD Tryz.prog 120 #[.pointer (some ⟨p, 0, none⟩), .pointer (some ⟨q, 0, none⟩)] (.panicking [{ v := .iface 140 (.agg #[.int .i64 c]), recovered := false }]) w fun e u' w' =>
   e = .returned (.tuple #[]) ∧ u' = .panicking [{ v := .iface 140 (.agg #[.int .i64 c]), recovered := true }] ∧ ((w.setCell ⟨p, 0, none⟩ (.int .i64 0)).setCell ⟨q, 0, none⟩ (.int .i64 c)).drew = w' := by
 refine callsD_of_wpS Tryz.func120 rfl fun c₀ cs hu => ?_
 have hta : ∀ w, (Instr.typeAssert (.iface 140 (.agg #[.int .i64 c])) 20 140 false).run Tryz.prog w = .ok (.agg #[.int .i64 c]) w := fun w => by kernel_rfl
 have hfa : ∀ w, (Instr.field 140 (.agg #[.int .i64 c]) 0).run Tryz.prog w = .ok (.int .i64 c) w := fun w => by kernel_rfl
 apply wpS_seq
 apply wpS_region
 simp [wpOpsS, go_sem, recoverD, hu, Tryz.ntmps120, Exit.thenS, Array.replicate_succ]
 refine wpS_of_wp ?_
 go_wp2
 refine wp_region_plan [(0, 0), (1, 0), (2, 0)] (fun _ => True) (by kernel_rfl) (by kernel_rfl) (fun _ _ d _ _ h => by cases d <;> exact h) (by trivial) ?_
 simp only [planOps, List.filterMap_cons, List.filterMap_nil, List.getElem?_toArray, List.getElem?_cons_zero, List.getElem?_cons_succ, Option.map_some, List.drop_succ_cons, List.drop_zero, List.length_cons, List.length_nil]
 iterate 3 (refine plan_pure (by rfl) (fun wq => by go_simp; with_reducible rfl) ?_; simp only [Act.put, List.setIfInBounds_toArray, List.set_cons_zero, List.set_cons_succ])
 refine plan_done ?_
 go_wp2
 simp [bodyPostS, results, Tryz.results120]
theorem catch_idle (p q : Value) (w : World) :
  CallsD Tryz.prog 120 #[p, q] .returning w fun e u' w' => e = .returned (.tuple #[]) ∧ u' = .returning ∧ w = w' := by
 refine callsD_of_wpS Tryz.func120 rfl fun c₀ cs hu => ?_
 apply wpS_seq
 apply wpS_region
 simp [wpOpsS, go_sem, recoverD, hu, Tryz.ntmps120, Exit.thenS, Array.replicate_succ]
 refine wpS_of_wp ?_
 go_wp2
 cases c₀
 simp_all [bodyPostS, results, Tryz.results120]
end Go.Proofs.YtidiahkobapnjaaGreatDoor
namespace Go.Proofs.YtidiahkobapnjaaGreatDoor
open Go Go.RowKit Lx
theorem leaves_free (w : World) (b : Nat) (v : Value) (e : TypeId) (h : w.heap[b]? = some (.cells #[v] e)) : w.cell? ⟨b, 0, none⟩ = some v ∧ w.frozen? ⟨b, 0, none⟩ = false :=
 ⟨by rw [blk_cell h]; rfl, blk_free h 0⟩
set_option maxHeartbeats 1000000 in
theorem read_none (s : ByteArray) (neg : Bool) (w : World) (hs : s.size ≤ 1000000) (hn : sizeS (bs s) = none) :
  Calls Tryz.prog 106 #[.string s, .bool neg] w fun e w' => e = .returned (.tuple #[.int .i64 0, .int .i64 4]) ∧ Below w.heap.size w w' := by
 have hsz := fun w => size_any s w hs
 rw [hn] at hsz
 have HS := Lib.hid hsz
 clear hsz
 have hmf : ∀ (fn : Fn) (first cap : Array Value) (w : World), (Instr.makeFunc fn first cap).run Tryz.prog w = .ok (.func fn first cap) w := fun _ _ _ _ => rfl
 go_enter_defers Tryz.func106, Tryz.ntmps106
 go_wp2_with fail
 refine (HS.out _).mono ?_
 rintro e w1 ⟨he, hb1⟩
 simp only [] at he
 subst he
 have hbn := blk_below hb1 (by simp; omega) (blk_alloc (blk_new w (.cells #[.int .i64 0] 3)))
 have hbe := blk_below hb1 (by simp) (blk_new (w.alloc (.cells #[.int .i64 0] 3)) (.cells #[.int .i64 0] 25))
 simp only [World.size_alloc] at hbe
 have hB := hb1.mono (B' := w.heap.size) (by simp; omega)
 have HB := Lib.hid ((((Below.refl w.heap.size w).alloc (Nat.le_refl _) _).alloc (by simp) _).trans hB)
 obtain ⟨cn, fn⟩ := leaves_free w1 _ _ _ hbn
 obtain ⟨ce, fe⟩ := leaves_free w1 _ _ _ hbe
 clear hb1 hB hbn hbe
 go_wp2_with fail
 refine leaves_cons (f := 120) (args := #[.pointer (some ⟨w.heap.size, 0, none⟩), .pointer (some ⟨w.heap.size + 1, 0, none⟩)]) (by simp) (by simp [go_sem]) ?_
 refine (catch_panicking w.heap.size (w.heap.size + 1) 0 0 _ w1 cn ce fn fe (by omega)).mono ?_
 rintro e u' w'' ⟨rfl, rfl, rfl⟩
 have hne : ¬ w.heap.size + 1 = w.heap.size := by omega
 have hn0 : ((w1.setCell ⟨w.heap.size, 0, none⟩ (.int .i64 0)).setCell ⟨w.heap.size + 1, 0, none⟩ (.int .i64 4)).drew.cell? ⟨w.heap.size, 0, none⟩ = some (.int .i64 0) := by
  rw [World.cell?_drew, World.cell?_setCell_other _ _ _ _ (by simp), World.cell?_setCell_same _ _ _ cn]
 have hn1 : ((w1.setCell ⟨w.heap.size, 0, none⟩ (.int .i64 0)).setCell ⟨w.heap.size + 1, 0, none⟩ (.int .i64 4)).drew.cell? ⟨w.heap.size + 1, 0, none⟩ = some (.int .i64 4) := by
  rw [World.cell?_drew]
  exact World.cell?_setCell_same _ _ _ ((World.cell?_setCell_other _ _ _ _ (by simp)).trans ce)
 have HBf := ((HB.out.setCell (p := ⟨w.heap.size, 0, none⟩) (Nat.le_refl _) (.int .i64 0)).setCell (p := ⟨w.heap.size + 1, 0, none⟩) (by simp) (.int .i64 4)).drew
 generalize ((w1.setCell ⟨w.heap.size, 0, none⟩ (.int .i64 0)).setCell ⟨w.heap.size + 1, 0, none⟩ (.int .i64 4)).drew = w9 at *
 simp [Leaves, settle, results, Tryz.results106, go_sem, hn0, hn1]
 exact HBf
theorem sizeG_lt (hex : Bool) : ∀ (f n : Nat) (l : Bs) (u : Nat), n < 18446744073709551616 → sizeG hex f n l = some u → u < 18446744073709551616
 | 0, n, l, u, hn, h => by simp only [sizeG, Option.some.injEq] at h; omega
 | f + 1, n, [], u, hn, h => by simp only [sizeG, Option.some.injEq] at h; omega
 | f + 1, n, b :: t, u, hn, h => by
  simp only [sizeG] at h
  split at h
  ·cases h
  ·split at h
   ·cases h
   ·refine sizeG_lt hex f _ _ u ?_ h
    split <;> omega
theorem sizeS_lt {l : Bs} {u : Nat} (h : sizeS l = some u) : u < 18446744073709551616 := by
 unfold sizeS at h
 simp only [] at h
 generalize (if hexHead l then l.drop 2 else l) = rest at h
 by_cases hr : rest = []
 ·rw [if_pos hr] at h; cases h
 ·rw [if_neg hr] at h
  exact sizeG_lt _ _ 0 _ _ (by omega) h
theorem parseF_eq (l : Bs) : parseF l = match sizeS l with | none => (0, 4) | some u => if !hexHead l && decide (u > 9223372036854775807) then (0, 14) else (sint u, 0) := by
 unfold parseF sizeS
 simp only []
 generalize (if hexHead l then l.drop 2 else l) = rest
 by_cases h : rest = []
 ·simp [h]
 ·simp only [h, if_false]
  all_goals (cases sizeL (hexHead l) 0 rest <;> rfl)
theorem sint_wrap (u : Nat) (h : u < 18446744073709551616) : wrap64 (u : Int) = sint u := by
 unfold wrap64 sint
 split <;> omega
set_option maxHeartbeats 1000000 in
theorem read_big (s : ByteArray) (w : World) (u : Nat) (hs : s.size ≤ 1000000) (hn : sizeS (bs s) = some u) (hx : hexHead (bs s) = false) (hu : 9223372036854775807 < u) :
  Calls Tryz.prog 106 #[.string s, .bool false] w fun e w' => e = .returned (.tuple #[.int .i64 0, .int .i64 14]) ∧ Below w.heap.size w w' := by
 have hsz := fun w => size_any s w hs
 rw [hn, hx] at hsz
 have HS := Lib.hid hsz
 have huz : (9223372036854775807 : Int) < u := by omega
 clear hsz hn hx hu
 have hmf : ∀ (fn : Fn) (first cap : Array Value) (w : World), (Instr.makeFunc fn first cap).run Tryz.prog w = .ok (.func fn first cap) w := fun _ _ _ _ => rfl
 go_enter_defers Tryz.func106, Tryz.ntmps106
 go_wp2_with fail
 refine (HS.out _).mono ?_
 rintro e w1 ⟨he, hb1⟩
 simp only [] at he
 subst he
 have hbn := blk_below hb1 (by simp; omega) (blk_alloc (blk_new w (.cells #[.int .i64 0] 3)))
 have hbe := blk_below hb1 (by simp) (blk_new (w.alloc (.cells #[.int .i64 0] 3)) (.cells #[.int .i64 0] 25))
 simp only [World.size_alloc] at hbe
 have hB := hb1.mono (B' := w.heap.size) (by simp; omega)
 have HB := Lib.hid ((((Below.refl w.heap.size w).alloc (Nat.le_refl _) _).alloc (by simp) _).trans hB)
 obtain ⟨cn, fn⟩ := leaves_free w1 _ _ _ hbn
 obtain ⟨ce, fe⟩ := leaves_free w1 _ _ _ hbe
 clear hb1 hB hbn hbe
 go_wp2_with fail
 refine leaves_cons (f := 120) (args := #[.pointer (some ⟨w.heap.size, 0, none⟩), .pointer (some ⟨w.heap.size + 1, 0, none⟩)]) (by simp) (by simp [go_sem]) ?_
 refine (catch_panicking w.heap.size (w.heap.size + 1) 0 0 _ w1 cn ce fn fe (by omega)).mono ?_
 rintro e u' w'' ⟨rfl, rfl, rfl⟩
 have hne : ¬ w.heap.size + 1 = w.heap.size := by omega
 have hn0 : ((w1.setCell ⟨w.heap.size, 0, none⟩ (.int .i64 0)).setCell ⟨w.heap.size + 1, 0, none⟩ (.int .i64 14)).drew.cell? ⟨w.heap.size, 0, none⟩ = some (.int .i64 0) := by
  rw [World.cell?_drew, World.cell?_setCell_other _ _ _ _ (by simp), World.cell?_setCell_same _ _ _ cn]
 have hn1 : ((w1.setCell ⟨w.heap.size, 0, none⟩ (.int .i64 0)).setCell ⟨w.heap.size + 1, 0, none⟩ (.int .i64 14)).drew.cell? ⟨w.heap.size + 1, 0, none⟩ = some (.int .i64 14) := by
  rw [World.cell?_drew]
  exact World.cell?_setCell_same _ _ _ ((World.cell?_setCell_other _ _ _ _ (by simp)).trans ce)
 have HBf := ((HB.out.setCell (p := ⟨w.heap.size, 0, none⟩) (Nat.le_refl _) (.int .i64 0)).setCell (p := ⟨w.heap.size + 1, 0, none⟩) (by simp) (.int .i64 14)).drew
 generalize ((w1.setCell ⟨w.heap.size, 0, none⟩ (.int .i64 0)).setCell ⟨w.heap.size + 1, 0, none⟩ (.int .i64 14)).drew = w9 at *
 simp [Leaves, settle, results, Tryz.results106, go_sem, hn0, hn1]
 exact HBf
set_option maxHeartbeats 1000000 in
theorem read_some (s : ByteArray) (w : World) (u : Nat) (hs : s.size ≤ 1000000) (hn : sizeS (bs s) = some u) (hu : hexHead (bs s) = true ∨ u ≤ 9223372036854775807) :
  Calls Tryz.prog 106 #[.string s, .bool false] w fun e w' => e = .returned (.tuple #[.int .i64 (sint u), .int .i64 0]) ∧ Below w.heap.size w w' := by
 have hsz := fun w => size_any s w hs
 have hult := sizeS_lt hn
 rw [hn] at hsz
 obtain ⟨X, hX⟩ : ∃ X, sint u = X := ⟨_, rfl⟩
 rw [hX]
 have hcv : ∀ w, (convert 135 3 (.int .u64 u)).run Tryz.prog w = .ok (.int .i64 X) w := fun w => by
  rw [← hX, ← sint_wrap u hult]; simp [go_sem, IntKind.wrap_i64, wrap64]
 have HH : Hid (hexHead (bs s) = true ∨ u ≤ 9223372036854775807) := hu
 have HS := Lib.hid hsz
 clear hsz hu hn
 generalize hexHead (bs s) = hx at *
 have hult' := Lib.hid hult
 clear hult hX
 have hmf : ∀ (fn : Fn) (first cap : Array Value) (w : World), (Instr.makeFunc fn first cap).run Tryz.prog w = .ok (.func fn first cap) w := fun _ _ _ _ => rfl
 go_enter_defers Tryz.func106, Tryz.ntmps106
 go_wp2_with fail
 refine (HS.out _).mono ?_
 rintro e w1 ⟨he, hb1⟩
 simp only [] at he
 subst he
 have hbn := blk_below hb1 (by simp; omega) (blk_alloc (blk_new w (.cells #[.int .i64 0] 3)))
 have hbe := blk_below hb1 (by simp) (blk_new (w.alloc (.cells #[.int .i64 0] 3)) (.cells #[.int .i64 0] 25))
 simp only [World.size_alloc] at hbe
 have hB := hb1.mono (B' := w.heap.size) (by simp; omega)
 have HB := Lib.hid ((((Below.refl w.heap.size w).alloc (Nat.le_refl _) _).alloc (by simp) _).trans hB)
 obtain ⟨cn, fn⟩ := leaves_free w1 _ _ _ hbn
 obtain ⟨ce, fe⟩ := leaves_free w1 _ _ _ hbe
 clear hb1 hB hbn hbe
 have HSTEP : Hid (hx = true ∨ (hx = false ∧ ¬ (9223372036854775807 : Int) < u)) := by
  unfold Hid at *
  cases hx
  ·exact .inr ⟨rfl, by have := HH; simp at this; omega⟩
  ·exact .inl rfl
 rcases HSTEP.out with rfl | ⟨rfl, huz⟩
 all_goals
  clear HSTEP HH HS
  go_wp2_with fail
  refine leaves_cons (f := 120) (args := #[.pointer (some ⟨w.heap.size, 0, none⟩), .pointer (some ⟨w.heap.size + 1, 0, none⟩)]) (by simp) (by simp [go_sem]) ?_
  refine (catch_idle _ _ _).mono ?_
  rintro e u' w'' ⟨rfl, rfl, rfl⟩
  have hn0 : (((w1.setCell ⟨w.heap.size, 0, none⟩ (.int .i64 X)).setCell ⟨w.heap.size, 0, none⟩ (.int .i64 X)).setCell ⟨w.heap.size + 1, 0, none⟩ (.int .i64 0)).cell? ⟨w.heap.size, 0, none⟩ = some (.int .i64 X) := by
   rw [World.cell?_setCell_other _ _ _ _ (by simp)]
   exact World.cell?_setCell_same _ _ _ (World.cell?_setCell_same _ _ _ cn)
  have hn1 : (((w1.setCell ⟨w.heap.size, 0, none⟩ (.int .i64 X)).setCell ⟨w.heap.size, 0, none⟩ (.int .i64 X)).setCell ⟨w.heap.size + 1, 0, none⟩ (.int .i64 0)).cell? ⟨w.heap.size + 1, 0, none⟩ = some (.int .i64 0) :=
   World.cell?_setCell_same _ _ _ ((World.cell?_setCell_other _ _ _ _ (by simp)).trans ((World.cell?_setCell_other _ _ _ _ (by simp)).trans ce))
  have HBf := ((HB.out.setCell (p := ⟨w.heap.size, 0, none⟩) (Nat.le_refl _) (.int .i64 X)).setCell (p := ⟨w.heap.size, 0, none⟩) (Nat.le_refl _) (.int .i64 X)).setCell (p := ⟨w.heap.size + 1, 0, none⟩) (by simp) (.int .i64 0)
  generalize ((w1.setCell ⟨w.heap.size, 0, none⟩ (.int .i64 X)).setCell ⟨w.heap.size, 0, none⟩ (.int .i64 X)).setCell ⟨w.heap.size + 1, 0, none⟩ (.int .i64 0) = w9 at *
  simp [Leaves, settle, results, Tryz.results106, go_sem, hn0, hn1]
  exact HBf
theorem read_any (s : ByteArray) (w : World) (hs : s.size ≤ 1000000) :
  Calls Tryz.prog 106 #[.string s, .bool false] w fun e w' => e = .returned (.tuple #[.int .i64 (parseF (bs s)).1, .int .i64 (parseF (bs s)).2]) ∧ Below w.heap.size w w' := by
 rw [parseF_eq]
 cases hn : sizeS (bs s) with
 | none => exact read_none s false w hs hn
 | some u =>
  simp only []
  by_cases hx : hexHead (bs s) = true
  ·rw [hx]
   exact read_some s w u hs hn (.inl hx)
  ·have hx' : hexHead (bs s) = false := Bool.eq_false_iff.2 hx
   rw [hx']
   by_cases hu : 9223372036854775807 < u
   ·simp only [Bool.not_false, Bool.true_and, decide_eq_true (show u > 9223372036854775807 from hu), if_true]
    exact read_big s w u hs hn hx' hu
   ·simp only [Bool.not_false, Bool.true_and, decide_eq_false (show ¬ u > 9223372036854775807 from hu), Bool.false_eq_true, if_false]
    exact read_some s w u hs hn (.inr (by omega))
theorem parse_any (s : ByteArray) (w : World) (hs : s.size ≤ 1000000) :
  Calls Tryz.prog 83 #[.string s] w fun e w' => e = .returned (.tuple #[.int .i64 (parseF (bs s)).1, .int .i64 (parseF (bs s)).2]) ∧ Below w.heap.size w w' := by
 have hr := fun w => read_any s w hs
 generalize parseF (bs s) = R at *
 have HR := Lib.hid hr
 clear hr
 go_enter Tryz.func83, Tryz.ntmps83
 go_wp2_with fail
 refine (HR.out _).mono ?_
 rintro e w' ⟨rfl, hb⟩
 go_wp2_with fail
 go_ret2
 exact ⟨rfl, hb⟩
end Go.Proofs.YtidiahkobapnjaaGreatDoor
namespace Go.Proofs.YtidiahkobapnjaaGreatDoor
open Go Go.RowKit Lx
theorem sizeBuilder : (Tryz.prog.info? 87).map (·.size) = some 2 := by kernel_rfl
theorem liesBuilder : liesAt Tryz.prog Tryz.prog.depth 87 (2 / Tryz.prog.cellsOf 87) 0 87 1 = true := by kernel_rfl
theorem infoByte : (Tryz.prog.info? 5).map (fun i => (i.zero, i.size, i.bytes)) = some (some (.int .u8 0), 1, 1) := by kernel_rfl
set_option maxHeartbeats 1000000 in
set_option maxRecDepth 100000 in
theorem check_used (b : Nat) (w : World) (h0 : w.cell? ⟨b, 0, none⟩ = some (.pointer (some ⟨b, 0, none⟩))) :
  Calls Tryz.prog 111 #[.pointer (some ⟨b, 0, none⟩)] w fun e w' => e = .returned (.tuple #[]) ∧ w = w' := by
 obtain ⟨j, hj, _⟩ := Option.map_eq_some_iff.1 sizeBuilder
 go_enter Tryz.func111, Tryz.ntmps111
 go_wp2
 rw [Lib.run_neq_ptr_same w _ Tryz.underlying84 hj]
 go_wp2
 go_end0
 exact ⟨rfl, rfl⟩
set_option maxHeartbeats 1000000 in
set_option maxRecDepth 100000 in
theorem check_fresh (b : Nat) (w : World) (h0 : w.cell? ⟨b, 0, none⟩ = some (.pointer none)) (hsh : w.shape? b = some (87, 2)) (hfz : w.frozen? ⟨b, 0, none⟩ = false) :
  Calls Tryz.prog 111 #[.pointer (some ⟨b, 0, none⟩)] w fun e w' => e = .returned (.tuple #[]) ∧ w.setCell ⟨b, 0, none⟩ (.pointer (some ⟨b, 0, none⟩)) = w' := by
 obtain ⟨j, hj, hjs⟩ := Option.map_eq_some_iff.1 sizeBuilder
 go_enter Tryz.func111, Tryz.ntmps111
 go_wp2
 rw [Lib.run_to_unsafe w ⟨b, 0, none⟩ Tryz.underlying84 Tryz.underlying144 hj (by rw [hjs]; decide) hsh (Nat.zero_lt_succ 1)]
 simp only [Result.andThen]
 rw [Oper.upon_value]
 go_wp2
 rw [run_callFunc_extern Tryz.func123 (by kernel_rfl) (by kernel_rfl) (by kernel_rfl) (e := Extern.AbiNoEscape.same) (by kernel_rfl)]
 rw [Lib.run_noEscape]
 simp only [Result.andThen]
 rw [Oper.upon_value]
 go_wp2
 rw [Lib.run_from_unsafe w ⟨b, 0, none⟩ Tryz.underlying144 Tryz.underlying84 hj hsh liesBuilder]
 simp only [Result.andThen]
 rw [Oper.upon_value]
 go_wp2
 go_end0
 exact ⟨rfl, rfl⟩
abbrev Bd (B b : Nat) (l : Bs) (w : World) : Prop := Lib.IsBuilder 87 5 B b (Lib.byteCells l) w
theorem byteCells_len (l : Bs) : (Lib.byteCells l).length = l.length := by simp [Lib.byteCells]
def Used (B b : Nat) (l : Bs) (w : World) : Prop := Lib.BuilderAt 87 5 B b (.pointer (some ⟨b, 0, none⟩)) (Lib.byteCells l) w
theorem check_any (B b : Nat) (l : Bs) (w : World) (h : Bd B b l w) :
  Calls Tryz.prog 111 #[.pointer (some ⟨b, 0, none⟩)] w fun e w' => e = .returned (.tuple #[]) ∧ Used B b l w' ∧ Below B w w' ∧ w'.heap.size = w.heap.size := by
 rcases h with h | h
 ·obtain ⟨hB, v, hb, ho, hne⟩ := h
  refine (check_fresh b w (by rw [blk_cell hb]; rfl) (by simp [World.shape?, hb]) (blk_free hb 0)).mono ?_
  rintro e w' ⟨rfl, rfl⟩
  refine ⟨rfl, ⟨hB, v, by rw [blk_set hb]; rfl, ⟨ho.1, ?_⟩, hne⟩, (Below.refl B w).setCell hB _, by simp⟩
  rcases ho.2 with h | ⟨g, cap, cur, hv, hg, hh, r⟩
  ·exact .inl h
  ·refine .inr ⟨g, cap, cur, hv, hg, blk_set_ne hh (fun e => ?_) _, r⟩
   subst hv
   exact hne (congrArg some e.symm)
 ·have h' := h
  obtain ⟨hB, v, hb, ho, hne⟩ := h
  refine (check_used b w (by rw [blk_cell hb]; rfl)).mono ?_
  rintro e w' ⟨rfl, rfl⟩
  exact ⟨rfl, h', Below.refl _ _, rfl⟩
set_option maxHeartbeats 1000000 in
set_option maxRecDepth 100000 in
theorem wbyte_any (B b : Nat) (l : Bs) (c : UInt8) (w : World) (h : Bd B b l w) (hlen : l.length ≤ 1000000) (hBw : B ≤ w.heap.size) :
    Calls Tryz.prog 86 #[.pointer (some ⟨b, 0, none⟩), .int .u8 c.toNat] w fun e w' => e = .returned .nilIface ∧ Bd B b (l ++ [c]) w' ∧ Below B w w' := by
  have HC := Lib.hid (check_any B b l w h)
  clear h
  obtain ⟨i0, hi, hz0, hz1, hz2⟩ := info_parts infoByte
  go_enter Tryz.func86, Tryz.ntmps86
  go_wp2_with fail
  refine HC.out.mono ?_
  rintro e w1 ⟨rfl, hu, hb1, hsz⟩
  obtain ⟨hB, v, hblk, hown, hne⟩ := hu
  have hlt := blk_lt hblk
  have c1 : w1.cell? ⟨b, 1, none⟩ = some v := by rw [blk_cell hblk]; rfl
  have HB := Lib.hid hblk
  have HB1 := Lib.hid hb1
  have hB1 : B ≤ w1.heap.size := by have := hb1.size; omega
  have HSZ := Lib.hid hsz
  clear hblk hb1 hsz
  go_wp2_with (
    (at_builtin
     refine wpList_append_own _ rfl _ _ 85 rfl B 5 i0 _ 1 1 Tryz.underlying85 hi hz0 hz1 hz2 rfl (by decide) v _ _ rfl (hown.alloc _) ⟨w1.heap.size, 0, none⟩ 1 1 [.int .u8 c.toNat] rfl rfl ?_ ?_ ?_ ?_ ?_ ?_
     · exact new_cells' w1 _ _
     · simp [Value.oneCell']
     · rw [byteCells_len]; unfold maxLen; omega
     · rw [byteCells_len]; omega
     · simp; omega
     intro v2 w2 hown2 hgr2 _
     have HB2 := Lib.hid (blk_grown hgr2 hne (blk_alloc HB.out))
     rw [byteCells_len] at hown2
     obtain ⟨g2, cap2, hv2, hg2, hne2⟩ := owns_shape hown2 HB2.out (by decide)
     rw [hv2]
     have d1 : w2.cell? ⟨b, 1, none⟩ = some v := by rw [blk_cell HB2.out]; rfl
     have e1 := blk_free HB2.out 1
     have HO := Lib.hid hown2
     have HG := Lib.hid hgr2
     have HV := Lib.hid hv2
     clear hown2 hgr2 hv2 c1))
  go_ret
  have hb2 := ((Below.refl B w1).alloc hB1 _).grown HG.out (by simp; omega) (fun k hk => (hown.lt k hk).1)
  refine ⟨rfl, .inr ⟨hB, .slice (some ⟨g2, 0, none⟩) (l.length + 1) cap2, ?_, ?_, fun h => hne2 (Option.some.inj h)⟩, HB1.out.trans (hb2.setCell hB _)⟩
  · rw [blk_set HB2.out 1 _]; simp
  · have ho := HO.out
    rw [HV.out] at ho
    have e : Lib.byteCells (l ++ [c]) = Lib.byteCells l ++ [.int .u8 c.toNat] := by simp [Lib.byteCells]
    rw [byteCells_len, List.length_append, List.length_singleton, e]
    refine ⟨ho.1, ?_⟩
    rcases ho.2 with ⟨h, _⟩ | ⟨g, cap, cur, hv, hg, hh, r⟩
    · cases h
    · cases hv
      exact .inr ⟨g2, cap2, cur, rfl, hg, blk_set_ne hh (fun h => hne2 h.symm) _, r⟩
set_option maxHeartbeats 1000000 in
set_option maxRecDepth 100000 in
theorem wstring_any (B b : Nat) (l : Bs) (s : ByteArray) (w : World) (h : Bd B b l w) (hlen : l.length ≤ 1000000000) (hs : s.size ≤ 1000000000) (hBw : B ≤ w.heap.size) :
    Calls Tryz.prog 98 #[.pointer (some ⟨b, 0, none⟩), .string s] w fun e w' => e = .returned (.tuple #[.int .i64 s.size, .nilIface]) ∧ Bd B b (l ++ bs s) w' ∧ Below B w w' := by
  have HC := Lib.hid (check_any B b l w h)
  clear h
  obtain ⟨i0, hi, hz0, hz1, hz2⟩ := info_parts infoByte
  go_enter Tryz.func98, Tryz.ntmps98
  go_wp2_with fail
  refine HC.out.mono ?_
  rintro e w1 ⟨rfl, hu, hb1, hsz⟩
  obtain ⟨hB, v, hblk, hown, hne⟩ := hu
  have hlt := blk_lt hblk
  have c1 : w1.cell? ⟨b, 1, none⟩ = some v := by rw [blk_cell hblk]; rfl
  have HB := Lib.hid hblk
  have HB1 := Lib.hid hb1
  have hB1 : B ≤ w1.heap.size := by have := hb1.size; omega
  have HSZ := Lib.hid hsz
  clear hblk hb1 hsz
  go_wp2_with (
    (at_builtin
     refine Lib.wpList_append_own_string _ rfl _ _ 85 9 rfl B 5 i0 Tryz.underlying85 Tryz.underlying9 hi hz0 hz1 hz2 _ _ _ rfl hown s rfl ?_ ?_ ?_ ?_
     · rw [byteCells_len]; unfold maxLen; omega
     · rw [byteCells_len]; omega
     · exact hB1
     intro v2 w2 hown2 hgr2 _
     have HB2 := Lib.hid (blk_grown hgr2 hne HB.out)
     rw [byteCells_len] at hown2
     obtain ⟨ao, n2, cap2, hv2, hne2⟩ : ∃ ao n' cap, v2 = .slice ao n' cap ∧ v2.ownBlock ≠ some b := by
       rcases hown2.2 with ⟨hv, _⟩ | ⟨g, cap, cur, hv, hg, hh, _⟩
       · exact ⟨_, _, _, hv, by rw [hv]; simp [Value.ownBlock]⟩
       · refine ⟨_, _, _, hv, ?_⟩
         rw [hv]
         intro h
         have hgb : g = b := Option.some.inj h
         subst hgb
         have := HB2.out
         rw [hh] at this
         cases this
     rw [hv2]
     have d1 : w2.cell? ⟨b, 1, none⟩ = some v := by rw [blk_cell HB2.out]; rfl
     have e1 := blk_free HB2.out 1
     have HO := Lib.hid hown2
     have HG := Lib.hid hgr2
     have HV := Lib.hid hv2
     have HNE := Lib.hid hne2
     clear hown2 hgr2 hv2 c1 hne2))
  go_ret2
  have hb2 := (Below.refl B w1).grown HG.out hB1 (fun k hk => (hown.lt k hk).1)
  have hne2 := HNE.out
  rw [HV.out] at hne2
  refine ⟨rfl, .inr ⟨hB, .slice ao n2 cap2, ?_, ?_, hne2⟩, HB1.out.trans (hb2.setCell hB _)⟩
  · rw [blk_set HB2.out 1 _]; simp
  · have ho := HO.out
    rw [HV.out] at ho
    have e : Lib.byteCells (l ++ bs s) = Lib.byteCells l ++ Lib.strCells s := by simp [Lib.byteCells, Lib.strCells, bs]
    rw [byteCells_len, List.length_append, bs_length, e]
    refine ⟨ho.1, ?_⟩
    rcases ho.2 with h | ⟨g, cap, cur, hv, hg, hh, r⟩
    · exact .inl h
    · refine .inr ⟨g, cap, cur, hv, hg, blk_set_ne hh (fun h => ?_) _, r⟩
      rw [hv] at hne2
      exact hne2 (congrArg some h.symm)
theorem blen_any (B b : Nat) (l : Bs) (w : World) (h : Bd B b l w) :
  Calls Tryz.prog 84 #[.pointer (some ⟨b, 0, none⟩)] w fun e w' => e = .returned (.int .i64 l.length) ∧ w = w' := by
 obtain ⟨p, hB, v, hblk, hown, hne⟩ : ∃ p, B ≤ b ∧ ∃ v, w.heap[b]? = some (.cells #[p, v] 87) ∧ w.ownsRow B 5 1 v (Lib.byteCells l).length (Lib.byteCells l) ∧ v.ownBlock ≠ some b := by
  rcases h with ⟨h1, v, h2⟩ | ⟨h1, v, h2⟩
  ·exact ⟨_, h1, v, h2⟩
  ·exact ⟨_, h1, v, h2⟩
 obtain ⟨ao, cap, hv⟩ : ∃ ao cap, v = .slice ao l.length cap := by
  rcases hown.2 with ⟨hv, h0⟩ | ⟨g, cap, cur, hv, _⟩
  ·rw [byteCells_len] at h0; rw [h0]; exact ⟨_, _, hv⟩
  ·rw [byteCells_len] at hv; exact ⟨_, _, hv⟩
 have c1 : w.cell? ⟨b, 1, none⟩ = some (.slice ao l.length cap) := by rw [blk_cell hblk, ← hv]; rfl
 clear hblk hown hne hv h
 go_enter Tryz.func84, Tryz.ntmps84
 go_wp2
 go_ret
 exact ⟨rfl, rfl⟩
end Go.Proofs.YtidiahkobapnjaaGreatDoor
namespace Go.Proofs.YtidiahkobapnjaaGreatDoor
open Go Go.RowKit Lx
theorem prefix_any (s : ByteArray) (p : Bs) (w : World) : Calls Tryz.prog 50 #[.string s, .string (str p)] w fun e w' => e = .returned (.bool (p.isPrefixOf (bs s))) ∧ w = w' :=
 (Tryz.strings_HasPrefix s (str p) w).mono fun _ _ ⟨h1, h2⟩ => ⟨by rw [h1]; simp [str, bs, Lib.hasPrefix], h2.symm⟩
def EscEnd (r : Esc) (at_ i C bb : Nat) (acc : Bs) (w : World) (e : Ending) (w' : World) : Prop :=
 match r with
 | .ended => e = failEnd 4 at_ ∧ Below C w w'
 | .unfit => e = failEnd 4 i ∧ Below C w w'
 | .ok b n => e = .returned (.int .i64 (i + n : Nat)) ∧ Bd C bb (acc ++ b) w' ∧ Below C w w'
theorem at_zero (R : ByteArray) (c : UInt8) (t : Bs) (h : bs R = c :: t) : ∃ h0 : 0 < R.size, R[0]'h0 = c := by
 have h0 : 0 < R.size := by rw [← bs_length, h]; simp
 refine ⟨h0, ?_⟩
 have := drop_at R 0 h0
 rw [List.drop_zero, h] at this
 exact (List.cons.inj this).1.symm
theorem nonempty_of (R : ByteArray) (c : UInt8) (t : Bs) (h : bs R = c :: t) : R.toList.isEmpty = false := by
 rw [Lib.toList_data]
 show (bs R).isEmpty = false
 rw [h]; rfl
section
variable (sb at_ i C bb : Nat) (src : ByteArray) (acc : Bs) (w : World)
set_option maxHeartbeats 1000000 in
set_option maxRecDepth 100000 in
theorem esc_ended (hb : sb < w.heap.size) (c0 : w.cell? ⟨sb, 0, none⟩ = some (.string src)) (c1 : w.cell? ⟨sb, 1, none⟩ = some (.int .i64 at_)) (hi : i + 1 = src.size) (hs : src.size ≤ 1000000) :
  Calls Tryz.prog 85 #[.pointer (some ⟨sb, 0, none⟩), .pointer (some ⟨bb, 0, none⟩), .int .i64 i] w (EscEnd .ended at_ i C bb acc w) := by
 have h1 : (i : Int) + 1 ≤ src.size := by omega
 have h2 : ((i : Int) + 1).toNat = i + 1 := by omega
 have he : (src.extract (i + 1) src.size).toList.isEmpty = true := by
  rw [Lib.toList_data]; show (bs _).isEmpty = true; rw [bs_tail, List.drop_of_length_le (by rw [bs_length]; omega)]; rfl
 clear hi
 go_enter Tryz.func85, Tryz.ntmps85
 go_wp2_with fail
 refine (fail_any _ _ _).mono ?_
 rintro e w' ⟨rfl, rfl⟩
 go_wp2_with fail
 exact ⟨rfl, rfl, by first | exact Below.refl _ _ | exact (Below.refl _ _).drew⟩
set_option maxHeartbeats 1000000 in
set_option maxRecDepth 100000 in
theorem esc_plain (c : UInt8) (t : Bs) (hb : sb < w.heap.size) (c0 : w.cell? ⟨sb, 0, none⟩ = some (.string src)) (hi : i + 1 ≤ src.size) (hs : src.size ≤ 1000000)
  (hl : (bs src).drop (i + 1) = c :: t) (hp : plainB c ≠ 0) (hB : Bd C bb acc w) (hacc : acc.length ≤ 1000000) (hC : C ≤ w.heap.size) :
  Calls Tryz.prog 85 #[.pointer (some ⟨sb, 0, none⟩), .pointer (some ⟨bb, 0, none⟩), .int .i64 i] w (EscEnd (.ok [plainB c] 2) at_ i C bb acc w) := by
 have h1 : (i : Int) + 1 ≤ src.size := by omega
 have h2 : ((i : Int) + 1).toNat = i + 1 := by omega
 have h3 : (i : Int) ≤ 1000000 := by omega
 have hR := bs_tail src (i + 1)
 rw [hl] at hR
 have HR0 := Lib.hid (at_zero _ c t hR)
 have he := nonempty_of _ c t hR
 have h0 := HR0.out.1
 have hc0 := HR0.out.2
 have hpi : ((plainB c).toNat : Int) ≠ 0 := fun h => hp (by apply UInt8.toNat_inj.1; rw [show (0 : UInt8).toNat = 0 from rfl]; omega)
 have hpn : (((plainB c).toNat : Int) != 0) = true := by rw [bne_iff_ne]; exact hpi
 have hq : 0 < src.size - (i + 1) := by have := congrArg List.length hl; rw [List.length_drop, bs_length] at this; simp at this; omega
 have HP := Lib.hid (plain_any c)
 have HW := Lib.hid (wbyte_any C bb acc (plainB c) w hB hacc hC)
 clear hl hR hp hpi hB
 go_enter Tryz.func85, Tryz.ntmps85
 go_wp2_with fail
 refine (HP.out _).mono ?_
 rintro e w' ⟨rfl, rfl⟩
 go_wp2_with fail
 refine (HP.out _).mono ?_
 rintro e w' ⟨rfl, rfl⟩
 go_wp2_with fail
 refine HW.out.mono ?_
 rintro e w' ⟨rfl, hb', hbel⟩
 go_wp2_with fail
 go_ret
 exact ⟨ret_int (by omega), hb', hbel⟩
theorem tail_one (s : ByteArray) (c : UInt8) (t : Bs) (h : bs s = c :: t) : bs (s.extract 1 s.size) = t := by
 rw [bs_tail, h]; rfl
theorem plain_zero (c : UInt8) (h : plainB c = 0) (w : World) : Calls Tryz.prog 107 #[.int .u8 c.toNat] w fun e w' => e = .returned (.int .u8 0) ∧ w = w' := by
 have := plain_any c w
 rw [h] at this
 exact this
theorem byte_conv (n : Nat) (h : n < 4294967296) (w : World) : (convert 3 5 (.int .i64 n)).run Tryz.prog w = .ok (.int .u8 (UInt8.ofNat n).toNat) w := by
 have e : IntKind.u8.wrap (n : Int) = ((UInt8.ofNat n).toNat : Int) := by unfold IntKind.wrap; simp [IntKind.bits, IntKind.signed]
 rw [← e]
 simp [go_sem]
set_option maxHeartbeats 1000000 in
set_option maxRecDepth 100000 in
theorem esc_x (t : Bs) (hb : sb < w.heap.size) (c0 : w.cell? ⟨sb, 0, none⟩ = some (.string src)) (hi : i + 1 ≤ src.size) (hs : src.size ≤ 1000000)
  (hl : (bs src).drop (i + 1) = 120 :: t) (hB : Bd C bb acc w) (hacc : acc.length ≤ 1000000) (hC : C ≤ w.heap.size) :
  Calls Tryz.prog 85 #[.pointer (some ⟨sb, 0, none⟩), .pointer (some ⟨bb, 0, none⟩), .int .i64 i] w
   (EscEnd (if (hexG 2 t 0 0).2 < 2 then .unfit else .ok [UInt8.ofNat (hexG 2 t 0 0).1] 4) at_ i C bb acc w) := by
 obtain ⟨c, hcc⟩ : ∃ c : UInt8, c = 120 := ⟨_, rfl⟩
 rw [← hcc] at hl
 have h1 : (i : Int) + 1 ≤ src.size := by omega
 have h2 : ((i : Int) + 1).toNat = i + 1 := by omega
 have h3 : (i : Int) ≤ 1000000 := by omega
 have hR := bs_tail src (i + 1)
 rw [hl] at hR
 have HR0 := Lib.hid (at_zero _ c t hR)
 have he := nonempty_of _ c t hR
 have h0 := HR0.out.1
 have hc0 := HR0.out.2
 have hq : 0 < src.size - (i + 1) := by have := congrArg List.length hl; rw [List.length_drop, bs_length] at this; simp at this; omega
 have HP := Lib.hid (fun w => plain_any c w)
 clear HP
 have HP := Lib.hid (fun w => plain_zero c (by rw [hcc]; rfl) w)
 have hcz : c.toNat = 120 := by rw [hcc]; rfl
 rw [hcz] at HP
 have hc1 : ((src.extract (i + 1) src.size)[0]'h0).toNat = 120 := by rw [hc0, hcz]
 clear hc0
 have hts : (src.extract (i + 1) src.size).size = src.size - (i + 1) := by rw [← bs_length, bs_tail, List.length_drop, bs_length]
 have HH := Lib.hid (fun w => hex_any ((src.extract (i + 1) src.size).extract 1 (src.extract (i + 1) src.size).size) 2 w (by omega) (by rw [← bs_length, bs_tail, List.length_drop, bs_length, hts]; omega))
 rw [tail_one _ c t hR, hts] at HH
 have hle := hexG_le 2 t 0 0 (by omega)
 have hpw := pow16_le (show (hexG 2 t 0 0).2 ≤ 8 by omega)
 have hn1 : (hexG 2 t 0 0).1 < 4294967296 := by omega
 clear hle hpw
 generalize hexG 2 t 0 0 = G at *
 obtain ⟨N, K⟩ := G
 clear hl hR hcc hts
 have hcv := fun w => byte_conv N hn1 w
 have HW := Lib.hid (wbyte_any C bb acc (UInt8.ofNat N) w hB hacc hC)
 clear hB hn1
 generalize UInt8.ofNat N = U at *
 by_cases hK : K < 2
 ·have hkz : (K : Int) < 2 := by omega
  simp only [hK, if_true]
  clear hK
  go_enter Tryz.func85, Tryz.ntmps85
  go_wp2_with fail
  refine (HP.out _).mono ?_
  rintro e w' ⟨rfl, rfl⟩
  go_wp2_with fail
  refine (HH.out _).mono ?_
  rintro e w' ⟨rfl, rfl⟩
  go_wp2_with fail
  refine (unfit_any _ _ _).mono ?_
  rintro e w' ⟨rfl, rfl⟩
  go_wp2_with fail
  exact ⟨rfl, rfl, by first | exact Below.refl _ _ | exact (Below.refl _ _).drew⟩
 ·have hkz : ¬ (K : Int) < 2 := by omega
  simp only [hK, if_false]
  clear hK
  go_enter Tryz.func85, Tryz.ntmps85
  go_wp2_with fail
  refine (HP.out _).mono ?_
  rintro e w' ⟨rfl, rfl⟩
  go_wp2_with fail
  refine (HH.out _).mono ?_
  rintro e w' ⟨rfl, rfl⟩
  go_wp2_with fail
  refine HW.out.mono ?_
  rintro e w' ⟨rfl, hb', hbel⟩
  go_wp2_with fail
  go_ret
  exact ⟨ret_int (by omega), hb', hbel⟩
end
end Go.Proofs.YtidiahkobapnjaaGreatDoor
namespace Go.Proofs.YtidiahkobapnjaaGreatDoor
open Go Go.RowKit Lx
theorem head_prefix (l : Bs) (c : UInt8) : [c].isPrefixOf l = decide (l.head? = some c) := by
 cases l with
 | nil => simp
 | cons b t =>
  show (c == b && ([] : Bs).isPrefixOf t) = decide (some b = some c)
  have : ([] : Bs).isPrefixOf t = true := by cases t <;> rfl
  rw [this, Bool.and_true]
  by_cases h : b = c
  ·subst h; simp
  ·simp [h]; exact fun e => h e.symm
theorem encode_size (r : Int) : (Utf8.encode r).size ≤ 4 := by
 unfold Utf8.encode
 simp only []
 generalize (if Utf8.valid r then r.toNat else Utf8.runeError) = c
 by_cases h1 : c < 128
 ·rw [if_pos h1]; show 1 ≤ 4; omega
 ·rw [if_neg h1]
  by_cases h2 : c < 2048
  ·rw [if_pos h2]; show 2 ≤ 4; omega
  ·rw [if_neg h2]
   by_cases h3 : c < 65536
   ·rw [if_pos h3]; show 3 ≤ 4; omega
   ·rw [if_neg h3]; show 4 ≤ 4; omega
section
variable (sb at_ i C bb : Nat) (src : ByteArray) (acc : Bs) (w : World)
set_option maxHeartbeats 1000000 in
set_option maxRecDepth 100000 in
theorem esc_u (t : Bs) (hb : sb < w.heap.size) (c0 : w.cell? ⟨sb, 0, none⟩ = some (.string src)) (hi : i + 1 ≤ src.size) (hs : src.size ≤ 1000000)
  (hl : (bs src).drop (i + 1) = 117 :: 123 :: t) (hB : Bd C bb acc w) (hacc : acc.length ≤ 1000000) (hC : C ≤ w.heap.size) :
  Calls Tryz.prog 85 #[.pointer (some ⟨sb, 0, none⟩), .pointer (some ⟨bb, 0, none⟩), .int .i64 i] w
   (EscEnd (if (hexG 8 t 0 0).2 = 0 ∨ Utf8.valid (hexG 8 t 0 0).1 = false ∨ (t.drop (hexG 8 t 0 0).2).head? ≠ some 125 then .unfit
    else .ok (bs (Utf8.encode (hexG 8 t 0 0).1)) (4 + (hexG 8 t 0 0).2)) at_ i C bb acc w) := by
 have h1 : (i : Int) + 1 ≤ src.size := by omega
 have h2 : ((i : Int) + 1).toNat = i + 1 := by omega
 have h3 : (i : Int) ≤ 1000000 := by omega
 have hR := bs_tail src (i + 1)
 rw [hl] at hR
 have HR0 := Lib.hid (at_zero _ _ _ hR)
 have he := nonempty_of _ _ _ hR
 have h0 := HR0.out.1
 have hc0 := HR0.out.2
 have hlen := congrArg List.length hl
 rw [List.length_drop, bs_length] at hlen
 simp only [List.length_cons] at hlen
 have hq : 0 < src.size - (i + 1) := by omega
 have hq2 : 2 ≤ src.size - (i + 1) := by omega
 have HP := Lib.hid (fun w => plain_zero 117 (by rfl) w)
 have hc1 : ((src.extract (i + 1) src.size)[0]'h0).toNat = 117 := by rw [hc0]; rfl
 clear hc0
 have hts : (src.extract (i + 1) src.size).size = src.size - (i + 1) := by rw [← bs_length, bs_tail, List.length_drop, bs_length]
 have hb2 : bs ((src.extract (i + 1) src.size).extract 2 (src.size - (i + 1))) = t := by
  rw [← hts, bs_tail, hR]; rfl
 have HPU := Lib.hid (fun w => prefix_any (src.extract (i + 1) src.size) [117, 123] w)
 rw [hR, show ([117, 123] : Bs).isPrefixOf (117 :: 123 :: t) = true by simp] at HPU
 have HH := Lib.hid (fun w => hex_any ((src.extract (i + 1) src.size).extract 2 (src.size - (i + 1))) 8 w (by omega) (by rw [← bs_length, hb2]; omega))
 rw [hb2] at HH
 have hle := hexG_le 8 t 0 0 (by omega)
 have hpw := pow16_le (show (hexG 8 t 0 0).2 ≤ 8 by omega)
 have hn1 : (hexG 8 t 0 0).1 ≤ 4294967296 := by omega
 have hk1 : (hexG 8 t 0 0).2 ≤ t.length := by omega
 have hk8 : (hexG 8 t 0 0).2 ≤ 8 := by omega
 have hb3 : bs ((src.extract (i + 1) src.size).extract (2 + (hexG 8 t 0 0).2) (src.size - (i + 1))) = t.drop (hexG 8 t 0 0).2 := by
  rw [← hts, bs_tail, hR, Nat.add_comm 2]; rfl
 have HPB := Lib.hid (fun w => prefix_any ((src.extract (i + 1) src.size).extract (2 + (hexG 8 t 0 0).2) (src.size - (i + 1))) [125] w)
 rw [hb3, head_prefix] at HPB
 clear hle hpw hb3 hb2
 generalize hexG 8 t 0 0 = G at *
 obtain ⟨N, K⟩ := G
 simp only at hn1 hk1 hk8 HPB HH ⊢
 have HE := Lib.hid (fun w => encode_any N w (by omega) (by omega))
 have HW := Lib.hid (fun w hB' hC' => wstring_any C bb acc (Utf8.encode N) w hB' (by omega) (by have := encode_size N; omega) hC')
 have HBD := Lib.hid hB
 have hkz1 : (K : Int) + 2 ≤ ((src.size - (i + 1) : Nat) : Int) := by omega
 have hkz8 : (K : Int) ≤ 8 := by omega
 clear hl hR hlen hB hk1 hts
 by_cases hK : K = 0
 ·have hK' : ((K : Int) == 0) = true := by rw [beq_iff_eq]; omega
  rw [if_pos (.inl hK)]
  clear hK
  obtain ⟨T, E, HE⟩ : ∃ T E, Hid (∀ w, Calls Tryz.prog 110 #[.int .i64 N] w fun e w' => e = .returned (.tuple #[.string T, .int .i64 E]) ∧ w = w') := ⟨_, _, HE⟩
  go_enter Tryz.func85, Tryz.ntmps85
  go_wp2_with fail
  refine (HP.out _).mono ?_
  rintro e w' ⟨rfl, rfl⟩
  go_wp2_with fail
  refine (HPU.out _).mono ?_
  rintro e w' ⟨rfl, rfl⟩
  go_wp2_with fail
  refine (HH.out _).mono ?_
  rintro e w' ⟨rfl, rfl⟩
  go_wp2_with fail
  refine (HE.out _).mono ?_
  rintro e w' ⟨rfl, rfl⟩
  go_wp2_with fail
  refine (unfit_any _ _ _).mono ?_
  rintro e w' ⟨rfl, rfl⟩
  go_wp2_with fail
  exact ⟨rfl, rfl, by first | exact Below.refl _ _ | exact (Below.refl _ _).drew⟩
 ·have hK' : ((K : Int) == 0) = false := by rw [beq_eq_false_iff_ne]; omega
  cases hv : Utf8.valid (N : Int) with
  | false =>
   rw [if_pos (.inr (.inl rfl))]
   rw [hv] at HE
   simp only [Bool.false_eq_true, if_false] at HE
   clear hv
   go_enter Tryz.func85, Tryz.ntmps85
   go_wp2_with fail
   refine (HP.out _).mono ?_
   rintro e w' ⟨rfl, rfl⟩
   go_wp2_with fail
   refine (HPU.out _).mono ?_
   rintro e w' ⟨rfl, rfl⟩
   go_wp2_with fail
   refine (HH.out _).mono ?_
   rintro e w' ⟨rfl, rfl⟩
   go_wp2_with fail
   refine (HE.out _).mono ?_
   rintro e w' ⟨rfl, rfl⟩
   go_wp2_with fail
   refine (unfit_any _ _ _).mono ?_
   rintro e w' ⟨rfl, rfl⟩
   go_wp2_with fail
   exact ⟨rfl, rfl, by first | exact Below.refl _ _ | exact (Below.refl _ _).drew⟩
  | true =>
   rw [hv] at HE
   simp only [if_true] at HE
   clear hv
   by_cases hd : (t.drop K).head? = some 125
   ·rw [decide_eq_true hd] at HPB
    rw [if_neg (by rintro (h | h | h); exact hK h; cases h; exact h hd)]
    clear hd
    go_enter Tryz.func85, Tryz.ntmps85
    go_wp2_with fail
    refine (HP.out _).mono ?_
    rintro e w' ⟨rfl, rfl⟩
    go_wp2_with fail
    refine (HPU.out _).mono ?_
    rintro e w' ⟨rfl, rfl⟩
    go_wp2_with fail
    refine (HH.out _).mono ?_
    rintro e w' ⟨rfl, rfl⟩
    go_wp2_with fail
    refine (HE.out _).mono ?_
    rintro e w' ⟨rfl, rfl⟩
    go_wp2_with fail
    refine (HPB.out _).mono ?_
    rintro e w' ⟨rfl, rfl⟩
    go_wp2_with fail
    refine (HW.out _ HBD.out hC).mono ?_
    rintro e w' ⟨rfl, hb', hbel⟩
    go_wp2_with fail
    go_ret
    exact ⟨ret_int (by omega), hb', hbel⟩
   ·rw [decide_eq_false hd] at HPB
    rw [if_pos (.inr (.inr hd))]
    clear hd
    go_enter Tryz.func85, Tryz.ntmps85
    go_wp2_with fail
    refine (HP.out _).mono ?_
    rintro e w' ⟨rfl, rfl⟩
    go_wp2_with fail
    refine (HPU.out _).mono ?_
    rintro e w' ⟨rfl, rfl⟩
    go_wp2_with fail
    refine (HH.out _).mono ?_
    rintro e w' ⟨rfl, rfl⟩
    go_wp2_with fail
    refine (HE.out _).mono ?_
    rintro e w' ⟨rfl, rfl⟩
    go_wp2_with fail
    refine (HPB.out _).mono ?_
    rintro e w' ⟨rfl, rfl⟩
    go_wp2_with fail
    refine (unfit_any _ _ _).mono ?_
    rintro e w' ⟨rfl, rfl⟩
    go_wp2_with fail
    exact ⟨rfl, rfl, by first | exact Below.refl _ _ | exact (Below.refl _ _).drew⟩
end
end Go.Proofs.YtidiahkobapnjaaGreatDoor
