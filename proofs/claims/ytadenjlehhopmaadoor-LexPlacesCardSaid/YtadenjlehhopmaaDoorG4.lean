/- Printed by a program of mine (wip/mk.py): functions with the same answers as the Go code, and the proof of it. -/
import Derived.Test.YtadenjlehhopmaaDoorG2
import Derived.Test.YtadenjlehhopmaaDoorG3
namespace Go.Proofs.YtadenjlehhopmaaDoor
open Go Go.RowKit
set_option linter.unusedSimpArgs false
set_option linter.unusedVariables false
def e50 (x : Int × ByteArray × Int × Int) : List Value := [.int .i64 x.1, .string x.2.1, .int .i64 x.2.2.1, .int .i64 x.2.2.2]
theorem e50_ok : EncOk e50 4 := ⟨fun _ => rfl, fun _ => rfl⟩
theorem ety28 : ElemTy Tryd.prog 28 50 4 40 Tryd.t50 (.agg #[.int .i64 (0 : Int), .string (⟨#[]⟩ : ByteArray), .int .i64 (0 : Int), .int .i64 (0 : Int)]) := ⟨by kernel_rfl, by kernel_rfl, by kernel_rfl, by kernel_rfl, by kernel_rfl, by kernel_rfl, by decide⟩
def r11_Scan.l1 : Nat → (a0 : ByteArray) → (J29 : Int → Option (List (Int × ByteArray × Int × Int) × Int × Int)) → (x30 : Int) → Option (List (Int × ByteArray × Int × Int) × Int × Int)
  | 0, _, _, _ => none
  | m31 + 1, a0, J29, x30 => (cond (decide (x30 < (a0.size : Int))) ((sIdx a0 x30).bind fun c35 : UInt8 => some ((c35.toNat : Int) != (10 : Int))) (some false) : Option Bool).bind fun q32 => cond q32 (r11_Scan.l1 m31 a0 J29 (IntKind.i64.wrap (x30 + (1 : Int)))) (J29 x30)
def r11_Scan.l0 : Nat → (a0 : ByteArray) → (J8 : (List (Int × ByteArray × Int × Int)) → Option (List (Int × ByteArray × Int × Int) × Int × Int)) → (l15 : List (Int × ByteArray × Int × Int)) → (x20 : Int) → Option (List (Int × ByteArray × Int × Int) × Int × Int)
  | 0, _, _, _, _ => none
  | m21 + 1, a0, J8, l15, x20 => cond (decide (x20 < (a0.size : Int))) ((sIdx a0 x20).bind fun c23 : UInt8 => (cond ((c23.toNat : Int) == (32 : Int)) (some true) (cond ((c23.toNat : Int) == (9 : Int)) (some true) (cond ((c23.toNat : Int) == (10 : Int)) (some true) (some ((c23.toNat : Int) == (13 : Int))))) : Option Bool).bind fun q24 => cond q24 (r11_Scan.l0 m21 a0 J8 l15 (IntKind.i64.wrap (x20 + (1 : Int)))) ((cond ((c23.toNat : Int) == (45 : Int)) (cond (decide ((IntKind.i64.wrap (x20 + (1 : Int))) < (a0.size : Int))) ((sIdx a0 (IntKind.i64.wrap (x20 + (1 : Int)))).bind fun c74 : UInt8 => some ((c74.toNat : Int) == (45 : Int))) (some false)) (some false) : Option Bool).bind fun q26 => cond q26 (joinF (fun (x28 : Int) => r11_Scan.l0 m21 a0 J8 l15 x28) (fun J29 => r11_Scan.l1 m21 a0 J29 x20)) ((r01_At.f m21 a0 x20).bind fun r36 => joinF (fun (x39 : Int) (x40 : Int) (x41 : ByteArray) (x42 : Int) => (apd 40 l15 [(x40, x41, x42, x20)]).bind fun l45 => r11_Scan.l0 m21 a0 J8 l45 (IntKind.i64.wrap (x20 + x39))) (fun J43 => (r01_Letter.f m21 r36.2.2).bind fun r50 => cond r50 ((r11_names.f m21 a0 x20).bind fun r52 => cond (decide (r52 > (40 : Int))) (some ([], (14 : Int), x20)) ((sSub a0 x20 (IntKind.i64.wrap (x20 + r52))).bind fun s54 : ByteArray => (r11_IsWord.f m21 s54).bind fun r55 => cond r55 (J43 r52 (2 : Int) s54 (0 : Int)) (J43 r52 (1 : Int) s54 (0 : Int)))) ((r01_Digit.f m21 r36.2.2).bind fun r57 => cond r57 ((r11_names.f m21 a0 x20).bind fun r59 => (sSub a0 x20 (IntKind.i64.wrap (x20 + r59))).bind fun s60 : ByteArray => (r02_Parse.f m21 s60).bind fun r61 => cond (r61.2 != (0 : Int)) (some ([], r61.2, x20)) ((sSub a0 x20 (IntKind.i64.wrap (x20 + r59))).bind fun s63 : ByteArray => J43 r59 (3 : Int) s63 r61.1)) ((cond ((c23.toNat : Int) == (34 : Int)) (some true) (some ((c23.toNat : Int) == (39 : Int))) : Option Bool).bind fun q64 => cond q64 ((r11_text.f m21 a0 x20).bind fun r66 => cond (r66.2.2.1 != (0 : Int)) (some ([], r66.2.2.1, r66.2.2.2)) (J43 r66.2.1 (4 : Int) r66.1 (0 : Int))) ((r11_sign.f m21 a0 x20).bind fun r69 => cond ((r69.size : Int) == (0 : Int)) (some ([], (4 : Int), x20)) (J43 (r69.size : Int) (5 : Int) r69 (0 : Int))))))))) (J8 l15)
def r11_Scan.f (k : Nat) (a0 : ByteArray) : Option (List (Int × ByteArray × Int × Int) × Int × Int) := cond (decide ((a0.size : Int) > (20000 : Int))) (some ([], (14 : Int), (-1 : Int))) (joinF (fun (l3 : List (Int × ByteArray × Int × Int)) => (apd 40 l3 [((6 : Int), (⟨#[]⟩ : ByteArray), (0 : Int), (a0.size : Int))]).bind fun l10 => some (l10, (0 : Int), (0 : Int))) (fun J8 => r11_Scan.l0 k a0 J8 ([]) (0 : Int)))
set_option maxRecDepth 100000 in
theorem r11_Scan.ok {k : Nat} {a0 : ByteArray} {r : List (Int × ByteArray × Int × Int) × Int × Int} (h : r11_Scan.f k a0 = some r) : Ct Tryd.prog 11 #[.string a0] [] [] (fun e l1 => ∃ (H0_ : Frag) (A0_ : Option Addr) (c0_ : Nat), OwnT e50 50 4 H0_ (.slice A0_ r.1.length c0_) r.1 ∧ e = .returned (.tuple #[.slice A0_ r.1.length c0_, .agg #[.int .i64 r.2.1, .int .i64 r.2.2]]) ∧ l1 = [H0_]) := by
  refine ct_enter (args := [.string a0]) Tryd.func11 rfl (Nat.le_of_ble_eq_true rfl) ?_
  intro A X hh_
  unfold r11_Scan.f at h
  refine k_seq ?_
  refine k_region ?_
  refine kl_steps 1 [(0, .string a0)] (by kernel_rfl) ?_
  refine kl_new (.cells #[.int .i64 (0 : Int), .int .i64 (0 : Int)] 25 (0, 0)) (fun b => .pointer (some ⟨b, 0, none⟩)) (by kernel_rfl) (by kernel_rfl) (fun _ => by kernel_rfl) fun b1 => ?_
  refine k_nil ?_
  refine k_then ?_
  refine k_seq ?_
  refine k_seq ?_
  refine k_region ?_
  refine kl_steps 3 [(0, .string a0), (3, .pointer (some ⟨b1, 0, none⟩)), (17, .bool (decide ((a0.size : Int) > (20000 : Int))))] (by kernel_rfl) ?_
  refine k_nil ?_
  refine k_then ?_
  refine k_cond (t := decide ((a0.size : Int) > (20000 : Int))) (by kernel_rfl) (fun t2 => ?_) (fun t2 => ?_)
  · have h := condT h t2
    refine k_seq ?_
    refine k_region ?_
    refine kl_steps 2 [(3, .pointer (some ⟨b1, 0, none⟩)), (18, .agg #[.int .i64 (14 : Int), .int .i64 (-1 : Int)]), (2, .slice none 0 0)] (by kernel_rfl) ?_
    refine kl_store (cs' := #[.int .i64 (14 : Int), .int .i64 (-1 : Int)]) [.st ⟨b1, 0, none⟩ (.int .i64 (14 : Int)), .st ⟨b1, 1, none⟩ (.int .i64 (-1 : Int))] (by kernel_rfl) (by kernel_rfl) (by kernel_rfl) ⟨rfl, rfl, trivial⟩ (by kernel_rfl) ?_
    refine k_nil ?_
    refine k_then ?_
    refine k_ret ?_
    refine k_then_ret ?_
    obtain rfl := Option.some.inj h
    refine k_done (v := .tuple #[.slice none 0 0, .agg #[.int .i64 (14 : Int), .int .i64 (-1 : Int)]]) [.val (.int .i64 (14 : Int)), .val (.int .i64 (-1 : Int))] [.ld ⟨b1, 0, none⟩ (.int .i64 (14 : Int)), .ld ⟨b1, 1, none⟩ (.int .i64 (-1 : Int))] [none_] (by kernel_rfl) (by kernel_rfl) ⟨⟨0, _, _, _, rfl, rfl, rfl⟩, ⟨0, _, _, _, rfl, rfl, rfl⟩, trivial⟩ ?_
    refine k_none ?_
    refine K.mv1 ?_
    refine K.drop ?_
    exact k_end ⟨none_, none, 0, (OwnT.nil e50 50 4 none_), rfl, rfl⟩
  · have h := condF h t2
    refine k_skip ?_
    refine k_then ?_
    refine k_seq ?_
    refine k_region ?_
    refine kl_steps 1 [(0, .string a0), (3, .pointer (some ⟨b1, 0, none⟩)), (4, .slice none 0 0)] (by kernel_rfl) ?_
    refine k_nil ?_
    refine k_then ?_
    obtain ⟨J8, hJ8, h⟩ := joinSplit h
    refine k_cut (τ := (List (Int × ByteArray × Int × Int)) × Frag × (Option Addr) × Nat) (fun t => [(0, .string a0), (3, .pointer (some ⟨b1, 0, none⟩)), (4, .slice t.2.2.1 t.1.length t.2.2.2)]) (fun t => blk b1 (.cells #[.int .i64 (0 : Int), .int .i64 (0 : Int)] 25 (0, 0)) :: t.2.1 :: X) (fun t => J8 t.1 = some r ∧ OwnT e50 50 4 t.2.1 (.slice t.2.2.1 t.1.length t.2.2.2) t.1) ?_ ?_
    · rintro ⟨l3, h4, A5, k6⟩ ⟨h, o7⟩
      subst hJ8
      refine k_seq ?_
      refine k_region ?_
      refine kl_steps 4 [(3, .pointer (some ⟨b1, 0, none⟩)), (171, .slice A5 l3.length k6), (174, .agg #[.int .i64 (6 : Int), .string (⟨#[]⟩ : ByteArray), .int .i64 (0 : Int), .int .i64 (a0.size : Int)])] (by kernel_rfl) ?_
      refine kl_new (.cells #[.int .i64 (6 : Int), .string (⟨#[]⟩ : ByteArray), .int .i64 (0 : Int), .int .i64 (a0.size : Int)] 50 (0, 0)) (fun b => .slice (some ⟨b, 0, none⟩) 1 1) (by kernel_rfl) (by kernel_rfl) (fun _ => by kernel_rfl) fun b9 => ?_
      refine K.mv2 ?_
      obtain ⟨l10, hl10, h⟩ := bindSome h
      refine kl_apd (ys := [((6 : Int), (⟨#[]⟩ : ByteArray), (0 : Int), (a0.size : Int))]) e50_ok rfl ety28 (by kernel_rfl) (by kernel_rfl) (by kernel_rfl) (by kernel_rfl) (by kernel_rfl) hl10 o7 (src_blk (n := 1) e50_ok [((6 : Int), (⟨#[]⟩ : ByteArray), (0 : Int), (a0.size : Int))] (by kernel_rfl) rfl (by decide) 1 rfl) fun h11 A12 k13 o14 => ?_
      refine K.mv1 ?_
      refine K.drop ?_
      refine kl_steps 2 [(3, .pointer (some ⟨b1, 0, none⟩)), (177, .agg #[.int .i64 (0 : Int), .int .i64 (0 : Int)]), (2, .slice A12 l10.length k13)] (by kernel_rfl) ?_
      refine K.mv1 ?_
      refine kl_store (cs' := #[.int .i64 (0 : Int), .int .i64 (0 : Int)]) [.st ⟨b1, 0, none⟩ (.int .i64 (0 : Int)), .st ⟨b1, 1, none⟩ (.int .i64 (0 : Int))] (by kernel_rfl) (by kernel_rfl) (by kernel_rfl) ⟨rfl, rfl, trivial⟩ (by kernel_rfl) ?_
      refine k_nil ?_
      refine k_then ?_
      refine k_ret ?_
      obtain rfl := Option.some.inj h
      refine k_done (v := .tuple #[.slice A12 l10.length k13, .agg #[.int .i64 (0 : Int), .int .i64 (0 : Int)]]) [.val (.int .i64 (0 : Int)), .val (.int .i64 (0 : Int))] [.ld ⟨b1, 0, none⟩ (.int .i64 (0 : Int)), .ld ⟨b1, 1, none⟩ (.int .i64 (0 : Int))] [h11] (by kernel_rfl) (by kernel_rfl) ⟨⟨0, _, _, _, rfl, rfl, rfl⟩, ⟨0, _, _, _, rfl, rfl, rfl⟩, trivial⟩ ?_
      refine K.drop ?_
      exact k_end ⟨h11, A12, k13, o14, rfl, rfl⟩
    · skip
      refine k_seq ?_
      refine k_region ?_
      refine kl_steps 1 [(0, .string a0), (3, .pointer (some ⟨b1, 0, none⟩)), (4, .slice none 0 0), (5, .int .i64 (0 : Int))] (by kernel_rfl) ?_
      refine k_nil ?_
      refine k_then ?_
      refine k_block ?_
      refine k_none ?_
      refine K.mv1 ?_
      refine k_loop (τ := (List (Int × ByteArray × Int × Int)) × Int × Frag × (Option Addr) × Nat) (fun t => [(0, .string a0), (3, .pointer (some ⟨b1, 0, none⟩)), (4, .slice t.2.2.2.1 t.1.length t.2.2.2.2), (5, .int .i64 t.2.1)]) (fun t => blk b1 (.cells #[.int .i64 (0 : Int), .int .i64 (0 : Int)] 25 (0, 0)) :: t.2.2.1 :: X) (fun m t => r11_Scan.l0 m a0 J8 t.1 t.2.1 = some r ∧ OwnT e50 50 4 t.2.2.1 (.slice t.2.2.2.1 t.1.length t.2.2.2.2) t.1) k ([], (0 : Int), none_, none, 0) ⟨h, (OwnT.nil e50 50 4 none_)⟩ ⟨rfl, rfl, rfl, rfl, trivial⟩ rfl ?_
      clear h
      rintro m21 ⟨l15, x20, h16, A17, k18⟩ ⟨h, o19⟩
      cases m21 with
      | zero => simp [r11_Scan.l0] at h
      | succ m21 =>
        simp only [r11_Scan.l0] at h
        refine k_seq ?_
        refine k_seq ?_
        refine k_region ?_
        refine kl_steps 4 [(0, .string a0), (3, .pointer (some ⟨b1, 0, none⟩)), (4, .slice A17 l15.length k18), (5, .int .i64 x20), (22, .bool (decide (x20 < (a0.size : Int))))] (by kernel_rfl) ?_
        refine k_nil ?_
        refine k_then ?_
        refine k_cond (t := decide (x20 < (a0.size : Int))) (by kernel_rfl) (fun t22 => ?_) (fun t22 => ?_)
        · have h := condT h t22
          refine k_skip ?_
          refine k_then ?_
          refine k_block ?_
          refine k_seq ?_
          refine k_region ?_
          refine kl_steps 2 [(0, .string a0), (3, .pointer (some ⟨b1, 0, none⟩)), (4, .slice A17 l15.length k18), (5, .int .i64 x20), (23, .string a0), (24, .int .i64 x20)] (by kernel_rfl) ?_
          obtain ⟨c23, hc23, h⟩ := bindSome h
          refine kl_index (kd := .i64) rfl (by kernel_rfl) (by kernel_rfl) (by kernel_rfl) (by kernel_rfl) (by kernel_rfl) hc23 ?_
          refine kl_steps 1 [(0, .string a0), (3, .pointer (some ⟨b1, 0, none⟩)), (4, .slice A17 l15.length k18), (5, .int .i64 x20), (6, .int .u8 (c23.toNat : Int))] (by kernel_rfl) ?_
          refine k_nil ?_
          refine k_then ?_
          refine k_seq ?_
          obtain ⟨q24, hq24, h⟩ := bindSome h
          refine k_cut1 [(0, .string a0), (3, .pointer (some ⟨b1, 0, none⟩)), (4, .slice A17 l15.length k18), (5, .int .i64 x20), (6, .int .u8 (c23.toNat : Int)), (39, .bool q24)] (blk b1 (.cells #[.int .i64 (0 : Int), .int .i64 (0 : Int)] 25 (0, 0)) :: h16 :: X) ?_ ?_
          · clear hq24
            refine k_cond (t := q24) (by kernel_rfl) (fun t25 => ?_) (fun t25 => ?_)
            · have h := condT h t25
              refine k_seq ?_
              refine k_region ?_
              refine kl_steps 3 [(0, .string a0), (3, .pointer (some ⟨b1, 0, none⟩)), (4, .slice A17 l15.length k18), (5, .int .i64 (IntKind.i64.wrap (x20 + (1 : Int))))] (by kernel_rfl) ?_
              refine k_nil ?_
              refine k_then ?_
              refine k_exit ?_
              refine k_then_exit ?_
              refine k_here ?_
              refine k_then ?_
              exact k_again m21 (l15, IntKind.i64.wrap (x20 + (1 : Int)), h16, A17, k18) (Nat.lt_succ_self _) ⟨h, o19⟩ ⟨rfl, rfl, rfl, rfl, trivial⟩ rfl
            · have h := condF h t25
              refine k_skip ?_
              refine k_then ?_
              refine k_seq ?_
              obtain ⟨q26, hq26, h⟩ := bindSome h
              refine k_cut1 [(0, .string a0), (3, .pointer (some ⟨b1, 0, none⟩)), (4, .slice A17 l15.length k18), (5, .int .i64 x20), (6, .int .u8 (c23.toNat : Int)), (57, .bool q26)] (blk b1 (.cells #[.int .i64 (0 : Int), .int .i64 (0 : Int)] 25 (0, 0)) :: h16 :: X) ?_ ?_
              · clear hq26
                refine k_cond (t := q26) (by kernel_rfl) (fun t27 => ?_) (fun t27 => ?_)
                · have h := condT h t27
                  obtain ⟨J29, hJ29, h⟩ := joinSplit h
                  refine k_cut (τ := Int) (fun t => [(0, .string a0), (3, .pointer (some ⟨b1, 0, none⟩)), (4, .slice A17 l15.length k18), (5, .int .i64 t)]) (fun t => blk b1 (.cells #[.int .i64 (0 : Int), .int .i64 (0 : Int)] 25 (0, 0)) :: h16 :: X) (fun t => J29 t = some r) ?_ ?_
                  · rintro x28 h
                    subst hJ29
                    refine k_exit ?_
                    refine k_then_exit ?_
                    refine k_here ?_
                    refine k_then ?_
                    exact k_again m21 (l15, x28, h16, A17, k18) (Nat.lt_succ_self _) ⟨h, o19⟩ ⟨rfl, rfl, rfl, rfl, trivial⟩ rfl
                  · skip
                    refine k_block ?_
                    refine k_loop (τ := Int) (fun t => [(0, .string a0), (3, .pointer (some ⟨b1, 0, none⟩)), (4, .slice A17 l15.length k18), (5, .int .i64 t)]) (fun t => blk b1 (.cells #[.int .i64 (0 : Int), .int .i64 (0 : Int)] 25 (0, 0)) :: h16 :: X) (fun m t => r11_Scan.l1 m a0 J29 t = some r) m21 x20 h ⟨rfl, rfl, rfl, rfl, trivial⟩ rfl ?_
                    clear h
                    rintro m31 x30 h
                    cases m31 with
                    | zero => simp [r11_Scan.l1] at h
                    | succ m31 =>
                      simp only [r11_Scan.l1] at h
                      refine k_seq ?_
                      obtain ⟨q32, hq32, h⟩ := bindSome h
                      refine k_cut1 [(0, .string a0), (3, .pointer (some ⟨b1, 0, none⟩)), (4, .slice A17 l15.length k18), (5, .int .i64 x30), (67, .bool q32)] (blk b1 (.cells #[.int .i64 (0 : Int), .int .i64 (0 : Int)] 25 (0, 0)) :: h16 :: X) ?_ ?_
                      · clear hq32
                        refine k_cond (t := q32) (by kernel_rfl) (fun t33 => ?_) (fun t33 => ?_)
                        · have h := condT h t33
                          refine k_skip ?_
                          refine k_then ?_
                          refine k_block ?_
                          refine k_region ?_
                          refine kl_steps 3 [(0, .string a0), (3, .pointer (some ⟨b1, 0, none⟩)), (4, .slice A17 l15.length k18), (5, .int .i64 (IntKind.i64.wrap (x30 + (1 : Int))))] (by kernel_rfl) ?_
                          refine k_nil ?_
                          refine k_blk ?_
                          refine k_then ?_
                          exact k_again m31 (IntKind.i64.wrap (x30 + (1 : Int))) (Nat.lt_succ_self _) h ⟨rfl, rfl, rfl, rfl, trivial⟩ rfl
                        · have h := condF h t33
                          refine k_exit ?_
                          refine k_then_exit ?_
                          refine k_then_exit ?_
                          refine k_here ?_
                          refine k_then ?_
                          exact k_meet x30 h ⟨rfl, rfl, rfl, rfl, trivial⟩ rfl
                      · have h := hq32
                        clear hq32
                        refine k_region ?_
                        refine kl_steps 5 [(0, .string a0), (3, .pointer (some ⟨b1, 0, none⟩)), (4, .slice A17 l15.length k18), (5, .int .i64 x30), (62, .bool (decide (x30 < (a0.size : Int))))] (by kernel_rfl) ?_
                        rcases Bool.eq_false_or_eq_true (decide (x30 < (a0.size : Int))) with t34 | t34
                        · have h := condT h t34
                          refine K.weak (env' := [(0, .string a0), (3, .pointer (some ⟨b1, 0, none⟩)), (4, .slice A17 l15.length k18), (5, .int .i64 x30), (62, .bool true)]) ?_ ⟨rfl, rfl, rfl, rfl, congrArg (fun b => some (Value.bool b)) t34, trivial⟩
                          refine kl_steps 2 [(0, .string a0), (3, .pointer (some ⟨b1, 0, none⟩)), (4, .slice A17 l15.length k18), (5, .int .i64 x30), (62, .bool true), (63, .string a0), (64, .int .i64 x30)] (by kernel_rfl) ?_
                          obtain ⟨c35, hc35, h⟩ := bindSome h
                          refine kl_index (kd := .i64) rfl (by kernel_rfl) (by kernel_rfl) (by kernel_rfl) (by kernel_rfl) (by kernel_rfl) hc35 ?_
                          refine kl_steps 2 [(0, .string a0), (3, .pointer (some ⟨b1, 0, none⟩)), (4, .slice A17 l15.length k18), (5, .int .i64 x30), (67, .bool ((c35.toNat : Int) != (10 : Int)))] (by kernel_rfl) ?_
                          refine k_nil ?_
                          refine k_then ?_
                          exact k_meet1 ⟨rfl, rfl, rfl, rfl, congrArg (fun b => some (Value.bool b)) (Option.some.inj h), trivial⟩
                        · have h := condF h t34
                          refine K.weak (env' := [(0, .string a0), (3, .pointer (some ⟨b1, 0, none⟩)), (4, .slice A17 l15.length k18), (5, .int .i64 x30), (62, .bool false)]) ?_ ⟨rfl, rfl, rfl, rfl, congrArg (fun b => some (Value.bool b)) t34, trivial⟩
                          refine kl_steps 5 [(0, .string a0), (3, .pointer (some ⟨b1, 0, none⟩)), (4, .slice A17 l15.length k18), (5, .int .i64 x30), (67, .bool false)] (by kernel_rfl) ?_
                          refine k_nil ?_
                          refine k_then ?_
                          exact k_meet1 ⟨rfl, rfl, rfl, rfl, congrArg (fun b => some (Value.bool b)) (Option.some.inj h), trivial⟩
                · have h := condF h t27
                  refine k_skip ?_
                  refine k_then ?_
                  refine k_seq ?_
                  refine k_region ?_
                  refine kl_steps 2 [(0, .string a0), (3, .pointer (some ⟨b1, 0, none⟩)), (4, .slice A17 l15.length k18), (5, .int .i64 x20), (6, .int .u8 (c23.toNat : Int)), (70, .string a0), (71, .int .i64 x20)] (by kernel_rfl) ?_
                  obtain ⟨r36, hr36, h⟩ := bindSome h
                  refine kl_callv (by kernel_rfl) (by kernel_rfl) (by kernel_rfl) (r01_At.ok hr36) trivial ?_
                  refine kl_new (.cells #[.int .i64 (0 : Int), .int .i64 (0 : Int), .int .i64 (0 : Int)] 40 (0, 0)) (fun b => .pointer (some ⟨b, 0, none⟩)) (by kernel_rfl) (by kernel_rfl) (fun _ => by kernel_rfl) fun b37 => ?_
                  refine kl_store (cs' := #[.int .i64 r36.1, .int .i64 r36.2.1, .int .i64 r36.2.2]) [.st ⟨b37, 0, none⟩ (.int .i64 r36.1), .st ⟨b37, 1, none⟩ (.int .i64 r36.2.1), .st ⟨b37, 2, none⟩ (.int .i64 r36.2.2)] (by kernel_rfl) (by kernel_rfl) (by kernel_rfl) ⟨rfl, rfl, rfl, trivial⟩ (by kernel_rfl) ?_
                  refine k_nil ?_
                  refine k_then ?_
                  refine k_seq ?_
                  refine k_region ?_
                  refine kl_steps 2 [(0, .string a0), (3, .pointer (some ⟨b1, 0, none⟩)), (4, .slice A17 l15.length k18), (5, .int .i64 x20), (6, .int .u8 (c23.toNat : Int)), (7, .pointer (some ⟨b37, 0, none⟩)), (74, .agg #[.int .i64 (0 : Int), .string (⟨#[]⟩ : ByteArray), .int .i64 (0 : Int), .int .i64 x20])] (by kernel_rfl) ?_
                  refine kl_new (.cells #[.int .i64 (0 : Int), .string (⟨#[]⟩ : ByteArray), .int .i64 (0 : Int), .int .i64 (0 : Int)] 50 (0, 0)) (fun b => .pointer (some ⟨b, 0, none⟩)) (by kernel_rfl) (by kernel_rfl) (fun _ => by kernel_rfl) fun b38 => ?_
                  refine kl_store (cs' := #[.int .i64 (0 : Int), .string (⟨#[]⟩ : ByteArray), .int .i64 (0 : Int), .int .i64 x20]) [.st ⟨b38, 0, none⟩ (.int .i64 (0 : Int)), .st ⟨b38, 1, none⟩ (.string (⟨#[]⟩ : ByteArray)), .st ⟨b38, 2, none⟩ (.int .i64 (0 : Int)), .st ⟨b38, 3, none⟩ (.int .i64 x20)] (by kernel_rfl) (by kernel_rfl) (by kernel_rfl) ⟨rfl, rfl, rfl, rfl, trivial⟩ (by kernel_rfl) ?_
                  refine k_nil ?_
                  refine k_then ?_
                  refine k_seq ?_
                  refine k_region ?_
                  refine kl_steps 1 [(0, .string a0), (3, .pointer (some ⟨b1, 0, none⟩)), (4, .slice A17 l15.length k18), (5, .int .i64 x20), (6, .int .u8 (c23.toNat : Int)), (7, .pointer (some ⟨b37, 0, none⟩)), (8, .pointer (some ⟨b38, 0, none⟩))] (by kernel_rfl) ?_
                  refine k_nil ?_
                  refine k_then ?_
                  obtain ⟨J43, hJ43, h⟩ := joinSplit h
                  refine k_cut (τ := Int × Int × ByteArray × Int) (fun t => [(0, .string a0), (3, .pointer (some ⟨b1, 0, none⟩)), (4, .slice A17 l15.length k18), (5, .int .i64 x20), (8, .pointer (some ⟨b38, 0, none⟩)), (9, .int .i64 t.1)]) (fun t => blk b38 (.cells #[.int .i64 t.2.1, .string t.2.2.1, .int .i64 t.2.2.2, .int .i64 x20] 50 (0, 0)) :: blk b1 (.cells #[.int .i64 (0 : Int), .int .i64 (0 : Int)] 25 (0, 0)) :: h16 :: X) (fun t => J43 t.1 t.2.1 t.2.2.1 t.2.2.2 = some r) ?_ ?_
                  · rintro ⟨x39, x40, x41, x42⟩ h
                    subst hJ43
                    refine k_seq ?_
                    refine k_region ?_
                    refine kl_steps 1 [(0, .string a0), (3, .pointer (some ⟨b1, 0, none⟩)), (4, .slice A17 l15.length k18), (5, .int .i64 x20), (8, .pointer (some ⟨b38, 0, none⟩)), (9, .int .i64 x39), (164, .slice A17 l15.length k18)] (by kernel_rfl) ?_
                    refine kl_load (v := .agg #[.int .i64 x40, .string x41, .int .i64 x42, .int .i64 x20]) [.val (.int .i64 x40), .val (.string x41), .val (.int .i64 x42), .val (.int .i64 x20)] [.ld ⟨b38, 0, none⟩ (.int .i64 x40), .ld ⟨b38, 1, none⟩ (.string x41), .ld ⟨b38, 2, none⟩ (.int .i64 x42), .ld ⟨b38, 3, none⟩ (.int .i64 x20)] (by kernel_rfl) (by kernel_rfl) (by kernel_rfl) ⟨⟨0, _, _, _, rfl, rfl, rfl⟩, ⟨0, _, _, _, rfl, rfl, rfl⟩, ⟨0, _, _, _, rfl, rfl, rfl⟩, ⟨0, _, _, _, rfl, rfl, rfl⟩, trivial⟩ ?_
                    refine K.drop ?_
                    refine kl_new (.cells #[.int .i64 x40, .string x41, .int .i64 x42, .int .i64 x20] 50 (0, 0)) (fun b => .slice (some ⟨b, 0, none⟩) 1 1) (by kernel_rfl) (by kernel_rfl) (fun _ => by kernel_rfl) fun b44 => ?_
                    refine K.mv2 ?_
                    obtain ⟨l45, hl45, h⟩ := bindSome h
                    refine kl_apd (ys := [(x40, x41, x42, x20)]) e50_ok rfl ety28 (by kernel_rfl) (by kernel_rfl) (by kernel_rfl) (by kernel_rfl) (by kernel_rfl) hl45 o19 (src_blk (n := 1) e50_ok [(x40, x41, x42, x20)] (by kernel_rfl) rfl (by decide) 1 rfl) fun h46 A47 k48 o49 => ?_
                    refine K.mv1 ?_
                    refine K.drop ?_
                    refine kl_steps 1 [(0, .string a0), (3, .pointer (some ⟨b1, 0, none⟩)), (4, .slice A47 l45.length k48), (5, .int .i64 x20), (9, .int .i64 x39)] (by kernel_rfl) ?_
                    refine k_nil ?_
                    refine k_then ?_
                    refine k_region ?_
                    refine kl_steps 4 [(0, .string a0), (3, .pointer (some ⟨b1, 0, none⟩)), (4, .slice A47 l45.length k48), (5, .int .i64 (IntKind.i64.wrap (x20 + x39)))] (by kernel_rfl) ?_
                    refine k_nil ?_
                    refine k_blk ?_
                    refine k_then ?_
                    refine K.mv1 ?_
                    exact k_again m21 (l45, IntKind.i64.wrap (x20 + x39), h46, A47, k48) (Nat.lt_succ_self _) ⟨h, o49⟩ ⟨rfl, rfl, rfl, rfl, trivial⟩ rfl
                  · skip
                    refine k_block ?_
                    refine k_seq ?_
                    refine k_region ?_
                    refine kl_steps 1 [(0, .string a0), (3, .pointer (some ⟨b1, 0, none⟩)), (4, .slice A17 l15.length k18), (5, .int .i64 x20), (6, .int .u8 (c23.toNat : Int)), (7, .pointer (some ⟨b37, 0, none⟩)), (8, .pointer (some ⟨b38, 0, none⟩)), (88, .pointer (some ⟨b37, 2, none⟩))] (by kernel_rfl) ?_
                    refine kl_load (v := .int .i64 r36.2.2) [.val (.int .i64 r36.2.2)] [.ld ⟨b37, 2, none⟩ (.int .i64 r36.2.2)] (by kernel_rfl) (by kernel_rfl) (by kernel_rfl) ⟨⟨1, _, _, _, rfl, rfl, rfl⟩, trivial⟩ ?_
                    obtain ⟨r50, hr50, h⟩ := bindSome h
                    refine kl_callv (by kernel_rfl) (by kernel_rfl) (by kernel_rfl) (r01_Letter.ok hr50) trivial ?_
                    refine kl_steps 1 [(0, .string a0), (3, .pointer (some ⟨b1, 0, none⟩)), (4, .slice A17 l15.length k18), (5, .int .i64 x20), (6, .int .u8 (c23.toNat : Int)), (7, .pointer (some ⟨b37, 0, none⟩)), (8, .pointer (some ⟨b38, 0, none⟩)), (87, .bool r50)] (by kernel_rfl) ?_
                    refine k_nil ?_
                    refine k_then ?_
                    refine k_cond (t := r50) (by kernel_rfl) (fun t51 => ?_) (fun t51 => ?_)
                    · have h := condT h t51
                      refine k_seq ?_
                      refine k_region ?_
                      refine kl_steps 2 [(0, .string a0), (3, .pointer (some ⟨b1, 0, none⟩)), (4, .slice A17 l15.length k18), (5, .int .i64 x20), (8, .pointer (some ⟨b38, 0, none⟩)), (91, .string a0), (92, .int .i64 x20)] (by kernel_rfl) ?_
                      obtain ⟨r52, hr52, h⟩ := bindSome h
                      refine kl_callv (by kernel_rfl) (by kernel_rfl) (by kernel_rfl) (r11_names.ok hr52) trivial ?_
                      refine K.mv1 ?_
                      refine K.drop ?_
                      refine kl_steps 1 [(0, .string a0), (3, .pointer (some ⟨b1, 0, none⟩)), (4, .slice A17 l15.length k18), (5, .int .i64 x20), (8, .pointer (some ⟨b38, 0, none⟩)), (9, .int .i64 r52)] (by kernel_rfl) ?_
                      refine k_nil ?_
                      refine k_then ?_
                      refine k_seq ?_
                      refine k_seq ?_
                      refine k_region ?_
                      refine kl_steps 2 [(0, .string a0), (3, .pointer (some ⟨b1, 0, none⟩)), (4, .slice A17 l15.length k18), (5, .int .i64 x20), (8, .pointer (some ⟨b38, 0, none⟩)), (9, .int .i64 r52), (95, .bool (decide (r52 > (40 : Int))))] (by kernel_rfl) ?_
                      refine k_nil ?_
                      refine k_then ?_
                      refine k_cond (t := decide (r52 > (40 : Int))) (by kernel_rfl) (fun t53 => ?_) (fun t53 => ?_)
                      · have h := condT h t53
                        refine k_seq ?_
                        refine k_region ?_
                        refine kl_steps 3 [(3, .pointer (some ⟨b1, 0, none⟩)), (97, .agg #[.int .i64 (14 : Int), .int .i64 x20]), (2, .slice none 0 0)] (by kernel_rfl) ?_
                        refine K.mv1 ?_
                        refine kl_store (cs' := #[.int .i64 (14 : Int), .int .i64 x20]) [.st ⟨b1, 0, none⟩ (.int .i64 (14 : Int)), .st ⟨b1, 1, none⟩ (.int .i64 x20)] (by kernel_rfl) (by kernel_rfl) (by kernel_rfl) ⟨rfl, rfl, trivial⟩ (by kernel_rfl) ?_
                        refine K.mv1 ?_
                        refine K.drop ?_
                        refine K.mv1 ?_
                        refine K.drop ?_
                        refine k_nil ?_
                        refine k_then ?_
                        refine k_ret ?_
                        refine k_then_ret ?_
                        refine k_blk_ret ?_
                        refine k_then_ret ?_
                        refine k_blk_ret ?_
                        refine k_then_ret ?_
                        refine k_blk_ret ?_
                        refine k_then_ret ?_
                        obtain rfl := Option.some.inj h
                        refine k_done (v := .tuple #[.slice none 0 0, .agg #[.int .i64 (14 : Int), .int .i64 x20]]) [.val (.int .i64 (14 : Int)), .val (.int .i64 x20)] [.ld ⟨b1, 0, none⟩ (.int .i64 (14 : Int)), .ld ⟨b1, 1, none⟩ (.int .i64 x20)] [none_] (by kernel_rfl) (by kernel_rfl) ⟨⟨0, _, _, _, rfl, rfl, rfl⟩, ⟨0, _, _, _, rfl, rfl, rfl⟩, trivial⟩ ?_
                        refine k_none ?_
                        refine K.mv1 ?_
                        refine K.drop ?_
                        exact k_end ⟨none_, none, 0, (OwnT.nil e50 50 4 none_), rfl, rfl⟩
                      · have h := condF h t53
                        refine k_skip ?_
                        refine k_then ?_
                        refine k_seq ?_
                        refine k_region_plan [(0, 0), (1, 0), (2, 0), (3, 0), (4, 0), (5, 0)] (fun _ => True) (by kernel_rfl) (by kernel_rfl) (fun _ _ d _ _ h => by cases d <;> exact h) (fun _ _ => trivial) ?_
                        simp only [planOps, List.filterMap_cons, List.filterMap_nil, List.getElem?_toArray, List.getElem?_cons_zero, List.getElem?_cons_succ, Option.map_some, List.drop_succ_cons, List.drop_zero, List.length_cons, List.length_nil]
                        refine kp_steps 5 [(0, .string a0), (3, .pointer (some ⟨b1, 0, none⟩)), (4, .slice A17 l15.length k18), (5, .int .i64 x20), (8, .pointer (some ⟨b38, 0, none⟩)), (9, .int .i64 r52), (98, .string a0), (99, .int .i64 x20), (102, .int .i64 (IntKind.i64.wrap (x20 + r52)))] (by kernel_rfl) (by kernel_rfl) ?_
                        obtain ⟨s54, hs54, h⟩ := bindSome h
                        refine kp_sstr x20 (IntKind.i64.wrap (x20 + r52)) rfl (by kernel_rfl) (by kernel_rfl) (by kernel_rfl) (.inr ⟨_, .i64, rfl, (by kernel_rfl)⟩) (.inr ⟨_, .i64, rfl, (by kernel_rfl)⟩) (by kernel_rfl) hs54 ?_
                        refine kp_done ?_
                        refine kl_steps 1 [(0, .string a0), (3, .pointer (some ⟨b1, 0, none⟩)), (4, .slice A17 l15.length k18), (5, .int .i64 x20), (8, .pointer (some ⟨b38, 0, none⟩)), (9, .int .i64 r52), (103, .string s54), (104, .pointer (some ⟨b38, 0, none⟩))] (by kernel_rfl) ?_
                        refine kl_store (cs' := #[.int .i64 (1 : Int), .string (⟨#[]⟩ : ByteArray), .int .i64 (0 : Int), .int .i64 x20]) [.st ⟨b38, 0, none⟩ (.int .i64 (1 : Int))] (by kernel_rfl) (by kernel_rfl) (by kernel_rfl) ⟨rfl, trivial⟩ (by kernel_rfl) ?_
                        refine kl_steps 1 [(0, .string a0), (3, .pointer (some ⟨b1, 0, none⟩)), (4, .slice A17 l15.length k18), (5, .int .i64 x20), (8, .pointer (some ⟨b38, 0, none⟩)), (9, .int .i64 r52), (103, .string s54), (105, .pointer (some ⟨b38, 1, none⟩))] (by kernel_rfl) ?_
                        refine kl_store (cs' := #[.int .i64 (1 : Int), .string s54, .int .i64 (0 : Int), .int .i64 x20]) [.st ⟨b38, 1, none⟩ (.string s54)] (by kernel_rfl) (by kernel_rfl) (by kernel_rfl) ⟨rfl, trivial⟩ (by kernel_rfl) ?_
                        refine k_nil ?_
                        refine k_then ?_
                        refine k_seq ?_
                        refine k_region ?_
                        refine kl_steps 1 [(0, .string a0), (3, .pointer (some ⟨b1, 0, none⟩)), (4, .slice A17 l15.length k18), (5, .int .i64 x20), (8, .pointer (some ⟨b38, 0, none⟩)), (9, .int .i64 r52), (106, .pointer (some ⟨b38, 1, none⟩))] (by kernel_rfl) ?_
                        refine kl_load (v := .string s54) [.val (.string s54)] [.ld ⟨b38, 1, none⟩ (.string s54)] (by kernel_rfl) (by kernel_rfl) (by kernel_rfl) ⟨⟨0, _, _, _, rfl, rfl, rfl⟩, trivial⟩ ?_
                        obtain ⟨r55, hr55, h⟩ := bindSome h
                        refine kl_callv (by kernel_rfl) (by kernel_rfl) (by kernel_rfl) (r11_IsWord.ok hr55) trivial ?_
                        refine k_nil ?_
                        refine k_then ?_
                        refine k_cond (t := r55) (by kernel_rfl) (fun t56 => ?_) (fun t56 => ?_)
                        · have h := condT h t56
                          refine k_region ?_
                          refine kl_steps 1 [(0, .string a0), (3, .pointer (some ⟨b1, 0, none⟩)), (4, .slice A17 l15.length k18), (5, .int .i64 x20), (8, .pointer (some ⟨b38, 0, none⟩)), (9, .int .i64 r52), (109, .pointer (some ⟨b38, 0, none⟩))] (by kernel_rfl) ?_
                          refine kl_store (cs' := #[.int .i64 (2 : Int), .string s54, .int .i64 (0 : Int), .int .i64 x20]) [.st ⟨b38, 0, none⟩ (.int .i64 (2 : Int))] (by kernel_rfl) (by kernel_rfl) (by kernel_rfl) ⟨rfl, trivial⟩ (by kernel_rfl) ?_
                          refine k_nil ?_
                          refine k_blk ?_
                          refine k_then ?_
                          exact k_meet (r52, (2 : Int), s54, (0 : Int)) h ⟨rfl, rfl, rfl, rfl, rfl, rfl, trivial⟩ rfl
                        · have h := condF h t56
                          refine k_skip ?_
                          refine k_blk ?_
                          refine k_then ?_
                          exact k_meet (r52, (1 : Int), s54, (0 : Int)) h ⟨rfl, rfl, rfl, rfl, rfl, rfl, trivial⟩ rfl
                    · have h := condF h t51
                      refine k_seq ?_
                      refine k_region ?_
                      refine kl_steps 1 [(0, .string a0), (3, .pointer (some ⟨b1, 0, none⟩)), (4, .slice A17 l15.length k18), (5, .int .i64 x20), (6, .int .u8 (c23.toNat : Int)), (8, .pointer (some ⟨b38, 0, none⟩)), (111, .pointer (some ⟨b37, 2, none⟩))] (by kernel_rfl) ?_
                      refine kl_load (v := .int .i64 r36.2.2) [.val (.int .i64 r36.2.2)] [.ld ⟨b37, 2, none⟩ (.int .i64 r36.2.2)] (by kernel_rfl) (by kernel_rfl) (by kernel_rfl) ⟨⟨1, _, _, _, rfl, rfl, rfl⟩, trivial⟩ ?_
                      refine K.mv1 ?_
                      refine K.drop ?_
                      obtain ⟨r57, hr57, h⟩ := bindSome h
                      refine kl_callv (by kernel_rfl) (by kernel_rfl) (by kernel_rfl) (r01_Digit.ok hr57) trivial ?_
                      refine kl_steps 1 [(0, .string a0), (3, .pointer (some ⟨b1, 0, none⟩)), (4, .slice A17 l15.length k18), (5, .int .i64 x20), (6, .int .u8 (c23.toNat : Int)), (8, .pointer (some ⟨b38, 0, none⟩)), (110, .bool r57)] (by kernel_rfl) ?_
                      refine k_nil ?_
                      refine k_then ?_
                      refine k_cond (t := r57) (by kernel_rfl) (fun t58 => ?_) (fun t58 => ?_)
                      · have h := condT h t58
                        refine k_seq ?_
                        refine k_region ?_
                        refine kl_steps 2 [(0, .string a0), (3, .pointer (some ⟨b1, 0, none⟩)), (4, .slice A17 l15.length k18), (5, .int .i64 x20), (8, .pointer (some ⟨b38, 0, none⟩)), (114, .string a0), (115, .int .i64 x20)] (by kernel_rfl) ?_
                        obtain ⟨r59, hr59, h⟩ := bindSome h
                        refine kl_callv (by kernel_rfl) (by kernel_rfl) (by kernel_rfl) (r11_names.ok hr59) trivial ?_
                        refine kl_steps 1 [(0, .string a0), (3, .pointer (some ⟨b1, 0, none⟩)), (4, .slice A17 l15.length k18), (5, .int .i64 x20), (8, .pointer (some ⟨b38, 0, none⟩)), (9, .int .i64 r59)] (by kernel_rfl) ?_
                        refine k_nil ?_
                        refine k_then ?_
                        refine k_seq ?_
                        refine k_region ?_
                        refine kl_steps 5 [(0, .string a0), (3, .pointer (some ⟨b1, 0, none⟩)), (4, .slice A17 l15.length k18), (5, .int .i64 x20), (8, .pointer (some ⟨b38, 0, none⟩)), (9, .int .i64 r59), (118, .string a0), (119, .int .i64 x20), (122, .int .i64 (IntKind.i64.wrap (x20 + r59)))] (by kernel_rfl) ?_
                        obtain ⟨s60, hs60, h⟩ := bindSome h
                        refine kl_sstr x20 (IntKind.i64.wrap (x20 + r59)) rfl (by kernel_rfl) (by kernel_rfl) (by kernel_rfl) (.inr ⟨_, .i64, rfl, (by kernel_rfl)⟩) (.inr ⟨_, .i64, rfl, (by kernel_rfl)⟩) (by kernel_rfl) hs60 ?_
                        obtain ⟨r61, hr61, h⟩ := bindSome h
                        refine kl_callv (by kernel_rfl) (by kernel_rfl) (by kernel_rfl) (r02_Parse.ok hr61) trivial ?_
                        refine kl_steps 5 [(0, .string a0), (3, .pointer (some ⟨b1, 0, none⟩)), (4, .slice A17 l15.length k18), (5, .int .i64 x20), (8, .pointer (some ⟨b38, 0, none⟩)), (9, .int .i64 r59), (10, .int .i64 r61.1), (11, .int .i64 r61.2)] (by kernel_rfl) ?_
                        refine k_nil ?_
                        refine k_then ?_
                        refine k_seq ?_
                        refine k_seq ?_
                        refine k_region ?_
                        refine kl_steps 2 [(0, .string a0), (3, .pointer (some ⟨b1, 0, none⟩)), (4, .slice A17 l15.length k18), (5, .int .i64 x20), (8, .pointer (some ⟨b38, 0, none⟩)), (9, .int .i64 r59), (10, .int .i64 r61.1), (11, .int .i64 r61.2), (128, .bool (r61.2 != (0 : Int)))] (by kernel_rfl) ?_
                        refine k_nil ?_
                        refine k_then ?_
                        refine k_cond (t := (r61.2 != (0 : Int))) (by kernel_rfl) (fun t62 => ?_) (fun t62 => ?_)
                        · have h := condT h t62
                          refine k_seq ?_
                          refine k_region ?_
                          refine kl_steps 4 [(3, .pointer (some ⟨b1, 0, none⟩)), (131, .agg #[.int .i64 r61.2, .int .i64 x20]), (2, .slice none 0 0)] (by kernel_rfl) ?_
                          refine K.mv1 ?_
                          refine kl_store (cs' := #[.int .i64 r61.2, .int .i64 x20]) [.st ⟨b1, 0, none⟩ (.int .i64 r61.2), .st ⟨b1, 1, none⟩ (.int .i64 x20)] (by kernel_rfl) (by kernel_rfl) (by kernel_rfl) ⟨rfl, rfl, trivial⟩ (by kernel_rfl) ?_
                          refine K.mv1 ?_
                          refine K.drop ?_
                          refine K.mv1 ?_
                          refine K.drop ?_
                          refine k_nil ?_
                          refine k_then ?_
                          refine k_ret ?_
                          refine k_then_ret ?_
                          refine k_blk_ret ?_
                          refine k_then_ret ?_
                          refine k_blk_ret ?_
                          refine k_then_ret ?_
                          refine k_blk_ret ?_
                          refine k_then_ret ?_
                          obtain rfl := Option.some.inj h
                          refine k_done (v := .tuple #[.slice none 0 0, .agg #[.int .i64 r61.2, .int .i64 x20]]) [.val (.int .i64 r61.2), .val (.int .i64 x20)] [.ld ⟨b1, 0, none⟩ (.int .i64 r61.2), .ld ⟨b1, 1, none⟩ (.int .i64 x20)] [none_] (by kernel_rfl) (by kernel_rfl) ⟨⟨0, _, _, _, rfl, rfl, rfl⟩, ⟨0, _, _, _, rfl, rfl, rfl⟩, trivial⟩ ?_
                          refine k_none ?_
                          refine K.mv1 ?_
                          refine K.drop ?_
                          exact k_end ⟨none_, none, 0, (OwnT.nil e50 50 4 none_), rfl, rfl⟩
                        · have h := condF h t62
                          refine k_skip ?_
                          refine k_then ?_
                          refine k_region_plan [(0, 0), (1, 0), (2, 0), (3, 0), (4, 0), (5, 0), (6, 0)] (fun _ => True) (by kernel_rfl) (by kernel_rfl) (fun _ _ d _ _ h => by cases d <;> exact h) (fun _ _ => trivial) ?_
                          simp only [planOps, List.filterMap_cons, List.filterMap_nil, List.getElem?_toArray, List.getElem?_cons_zero, List.getElem?_cons_succ, Option.map_some, List.drop_succ_cons, List.drop_zero, List.length_cons, List.length_nil]
                          refine kp_steps 5 [(0, .string a0), (3, .pointer (some ⟨b1, 0, none⟩)), (4, .slice A17 l15.length k18), (5, .int .i64 x20), (8, .pointer (some ⟨b38, 0, none⟩)), (9, .int .i64 r59), (10, .int .i64 r61.1), (132, .string a0), (133, .int .i64 x20), (136, .int .i64 (IntKind.i64.wrap (x20 + r59)))] (by kernel_rfl) (by kernel_rfl) ?_
                          obtain ⟨s63, hs63, h⟩ := bindSome h
                          refine kp_sstr x20 (IntKind.i64.wrap (x20 + r59)) rfl (by kernel_rfl) (by kernel_rfl) (by kernel_rfl) (.inr ⟨_, .i64, rfl, (by kernel_rfl)⟩) (.inr ⟨_, .i64, rfl, (by kernel_rfl)⟩) (by kernel_rfl) hs63 ?_
                          refine kp_steps 1 [(0, .string a0), (3, .pointer (some ⟨b1, 0, none⟩)), (4, .slice A17 l15.length k18), (5, .int .i64 x20), (8, .pointer (some ⟨b38, 0, none⟩)), (9, .int .i64 r59), (137, .string s63), (138, .int .i64 r61.1)] (by kernel_rfl) (by kernel_rfl) ?_
                          refine kp_done ?_
                          refine kl_steps 1 [(0, .string a0), (3, .pointer (some ⟨b1, 0, none⟩)), (4, .slice A17 l15.length k18), (5, .int .i64 x20), (8, .pointer (some ⟨b38, 0, none⟩)), (9, .int .i64 r59), (137, .string s63), (138, .int .i64 r61.1), (139, .pointer (some ⟨b38, 0, none⟩))] (by kernel_rfl) ?_
                          refine kl_store (cs' := #[.int .i64 (3 : Int), .string (⟨#[]⟩ : ByteArray), .int .i64 (0 : Int), .int .i64 x20]) [.st ⟨b38, 0, none⟩ (.int .i64 (3 : Int))] (by kernel_rfl) (by kernel_rfl) (by kernel_rfl) ⟨rfl, trivial⟩ (by kernel_rfl) ?_
                          refine kl_steps 1 [(0, .string a0), (3, .pointer (some ⟨b1, 0, none⟩)), (4, .slice A17 l15.length k18), (5, .int .i64 x20), (8, .pointer (some ⟨b38, 0, none⟩)), (9, .int .i64 r59), (137, .string s63), (138, .int .i64 r61.1), (140, .pointer (some ⟨b38, 1, none⟩))] (by kernel_rfl) ?_
                          refine kl_store (cs' := #[.int .i64 (3 : Int), .string s63, .int .i64 (0 : Int), .int .i64 x20]) [.st ⟨b38, 1, none⟩ (.string s63)] (by kernel_rfl) (by kernel_rfl) (by kernel_rfl) ⟨rfl, trivial⟩ (by kernel_rfl) ?_
                          refine kl_steps 1 [(0, .string a0), (3, .pointer (some ⟨b1, 0, none⟩)), (4, .slice A17 l15.length k18), (5, .int .i64 x20), (8, .pointer (some ⟨b38, 0, none⟩)), (9, .int .i64 r59), (138, .int .i64 r61.1), (141, .pointer (some ⟨b38, 2, none⟩))] (by kernel_rfl) ?_
                          refine kl_store (cs' := #[.int .i64 (3 : Int), .string s63, .int .i64 r61.1, .int .i64 x20]) [.st ⟨b38, 2, none⟩ (.int .i64 r61.1)] (by kernel_rfl) (by kernel_rfl) (by kernel_rfl) ⟨rfl, trivial⟩ (by kernel_rfl) ?_
                          refine k_nil ?_
                          refine k_blk ?_
                          refine k_then ?_
                          exact k_meet (r59, (3 : Int), s63, r61.1) h ⟨rfl, rfl, rfl, rfl, rfl, rfl, trivial⟩ rfl
                      · have h := condF h t58
                        obtain ⟨q64, hq64, h⟩ := bindSome h
                        refine k_cut1 [(0, .string a0), (3, .pointer (some ⟨b1, 0, none⟩)), (4, .slice A17 l15.length k18), (5, .int .i64 x20), (8, .pointer (some ⟨b38, 0, none⟩)), (142, .bool q64)] (blk b38 (.cells #[.int .i64 (0 : Int), .string (⟨#[]⟩ : ByteArray), .int .i64 (0 : Int), .int .i64 x20] 50 (0, 0)) :: blk b1 (.cells #[.int .i64 (0 : Int), .int .i64 (0 : Int)] 25 (0, 0)) :: h16 :: X) ?_ ?_
                        · clear hq64
                          refine k_cond (t := q64) (by kernel_rfl) (fun t65 => ?_) (fun t65 => ?_)
                          · have h := condT h t65
                            refine k_seq ?_
                            refine k_region ?_
                            refine kl_steps 2 [(0, .string a0), (3, .pointer (some ⟨b1, 0, none⟩)), (4, .slice A17 l15.length k18), (5, .int .i64 x20), (8, .pointer (some ⟨b38, 0, none⟩)), (150, .string a0), (151, .int .i64 x20)] (by kernel_rfl) ?_
                            obtain ⟨r66, hr66, h⟩ := bindSome h
                            refine kl_callv (by kernel_rfl) (by kernel_rfl) (by kernel_rfl) (r11_text.ok hr66) trivial ?_
                            refine kl_steps 4 [(0, .string a0), (3, .pointer (some ⟨b1, 0, none⟩)), (4, .slice A17 l15.length k18), (5, .int .i64 x20), (8, .pointer (some ⟨b38, 0, none⟩)), (153, .string r66.1), (154, .int .i64 r66.2.1), (155, .agg #[.int .i64 r66.2.2.1, .int .i64 r66.2.2.2])] (by kernel_rfl) ?_
                            refine kl_new (.cells #[.int .i64 (0 : Int), .int .i64 (0 : Int)] 25 (0, 0)) (fun b => .pointer (some ⟨b, 0, none⟩)) (by kernel_rfl) (by kernel_rfl) (fun _ => by kernel_rfl) fun b67 => ?_
                            refine kl_steps 2 [(0, .string a0), (3, .pointer (some ⟨b1, 0, none⟩)), (4, .slice A17 l15.length k18), (5, .int .i64 x20), (8, .pointer (some ⟨b38, 0, none⟩)), (155, .agg #[.int .i64 r66.2.2.1, .int .i64 r66.2.2.2]), (14, .pointer (some ⟨b67, 0, none⟩)), (12, .string r66.1), (13, .int .i64 r66.2.1)] (by kernel_rfl) ?_
                            refine kl_store (cs' := #[.int .i64 r66.2.2.1, .int .i64 r66.2.2.2]) [.st ⟨b67, 0, none⟩ (.int .i64 r66.2.2.1), .st ⟨b67, 1, none⟩ (.int .i64 r66.2.2.2)] (by kernel_rfl) (by kernel_rfl) (by kernel_rfl) ⟨rfl, rfl, trivial⟩ (by kernel_rfl) ?_
                            refine k_nil ?_
                            refine k_then ?_
                            refine k_seq ?_
                            refine k_seq ?_
                            refine k_region ?_
                            refine kl_steps 1 [(0, .string a0), (3, .pointer (some ⟨b1, 0, none⟩)), (4, .slice A17 l15.length k18), (5, .int .i64 x20), (8, .pointer (some ⟨b38, 0, none⟩)), (14, .pointer (some ⟨b67, 0, none⟩)), (12, .string r66.1), (13, .int .i64 r66.2.1), (156, .pointer (some ⟨b67, 0, none⟩))] (by kernel_rfl) ?_
                            refine kl_load (v := .int .i64 r66.2.2.1) [.val (.int .i64 r66.2.2.1)] [.ld ⟨b67, 0, none⟩ (.int .i64 r66.2.2.1)] (by kernel_rfl) (by kernel_rfl) (by kernel_rfl) ⟨⟨0, _, _, _, rfl, rfl, rfl⟩, trivial⟩ ?_
                            refine kl_steps 1 [(0, .string a0), (3, .pointer (some ⟨b1, 0, none⟩)), (4, .slice A17 l15.length k18), (5, .int .i64 x20), (8, .pointer (some ⟨b38, 0, none⟩)), (14, .pointer (some ⟨b67, 0, none⟩)), (12, .string r66.1), (13, .int .i64 r66.2.1), (158, .bool (r66.2.2.1 != (0 : Int)))] (by kernel_rfl) ?_
                            refine k_nil ?_
                            refine k_then ?_
                            refine k_cond (t := (r66.2.2.1 != (0 : Int))) (by kernel_rfl) (fun t68 => ?_) (fun t68 => ?_)
                            · have h := condT h t68
                              refine k_seq ?_
                              refine k_region_plan [(0, 3), (1, 0)] (fun w => OnAll [blk b67 (.cells #[.int .i64 r66.2.2.1, .int .i64 r66.2.2.2] 25 (0, 0)), blk b38 (.cells #[.int .i64 (0 : Int), .string (⟨#[]⟩ : ByteArray), .int .i64 (0 : Int), .int .i64 x20] 50 (0, 0)), blk b1 (.cells #[.int .i64 (0 : Int), .int .i64 (0 : Int)] 25 (0, 0)), h16] w) (by kernel_rfl) (by kernel_rfl) (fun _ _ d _ _ h => by cases d <;> exact h) (fun w h_ => ⟨h_.sat.on _ (.head _), h_.sat.on _ (.tail _ (.head _)), h_.sat.on _ (.tail _ (.tail _ (.head _))), h_.sat.on _ (.tail _ (.tail _ (.tail _ (.head _)))), trivial⟩) ?_
                              simp only [planOps, List.filterMap_cons, List.filterMap_nil, List.getElem?_toArray, List.getElem?_cons_zero, List.getElem?_cons_succ, Option.map_some, List.drop_succ_cons, List.drop_zero, List.length_cons, List.length_nil]
                              refine kp_loadS (v := .agg #[.int .i64 r66.2.2.1, .int .i64 r66.2.2.2]) [blk b67 (.cells #[.int .i64 r66.2.2.1, .int .i64 r66.2.2.2] 25 (0, 0)), blk b38 (.cells #[.int .i64 (0 : Int), .string (⟨#[]⟩ : ByteArray), .int .i64 (0 : Int), .int .i64 x20] 50 (0, 0)), blk b1 (.cells #[.int .i64 (0 : Int), .int .i64 (0 : Int)] 25 (0, 0)), h16] [.val (.int .i64 r66.2.2.1), .val (.int .i64 r66.2.2.2)] [.ld ⟨b67, 0, none⟩ (.int .i64 r66.2.2.1), .ld ⟨b67, 1, none⟩ (.int .i64 r66.2.2.2)] (by kernel_rfl) (by kernel_rfl) (by kernel_rfl) (fun _ h => h) ⟨⟨0, _, _, _, rfl, rfl, rfl⟩, ⟨0, _, _, _, rfl, rfl, rfl⟩, trivial⟩ ?_
                              refine kp_steps 1 [(3, .pointer (some ⟨b1, 0, none⟩)), (159, .agg #[.int .i64 r66.2.2.1, .int .i64 r66.2.2.2]), (2, .slice none 0 0)] (by kernel_rfl) (by kernel_rfl) ?_
                              refine kp_done ?_
                              refine K.mv2 ?_
                              refine kl_store (cs' := #[.int .i64 r66.2.2.1, .int .i64 r66.2.2.2]) [.st ⟨b1, 0, none⟩ (.int .i64 r66.2.2.1), .st ⟨b1, 1, none⟩ (.int .i64 r66.2.2.2)] (by kernel_rfl) (by kernel_rfl) (by kernel_rfl) ⟨rfl, rfl, trivial⟩ (by kernel_rfl) ?_
                              refine K.mv1 ?_
                              refine K.drop ?_
                              refine K.mv1 ?_
                              refine K.drop ?_
                              refine K.mv1 ?_
                              refine K.drop ?_
                              refine k_nil ?_
                              refine k_then ?_
                              refine k_ret ?_
                              refine k_then_ret ?_
                              refine k_blk_ret ?_
                              refine k_then_ret ?_
                              refine k_blk_ret ?_
                              refine k_then_ret ?_
                              refine k_blk_ret ?_
                              refine k_then_ret ?_
                              obtain rfl := Option.some.inj h
                              refine k_done (v := .tuple #[.slice none 0 0, .agg #[.int .i64 r66.2.2.1, .int .i64 r66.2.2.2]]) [.val (.int .i64 r66.2.2.1), .val (.int .i64 r66.2.2.2)] [.ld ⟨b1, 0, none⟩ (.int .i64 r66.2.2.1), .ld ⟨b1, 1, none⟩ (.int .i64 r66.2.2.2)] [none_] (by kernel_rfl) (by kernel_rfl) ⟨⟨0, _, _, _, rfl, rfl, rfl⟩, ⟨0, _, _, _, rfl, rfl, rfl⟩, trivial⟩ ?_
                              refine k_none ?_
                              refine K.mv1 ?_
                              refine K.drop ?_
                              exact k_end ⟨none_, none, 0, (OwnT.nil e50 50 4 none_), rfl, rfl⟩
                            · have h := condF h t68
                              refine k_skip ?_
                              refine k_then ?_
                              refine k_region ?_
                              refine kl_steps 3 [(0, .string a0), (3, .pointer (some ⟨b1, 0, none⟩)), (4, .slice A17 l15.length k18), (5, .int .i64 x20), (8, .pointer (some ⟨b38, 0, none⟩)), (160, .string r66.1), (161, .int .i64 r66.2.1), (162, .pointer (some ⟨b38, 0, none⟩))] (by kernel_rfl) ?_
                              refine K.mv1 ?_
                              refine kl_store (cs' := #[.int .i64 (4 : Int), .string (⟨#[]⟩ : ByteArray), .int .i64 (0 : Int), .int .i64 x20]) [.st ⟨b38, 0, none⟩ (.int .i64 (4 : Int))] (by kernel_rfl) (by kernel_rfl) (by kernel_rfl) ⟨rfl, trivial⟩ (by kernel_rfl) ?_
                              refine K.mv1 ?_
                              refine K.drop ?_
                              refine kl_steps 1 [(0, .string a0), (3, .pointer (some ⟨b1, 0, none⟩)), (4, .slice A17 l15.length k18), (5, .int .i64 x20), (8, .pointer (some ⟨b38, 0, none⟩)), (160, .string r66.1), (161, .int .i64 r66.2.1), (163, .pointer (some ⟨b38, 1, none⟩))] (by kernel_rfl) ?_
                              refine kl_store (cs' := #[.int .i64 (4 : Int), .string r66.1, .int .i64 (0 : Int), .int .i64 x20]) [.st ⟨b38, 1, none⟩ (.string r66.1)] (by kernel_rfl) (by kernel_rfl) (by kernel_rfl) ⟨rfl, trivial⟩ (by kernel_rfl) ?_
                              refine kl_steps 1 [(0, .string a0), (3, .pointer (some ⟨b1, 0, none⟩)), (4, .slice A17 l15.length k18), (5, .int .i64 x20), (8, .pointer (some ⟨b38, 0, none⟩)), (9, .int .i64 r66.2.1)] (by kernel_rfl) ?_
                              refine k_nil ?_
                              refine k_blk ?_
                              refine k_then ?_
                              exact k_meet (r66.2.1, (4 : Int), r66.1, (0 : Int)) h ⟨rfl, rfl, rfl, rfl, rfl, rfl, trivial⟩ rfl
                          · have h := condF h t65
                            refine k_seq ?_
                            refine k_region ?_
                            refine kl_steps 2 [(0, .string a0), (3, .pointer (some ⟨b1, 0, none⟩)), (4, .slice A17 l15.length k18), (5, .int .i64 x20), (8, .pointer (some ⟨b38, 0, none⟩)), (75, .string a0), (76, .int .i64 x20)] (by kernel_rfl) ?_
                            obtain ⟨r69, hr69, h⟩ := bindSome h
                            refine kl_callv (by kernel_rfl) (by kernel_rfl) (by kernel_rfl) (r11_sign.ok hr69) trivial ?_
                            refine kl_steps 1 [(0, .string a0), (3, .pointer (some ⟨b1, 0, none⟩)), (4, .slice A17 l15.length k18), (5, .int .i64 x20), (8, .pointer (some ⟨b38, 0, none⟩)), (77, .string r69), (78, .pointer (some ⟨b38, 0, none⟩))] (by kernel_rfl) ?_
                            refine kl_store (cs' := #[.int .i64 (5 : Int), .string (⟨#[]⟩ : ByteArray), .int .i64 (0 : Int), .int .i64 x20]) [.st ⟨b38, 0, none⟩ (.int .i64 (5 : Int))] (by kernel_rfl) (by kernel_rfl) (by kernel_rfl) ⟨rfl, trivial⟩ (by kernel_rfl) ?_
                            refine kl_steps 1 [(0, .string a0), (3, .pointer (some ⟨b1, 0, none⟩)), (4, .slice A17 l15.length k18), (5, .int .i64 x20), (8, .pointer (some ⟨b38, 0, none⟩)), (77, .string r69), (79, .pointer (some ⟨b38, 1, none⟩))] (by kernel_rfl) ?_
                            refine kl_store (cs' := #[.int .i64 (5 : Int), .string r69, .int .i64 (0 : Int), .int .i64 x20]) [.st ⟨b38, 1, none⟩ (.string r69)] (by kernel_rfl) (by kernel_rfl) (by kernel_rfl) ⟨rfl, trivial⟩ (by kernel_rfl) ?_
                            refine k_nil ?_
                            refine k_then ?_
                            refine k_seq ?_
                            refine k_region ?_
                            refine kl_steps 1 [(0, .string a0), (3, .pointer (some ⟨b1, 0, none⟩)), (4, .slice A17 l15.length k18), (5, .int .i64 x20), (8, .pointer (some ⟨b38, 0, none⟩)), (80, .pointer (some ⟨b38, 1, none⟩))] (by kernel_rfl) ?_
                            refine kl_load (v := .string r69) [.val (.string r69)] [.ld ⟨b38, 1, none⟩ (.string r69)] (by kernel_rfl) (by kernel_rfl) (by kernel_rfl) ⟨⟨0, _, _, _, rfl, rfl, rfl⟩, trivial⟩ ?_
                            refine kl_steps 2 [(0, .string a0), (3, .pointer (some ⟨b1, 0, none⟩)), (4, .slice A17 l15.length k18), (5, .int .i64 x20), (8, .pointer (some ⟨b38, 0, none⟩)), (9, .int .i64 (r69.size : Int))] (by kernel_rfl) ?_
                            refine k_nil ?_
                            refine k_then ?_
                            refine k_seq ?_
                            refine k_region ?_
                            refine kl_steps 2 [(0, .string a0), (3, .pointer (some ⟨b1, 0, none⟩)), (4, .slice A17 l15.length k18), (5, .int .i64 x20), (8, .pointer (some ⟨b38, 0, none⟩)), (9, .int .i64 (r69.size : Int)), (84, .bool ((r69.size : Int) == (0 : Int)))] (by kernel_rfl) ?_
                            refine k_nil ?_
                            refine k_then ?_
                            refine k_cond (t := ((r69.size : Int) == (0 : Int))) (by kernel_rfl) (fun t70 => ?_) (fun t70 => ?_)
                            · have h := condT h t70
                              refine k_seq ?_
                              refine k_region ?_
                              refine kl_steps 3 [(3, .pointer (some ⟨b1, 0, none⟩)), (86, .agg #[.int .i64 (4 : Int), .int .i64 x20]), (2, .slice none 0 0)] (by kernel_rfl) ?_
                              refine K.mv1 ?_
                              refine kl_store (cs' := #[.int .i64 (4 : Int), .int .i64 x20]) [.st ⟨b1, 0, none⟩ (.int .i64 (4 : Int)), .st ⟨b1, 1, none⟩ (.int .i64 x20)] (by kernel_rfl) (by kernel_rfl) (by kernel_rfl) ⟨rfl, rfl, trivial⟩ (by kernel_rfl) ?_
                              refine K.mv1 ?_
                              refine K.drop ?_
                              refine K.mv1 ?_
                              refine K.drop ?_
                              refine k_nil ?_
                              refine k_then ?_
                              refine k_ret ?_
                              refine k_blk_ret ?_
                              refine k_then_ret ?_
                              refine k_blk_ret ?_
                              refine k_then_ret ?_
                              refine k_blk_ret ?_
                              refine k_then_ret ?_
                              obtain rfl := Option.some.inj h
                              refine k_done (v := .tuple #[.slice none 0 0, .agg #[.int .i64 (4 : Int), .int .i64 x20]]) [.val (.int .i64 (4 : Int)), .val (.int .i64 x20)] [.ld ⟨b1, 0, none⟩ (.int .i64 (4 : Int)), .ld ⟨b1, 1, none⟩ (.int .i64 x20)] [none_] (by kernel_rfl) (by kernel_rfl) ⟨⟨0, _, _, _, rfl, rfl, rfl⟩, ⟨0, _, _, _, rfl, rfl, rfl⟩, trivial⟩ ?_
                              refine k_none ?_
                              refine K.mv1 ?_
                              refine K.drop ?_
                              exact k_end ⟨none_, none, 0, (OwnT.nil e50 50 4 none_), rfl, rfl⟩
                            · have h := condF h t70
                              refine k_skip ?_
                              refine k_blk ?_
                              refine k_then ?_
                              exact k_meet ((r69.size : Int), (5 : Int), r69, (0 : Int)) h ⟨rfl, rfl, rfl, rfl, rfl, rfl, trivial⟩ rfl
                        · have h := hq64
                          clear hq64
                          refine k_region ?_
                          refine kl_steps 3 [(0, .string a0), (3, .pointer (some ⟨b1, 0, none⟩)), (4, .slice A17 l15.length k18), (5, .int .i64 x20), (6, .int .u8 (c23.toNat : Int)), (8, .pointer (some ⟨b38, 0, none⟩)), (145, .bool ((c23.toNat : Int) == (34 : Int)))] (by kernel_rfl) ?_
                          rcases Bool.eq_false_or_eq_true (((c23.toNat : Int) == (34 : Int))) with t71 | t71
                          · have h := condT h t71
                            refine K.weak (env' := [(0, .string a0), (3, .pointer (some ⟨b1, 0, none⟩)), (4, .slice A17 l15.length k18), (5, .int .i64 x20), (6, .int .u8 (c23.toNat : Int)), (8, .pointer (some ⟨b38, 0, none⟩)), (145, .bool true)]) ?_ ⟨rfl, rfl, rfl, rfl, rfl, rfl, congrArg (fun b => some (Value.bool b)) t71, trivial⟩
                            refine kl_steps 4 [(0, .string a0), (3, .pointer (some ⟨b1, 0, none⟩)), (4, .slice A17 l15.length k18), (5, .int .i64 x20), (8, .pointer (some ⟨b38, 0, none⟩)), (142, .bool true)] (by kernel_rfl) ?_
                            refine k_nil ?_
                            refine k_then ?_
                            exact k_meet1 ⟨rfl, rfl, rfl, rfl, rfl, congrArg (fun b => some (Value.bool b)) (Option.some.inj h), trivial⟩
                          · have h := condF h t71
                            refine K.weak (env' := [(0, .string a0), (3, .pointer (some ⟨b1, 0, none⟩)), (4, .slice A17 l15.length k18), (5, .int .i64 x20), (6, .int .u8 (c23.toNat : Int)), (8, .pointer (some ⟨b38, 0, none⟩)), (145, .bool false)]) ?_ ⟨rfl, rfl, rfl, rfl, rfl, rfl, congrArg (fun b => some (Value.bool b)) t71, trivial⟩
                            refine kl_steps 4 [(0, .string a0), (3, .pointer (some ⟨b1, 0, none⟩)), (4, .slice A17 l15.length k18), (5, .int .i64 x20), (8, .pointer (some ⟨b38, 0, none⟩)), (142, .bool ((c23.toNat : Int) == (39 : Int)))] (by kernel_rfl) ?_
                            refine k_nil ?_
                            refine k_then ?_
                            exact k_meet1 ⟨rfl, rfl, rfl, rfl, rfl, congrArg (fun b => some (Value.bool b)) (Option.some.inj h), trivial⟩
              · have h := hq26
                clear hq26
                refine k_region ?_
                refine kl_steps 3 [(0, .string a0), (3, .pointer (some ⟨b1, 0, none⟩)), (4, .slice A17 l15.length k18), (5, .int .i64 x20), (6, .int .u8 (c23.toNat : Int)), (44, .bool ((c23.toNat : Int) == (45 : Int)))] (by kernel_rfl) ?_
                rcases Bool.eq_false_or_eq_true (((c23.toNat : Int) == (45 : Int))) with t72 | t72
                · have h := condT h t72
                  refine K.weak (env' := [(0, .string a0), (3, .pointer (some ⟨b1, 0, none⟩)), (4, .slice A17 l15.length k18), (5, .int .i64 x20), (6, .int .u8 (c23.toNat : Int)), (44, .bool true)]) ?_ ⟨rfl, rfl, rfl, rfl, rfl, congrArg (fun b => some (Value.bool b)) t72, trivial⟩
                  refine kl_steps 7 [(0, .string a0), (3, .pointer (some ⟨b1, 0, none⟩)), (4, .slice A17 l15.length k18), (5, .int .i64 x20), (6, .int .u8 (c23.toNat : Int)), (51, .bool (decide ((IntKind.i64.wrap (x20 + (1 : Int))) < (a0.size : Int))))] (by kernel_rfl) ?_
                  rcases Bool.eq_false_or_eq_true (decide ((IntKind.i64.wrap (x20 + (1 : Int))) < (a0.size : Int))) with t73 | t73
                  · have h := condT h t73
                    refine K.weak (env' := [(0, .string a0), (3, .pointer (some ⟨b1, 0, none⟩)), (4, .slice A17 l15.length k18), (5, .int .i64 x20), (6, .int .u8 (c23.toNat : Int)), (51, .bool true)]) ?_ ⟨rfl, rfl, rfl, rfl, rfl, congrArg (fun b => some (Value.bool b)) t73, trivial⟩
                    refine kl_steps 3 [(0, .string a0), (3, .pointer (some ⟨b1, 0, none⟩)), (4, .slice A17 l15.length k18), (5, .int .i64 x20), (6, .int .u8 (c23.toNat : Int)), (51, .bool true), (52, .string a0), (54, .int .i64 (IntKind.i64.wrap (x20 + (1 : Int))))] (by kernel_rfl) ?_
                    obtain ⟨c74, hc74, h⟩ := bindSome h
                    refine kl_index (kd := .i64) rfl (by kernel_rfl) (by kernel_rfl) (by kernel_rfl) (by kernel_rfl) (by kernel_rfl) hc74 ?_
                    refine kl_steps 2 [(0, .string a0), (3, .pointer (some ⟨b1, 0, none⟩)), (4, .slice A17 l15.length k18), (5, .int .i64 x20), (6, .int .u8 (c23.toNat : Int)), (57, .bool ((c74.toNat : Int) == (45 : Int)))] (by kernel_rfl) ?_
                    refine k_nil ?_
                    refine k_then ?_
                    exact k_meet1 ⟨rfl, rfl, rfl, rfl, rfl, congrArg (fun b => some (Value.bool b)) (Option.some.inj h), trivial⟩
                  · have h := condF h t73
                    refine K.weak (env' := [(0, .string a0), (3, .pointer (some ⟨b1, 0, none⟩)), (4, .slice A17 l15.length k18), (5, .int .i64 x20), (6, .int .u8 (c23.toNat : Int)), (51, .bool false)]) ?_ ⟨rfl, rfl, rfl, rfl, rfl, congrArg (fun b => some (Value.bool b)) t73, trivial⟩
                    refine kl_steps 6 [(0, .string a0), (3, .pointer (some ⟨b1, 0, none⟩)), (4, .slice A17 l15.length k18), (5, .int .i64 x20), (6, .int .u8 (c23.toNat : Int)), (57, .bool false)] (by kernel_rfl) ?_
                    refine k_nil ?_
                    refine k_then ?_
                    exact k_meet1 ⟨rfl, rfl, rfl, rfl, rfl, congrArg (fun b => some (Value.bool b)) (Option.some.inj h), trivial⟩
                · have h := condF h t72
                  refine K.weak (env' := [(0, .string a0), (3, .pointer (some ⟨b1, 0, none⟩)), (4, .slice A17 l15.length k18), (5, .int .i64 x20), (6, .int .u8 (c23.toNat : Int)), (44, .bool false)]) ?_ ⟨rfl, rfl, rfl, rfl, rfl, congrArg (fun b => some (Value.bool b)) t72, trivial⟩
                  refine kl_steps 13 [(0, .string a0), (3, .pointer (some ⟨b1, 0, none⟩)), (4, .slice A17 l15.length k18), (5, .int .i64 x20), (6, .int .u8 (c23.toNat : Int)), (57, .bool false)] (by kernel_rfl) ?_
                  refine k_nil ?_
                  refine k_then ?_
                  exact k_meet1 ⟨rfl, rfl, rfl, rfl, rfl, congrArg (fun b => some (Value.bool b)) (Option.some.inj h), trivial⟩
          · have h := hq24
            clear hq24
            refine k_region ?_
            refine kl_steps 3 [(0, .string a0), (3, .pointer (some ⟨b1, 0, none⟩)), (4, .slice A17 l15.length k18), (5, .int .i64 x20), (6, .int .u8 (c23.toNat : Int)), (28, .bool ((c23.toNat : Int) == (32 : Int)))] (by kernel_rfl) ?_
            rcases Bool.eq_false_or_eq_true (((c23.toNat : Int) == (32 : Int))) with t75 | t75
            · have h := condT h t75
              refine K.weak (env' := [(0, .string a0), (3, .pointer (some ⟨b1, 0, none⟩)), (4, .slice A17 l15.length k18), (5, .int .i64 x20), (6, .int .u8 (c23.toNat : Int)), (28, .bool true)]) ?_ ⟨rfl, rfl, rfl, rfl, rfl, congrArg (fun b => some (Value.bool b)) t75, trivial⟩
              refine kl_steps 11 [(0, .string a0), (3, .pointer (some ⟨b1, 0, none⟩)), (4, .slice A17 l15.length k18), (5, .int .i64 x20), (6, .int .u8 (c23.toNat : Int)), (39, .bool true)] (by kernel_rfl) ?_
              refine k_nil ?_
              refine k_then ?_
              exact k_meet1 ⟨rfl, rfl, rfl, rfl, rfl, congrArg (fun b => some (Value.bool b)) (Option.some.inj h), trivial⟩
            · have h := condF h t75
              refine K.weak (env' := [(0, .string a0), (3, .pointer (some ⟨b1, 0, none⟩)), (4, .slice A17 l15.length k18), (5, .int .i64 x20), (6, .int .u8 (c23.toNat : Int)), (28, .bool false)]) ?_ ⟨rfl, rfl, rfl, rfl, rfl, congrArg (fun b => some (Value.bool b)) t75, trivial⟩
              refine kl_steps 4 [(0, .string a0), (3, .pointer (some ⟨b1, 0, none⟩)), (4, .slice A17 l15.length k18), (5, .int .i64 x20), (6, .int .u8 (c23.toNat : Int)), (32, .bool ((c23.toNat : Int) == (9 : Int)))] (by kernel_rfl) ?_
              rcases Bool.eq_false_or_eq_true (((c23.toNat : Int) == (9 : Int))) with t76 | t76
              · have h := condT h t76
                refine K.weak (env' := [(0, .string a0), (3, .pointer (some ⟨b1, 0, none⟩)), (4, .slice A17 l15.length k18), (5, .int .i64 x20), (6, .int .u8 (c23.toNat : Int)), (32, .bool true)]) ?_ ⟨rfl, rfl, rfl, rfl, rfl, congrArg (fun b => some (Value.bool b)) t76, trivial⟩
                refine kl_steps 7 [(0, .string a0), (3, .pointer (some ⟨b1, 0, none⟩)), (4, .slice A17 l15.length k18), (5, .int .i64 x20), (6, .int .u8 (c23.toNat : Int)), (39, .bool true)] (by kernel_rfl) ?_
                refine k_nil ?_
                refine k_then ?_
                exact k_meet1 ⟨rfl, rfl, rfl, rfl, rfl, congrArg (fun b => some (Value.bool b)) (Option.some.inj h), trivial⟩
              · have h := condF h t76
                refine K.weak (env' := [(0, .string a0), (3, .pointer (some ⟨b1, 0, none⟩)), (4, .slice A17 l15.length k18), (5, .int .i64 x20), (6, .int .u8 (c23.toNat : Int)), (32, .bool false)]) ?_ ⟨rfl, rfl, rfl, rfl, rfl, congrArg (fun b => some (Value.bool b)) t76, trivial⟩
                refine kl_steps 4 [(0, .string a0), (3, .pointer (some ⟨b1, 0, none⟩)), (4, .slice A17 l15.length k18), (5, .int .i64 x20), (6, .int .u8 (c23.toNat : Int)), (36, .bool ((c23.toNat : Int) == (10 : Int)))] (by kernel_rfl) ?_
                rcases Bool.eq_false_or_eq_true (((c23.toNat : Int) == (10 : Int))) with t77 | t77
                · have h := condT h t77
                  refine K.weak (env' := [(0, .string a0), (3, .pointer (some ⟨b1, 0, none⟩)), (4, .slice A17 l15.length k18), (5, .int .i64 x20), (6, .int .u8 (c23.toNat : Int)), (36, .bool true)]) ?_ ⟨rfl, rfl, rfl, rfl, rfl, congrArg (fun b => some (Value.bool b)) t77, trivial⟩
                  refine kl_steps 3 [(0, .string a0), (3, .pointer (some ⟨b1, 0, none⟩)), (4, .slice A17 l15.length k18), (5, .int .i64 x20), (6, .int .u8 (c23.toNat : Int)), (39, .bool true)] (by kernel_rfl) ?_
                  refine k_nil ?_
                  refine k_then ?_
                  exact k_meet1 ⟨rfl, rfl, rfl, rfl, rfl, congrArg (fun b => some (Value.bool b)) (Option.some.inj h), trivial⟩
                · have h := condF h t77
                  refine K.weak (env' := [(0, .string a0), (3, .pointer (some ⟨b1, 0, none⟩)), (4, .slice A17 l15.length k18), (5, .int .i64 x20), (6, .int .u8 (c23.toNat : Int)), (36, .bool false)]) ?_ ⟨rfl, rfl, rfl, rfl, rfl, congrArg (fun b => some (Value.bool b)) t77, trivial⟩
                  refine kl_steps 3 [(0, .string a0), (3, .pointer (some ⟨b1, 0, none⟩)), (4, .slice A17 l15.length k18), (5, .int .i64 x20), (6, .int .u8 (c23.toNat : Int)), (39, .bool ((c23.toNat : Int) == (13 : Int)))] (by kernel_rfl) ?_
                  refine k_nil ?_
                  refine k_then ?_
                  exact k_meet1 ⟨rfl, rfl, rfl, rfl, rfl, congrArg (fun b => some (Value.bool b)) (Option.some.inj h), trivial⟩
        · have h := condF h t22
          refine k_exit ?_
          refine k_then_exit ?_
          refine k_then_exit ?_
          refine k_here ?_
          refine k_then ?_
          exact k_meet (l15, h16, A17, k18) ⟨h, o19⟩ ⟨rfl, rfl, rfl, trivial⟩ rfl
end Go.Proofs.YtadenjlehhopmaaDoor
