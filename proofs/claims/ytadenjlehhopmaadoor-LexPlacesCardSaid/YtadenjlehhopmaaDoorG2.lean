/- Printed by a program of mine (wip/mk.py): functions with the same answers as the Go code, and the proof of it. -/
import Derived.Test.YtadenjlehhopmaaDoorG1
namespace Go.Proofs.YtadenjlehhopmaaDoor
open Go Go.RowKit
set_option linter.unusedSimpArgs false
set_option linter.unusedVariables false
def r11_escape.l0 : Nat → (a0 : ByteArray) → (a1 : Int) → (J36 : Int → Int → Option (List Int × Int)) → (x41 : Int) → (x42 : Int) → Option (List Int × Int)
  | 0, _, _, _, _, _ => none
  | m43 + 1, a0, a1, J36, x41, x42 => (cond (decide (x42 < (3 : Int))) (cond (decide ((IntKind.i64.wrap ((IntKind.i64.wrap (a1 + (1 : Int))) + x42)) < (a0.size : Int))) ((sIdx a0 (IntKind.i64.wrap ((IntKind.i64.wrap (a1 + (1 : Int))) + x42))).bind fun c49 : UInt8 => cond (decide ((c49.toNat : Int) ≥ (48 : Int))) ((sIdx a0 (IntKind.i64.wrap ((IntKind.i64.wrap (a1 + (1 : Int))) + x42))).bind fun c51 : UInt8 => some (decide ((c51.toNat : Int) ≤ (57 : Int)))) (some false)) (some false)) (some false) : Option Bool).bind fun q44 => cond q44 ((sIdx a0 (IntKind.i64.wrap ((IntKind.i64.wrap (a1 + (1 : Int))) + x42))).bind fun c46 : UInt8 => r11_escape.l0 m43 a0 a1 J36 (IntKind.i64.wrap ((IntKind.i64.wrap ((IntKind.i64.wrap (x41 * (10 : Int))) + (IntKind.i64.wrap (c46.toNat : Int)))) - (48 : Int))) (IntKind.i64.wrap (x42 + (1 : Int)))) (J36 x41 x42)
def r11_escape.f (k : Nat) (a0 : ByteArray) (a1 : Int) : Option (List Int × Int) := (sIdx a0 (IntKind.i64.wrap (a1 + (1 : Int)))).bind fun c1 : UInt8 => cond ((c1.toNat : Int) == (110 : Int)) (some ([(10 : Int)], (2 : Int))) (cond ((c1.toNat : Int) == (116 : Int)) (some ([(9 : Int)], (2 : Int))) (cond ((c1.toNat : Int) == (114 : Int)) (some ([(13 : Int)], (2 : Int))) (joinF (fun (x8 : Bool) => cond x8 (some ([(c1.toNat : Int)], (2 : Int))) (cond ((c1.toNat : Int) == (120 : Int)) ((r11_hexes.f k a0 (IntKind.i64.wrap (a1 + (2 : Int))) (2 : Int)).bind fun r13 => cond (r13.2 == (2 : Int)) (some ([IntKind.u8.wrap r13.1], (4 : Int))) (some ([], (0 : Int)))) (cond ((c1.toNat : Int) == (117 : Int)) ((cond (decide ((IntKind.i64.wrap (a1 + (2 : Int))) ≥ (a0.size : Int))) (some true) ((sIdx a0 (IntKind.i64.wrap (a1 + (2 : Int)))).bind fun c33 : UInt8 => some ((c33.toNat : Int) != (123 : Int))) : Option Bool).bind fun q17 => cond q17 (some ([], (0 : Int))) ((r11_hexes.f k a0 (IntKind.i64.wrap (a1 + (3 : Int))) (8 : Int)).bind fun r19 => (r01_Encode.f k r19.1).bind fun r20 => (cond (r19.2 == (0 : Int)) (some true) (cond (r20.2 != (0 : Int)) (some true) (cond (decide ((IntKind.i64.wrap ((IntKind.i64.wrap (a1 + (3 : Int))) + r19.2)) ≥ (a0.size : Int))) (some true) ((sIdx a0 (IntKind.i64.wrap ((IntKind.i64.wrap (a1 + (3 : Int))) + r19.2))).bind fun c31 : UInt8 => some ((c31.toNat : Int) != (125 : Int))))) : Option Bool).bind fun q21 => cond q21 (some ([], (0 : Int))) (cond (decide (r20.1.size ≤ 140737488355328)) (some ((bsI r20.1), IntKind.i64.wrap (r19.2 + (4 : Int)))) none))) (joinF (fun (x34 : Int) (x35 : Int) => (cond (x35 == (0 : Int)) (some true) (some (decide (x34 > (255 : Int)))) : Option Bool).bind fun q37 => cond q37 (some ([], (0 : Int))) (some ([IntKind.u8.wrap x34], IntKind.i64.wrap (x35 + (1 : Int))))) (fun J36 => r11_escape.l0 k a0 a1 J36 (0 : Int) (0 : Int)))))) (fun J9 => cond ((c1.toNat : Int) == (92 : Int)) (J9 ((c1.toNat : Int) == (92 : Int))) (cond ((c1.toNat : Int) == (34 : Int)) (J9 ((c1.toNat : Int) == (34 : Int))) (J9 ((c1.toNat : Int) == (39 : Int))))))))
set_option maxRecDepth 100000 in
theorem r11_escape.ok {k : Nat} {a0 : ByteArray} {a1 : Int} {r : List Int × Int} (h : r11_escape.f k a0 a1 = some r) : Ct Tryd.prog 50 #[.string a0, .int .i64 a1] [] [] (fun e l1 => ∃ (H0_ : Frag) (A0_ : Option Addr) (c0_ : Nat), RdT (encI .u8) 1 H0_ (.slice A0_ r.1.length c0_) r.1 ∧ e = .returned (.tuple #[.slice A0_ r.1.length c0_, .int .i64 r.2]) ∧ l1 = [H0_]) := by
  refine ct_enter (args := [.string a0, .int .i64 a1]) Tryd.func50 rfl (Nat.le_of_ble_eq_true rfl) ?_
  intro A X hh_
  unfold r11_escape.f at h
  refine k_seq ?_
  refine k_region ?_
  refine kl_steps 2 [(0, .string a0), (1, .int .i64 a1)] (by kernel_rfl) ?_
  refine k_nil ?_
  refine k_then ?_
  refine k_seq ?_
  refine k_region ?_
  refine kl_steps 3 [(0, .string a0), (1, .int .i64 a1), (15, .string a0), (17, .int .i64 (IntKind.i64.wrap (a1 + (1 : Int))))] (by kernel_rfl) ?_
  obtain ⟨c1, hc1, h⟩ := bindSome h
  refine kl_index (kd := .i64) rfl (by kernel_rfl) (by kernel_rfl) (by kernel_rfl) (by kernel_rfl) (by kernel_rfl) hc1 ?_
  refine kl_steps 1 [(0, .string a0), (1, .int .i64 a1), (6, .int .u8 (c1.toNat : Int))] (by kernel_rfl) ?_
  refine k_nil ?_
  refine k_then ?_
  refine k_seq ?_
  refine k_seq ?_
  refine k_region ?_
  refine kl_steps 1 [(0, .string a0), (1, .int .i64 a1), (6, .int .u8 (c1.toNat : Int)), (19, .int .u8 (c1.toNat : Int))] (by kernel_rfl) ?_
  refine k_nil ?_
  refine k_then ?_
  refine k_block ?_
  refine k_seq ?_
  refine k_region ?_
  refine kl_steps 2 [(0, .string a0), (1, .int .i64 a1), (6, .int .u8 (c1.toNat : Int)), (19, .int .u8 (c1.toNat : Int)), (20, .bool ((c1.toNat : Int) == (110 : Int)))] (by kernel_rfl) ?_
  refine k_nil ?_
  refine k_then ?_
  refine k_cond (t := ((c1.toNat : Int) == (110 : Int))) (by kernel_rfl) (fun t2 => ?_) (fun t2 => ?_)
  · have h := condT h t2
    refine k_seq ?_
    refine k_region ?_
    refine kl_new (.cells #[.int .u8 (10 : Int)] 5 (0, 0)) (fun b => .slice (some ⟨b, 0, none⟩) 1 1) (by kernel_rfl) (by kernel_rfl) (fun _ => by kernel_rfl) fun b3 => ?_
    refine kl_steps 2 [(4, .slice (some ⟨b3, 0, none⟩) 1 1), (5, .int .i64 (2 : Int))] (by kernel_rfl) ?_
    refine k_nil ?_
    refine k_then ?_
    refine k_ret ?_
    refine k_blk_ret ?_
    refine k_then_ret ?_
    obtain rfl := Option.some.inj h
    refine k_done (v := .tuple #[.slice (some ⟨b3, 0, none⟩) 1 1, .int .i64 (2 : Int)]) [] [] [blk b3 (.cells #[.int .u8 (10 : Int)] 5 (0, 0))] (by kernel_rfl) (by kernel_rfl) trivial ?_
    exact k_end ⟨blk b3 (.cells #[.int .u8 (10 : Int)] 5 (0, 0)), (some ⟨b3, 0, none⟩), 1, (OwnT.rd (OwnT.blk 5 (encI_ok .u8) b3 [(10 : Int)] #[.int .u8 (10 : Int)] 1 (by kernel_rfl) rfl (by decide))), rfl, rfl⟩
  · have h := condF h t2
    refine k_seq ?_
    refine k_region ?_
    refine kl_steps 2 [(0, .string a0), (1, .int .i64 a1), (6, .int .u8 (c1.toNat : Int)), (19, .int .u8 (c1.toNat : Int)), (23, .bool ((c1.toNat : Int) == (116 : Int)))] (by kernel_rfl) ?_
    refine k_nil ?_
    refine k_then ?_
    refine k_cond (t := ((c1.toNat : Int) == (116 : Int))) (by kernel_rfl) (fun t4 => ?_) (fun t4 => ?_)
    · have h := condT h t4
      refine k_seq ?_
      refine k_region ?_
      refine kl_new (.cells #[.int .u8 (9 : Int)] 5 (0, 0)) (fun b => .slice (some ⟨b, 0, none⟩) 1 1) (by kernel_rfl) (by kernel_rfl) (fun _ => by kernel_rfl) fun b5 => ?_
      refine kl_steps 2 [(4, .slice (some ⟨b5, 0, none⟩) 1 1), (5, .int .i64 (2 : Int))] (by kernel_rfl) ?_
      refine k_nil ?_
      refine k_then ?_
      refine k_ret ?_
      refine k_blk_ret ?_
      refine k_then_ret ?_
      obtain rfl := Option.some.inj h
      refine k_done (v := .tuple #[.slice (some ⟨b5, 0, none⟩) 1 1, .int .i64 (2 : Int)]) [] [] [blk b5 (.cells #[.int .u8 (9 : Int)] 5 (0, 0))] (by kernel_rfl) (by kernel_rfl) trivial ?_
      exact k_end ⟨blk b5 (.cells #[.int .u8 (9 : Int)] 5 (0, 0)), (some ⟨b5, 0, none⟩), 1, (OwnT.rd (OwnT.blk 5 (encI_ok .u8) b5 [(9 : Int)] #[.int .u8 (9 : Int)] 1 (by kernel_rfl) rfl (by decide))), rfl, rfl⟩
    · have h := condF h t4
      refine k_seq ?_
      refine k_region ?_
      refine kl_steps 2 [(0, .string a0), (1, .int .i64 a1), (6, .int .u8 (c1.toNat : Int)), (19, .int .u8 (c1.toNat : Int)), (26, .bool ((c1.toNat : Int) == (114 : Int)))] (by kernel_rfl) ?_
      refine k_nil ?_
      refine k_then ?_
      refine k_cond (t := ((c1.toNat : Int) == (114 : Int))) (by kernel_rfl) (fun t6 => ?_) (fun t6 => ?_)
      · have h := condT h t6
        refine k_seq ?_
        refine k_region ?_
        refine kl_new (.cells #[.int .u8 (13 : Int)] 5 (0, 0)) (fun b => .slice (some ⟨b, 0, none⟩) 1 1) (by kernel_rfl) (by kernel_rfl) (fun _ => by kernel_rfl) fun b7 => ?_
        refine kl_steps 2 [(4, .slice (some ⟨b7, 0, none⟩) 1 1), (5, .int .i64 (2 : Int))] (by kernel_rfl) ?_
        refine k_nil ?_
        refine k_then ?_
        refine k_ret ?_
        refine k_blk_ret ?_
        refine k_then_ret ?_
        obtain rfl := Option.some.inj h
        refine k_done (v := .tuple #[.slice (some ⟨b7, 0, none⟩) 1 1, .int .i64 (2 : Int)]) [] [] [blk b7 (.cells #[.int .u8 (13 : Int)] 5 (0, 0))] (by kernel_rfl) (by kernel_rfl) trivial ?_
        exact k_end ⟨blk b7 (.cells #[.int .u8 (13 : Int)] 5 (0, 0)), (some ⟨b7, 0, none⟩), 1, (OwnT.rd (OwnT.blk 5 (encI_ok .u8) b7 [(13 : Int)] #[.int .u8 (13 : Int)] 1 (by kernel_rfl) rfl (by decide))), rfl, rfl⟩
      · have h := condF h t6
        obtain ⟨J9, hJ9, h⟩ := joinSplit h
        refine k_cut (τ := Bool) (fun t => [(0, .string a0), (1, .int .i64 a1), (6, .int .u8 (c1.toNat : Int)), (19, .int .u8 (c1.toNat : Int)), (29, .bool t)]) (fun t => X) (fun t => J9 t = some r) ?_ ?_
        · rintro x8 h
          subst hJ9
          refine k_cond (t := x8) (by kernel_rfl) (fun t10 => ?_) (fun t10 => ?_)
          · have h := condT h t10
            refine k_seq ?_
            refine k_region ?_
            refine kl_steps 1 [(33, .int .u8 (c1.toNat : Int))] (by kernel_rfl) ?_
            refine kl_new (.cells #[.int .u8 (c1.toNat : Int)] 5 (0, 0)) (fun b => .slice (some ⟨b, 0, none⟩) 1 1) (by kernel_rfl) (by kernel_rfl) (fun _ => by kernel_rfl) fun b11 => ?_
            refine kl_steps 2 [(4, .slice (some ⟨b11, 0, none⟩) 1 1), (5, .int .i64 (2 : Int))] (by kernel_rfl) ?_
            refine k_nil ?_
            refine k_then ?_
            refine k_ret ?_
            refine k_blk_ret ?_
            refine k_then_ret ?_
            obtain rfl := Option.some.inj h
            refine k_done (v := .tuple #[.slice (some ⟨b11, 0, none⟩) 1 1, .int .i64 (2 : Int)]) [] [] [blk b11 (.cells #[.int .u8 (c1.toNat : Int)] 5 (0, 0))] (by kernel_rfl) (by kernel_rfl) trivial ?_
            exact k_end ⟨blk b11 (.cells #[.int .u8 (c1.toNat : Int)] 5 (0, 0)), (some ⟨b11, 0, none⟩), 1, (OwnT.rd (OwnT.blk 5 (encI_ok .u8) b11 [(c1.toNat : Int)] #[.int .u8 (c1.toNat : Int)] 1 (by kernel_rfl) rfl (by decide))), rfl, rfl⟩
          · have h := condF h t10
            refine k_seq ?_
            refine k_region ?_
            refine kl_steps 2 [(0, .string a0), (1, .int .i64 a1), (19, .int .u8 (c1.toNat : Int)), (35, .bool ((c1.toNat : Int) == (120 : Int)))] (by kernel_rfl) ?_
            refine k_nil ?_
            refine k_then ?_
            refine k_cond (t := ((c1.toNat : Int) == (120 : Int))) (by kernel_rfl) (fun t12 => ?_) (fun t12 => ?_)
            · have h := condT h t12
              refine k_seq ?_
              refine k_region ?_
              refine kl_steps 3 [(38, .string a0), (40, .int .i64 (IntKind.i64.wrap (a1 + (2 : Int))))] (by kernel_rfl) ?_
              obtain ⟨r13, hr13, h⟩ := bindSome h
              refine kl_callv (by kernel_rfl) (by kernel_rfl) (by kernel_rfl) (r11_hexes.ok hr13) trivial ?_
              refine kl_steps 5 [(7, .int .i64 r13.1), (8, .int .i64 r13.2)] (by kernel_rfl) ?_
              refine k_nil ?_
              refine k_then ?_
              refine k_seq ?_
              refine k_seq ?_
              refine k_region ?_
              refine kl_steps 2 [(7, .int .i64 r13.1), (45, .bool (r13.2 == (2 : Int)))] (by kernel_rfl) ?_
              refine k_nil ?_
              refine k_then ?_
              refine k_cond (t := (r13.2 == (2 : Int))) (by kernel_rfl) (fun t14 => ?_) (fun t14 => ?_)
              · have h := condT h t14
                refine k_seq ?_
                refine k_region ?_
                refine kl_steps 2 [(47, .int .u8 (IntKind.u8.wrap r13.1))] (by kernel_rfl) ?_
                refine kl_new (.cells #[.int .u8 (IntKind.u8.wrap r13.1)] 5 (0, 0)) (fun b => .slice (some ⟨b, 0, none⟩) 1 1) (by kernel_rfl) (by kernel_rfl) (fun _ => by kernel_rfl) fun b15 => ?_
                refine kl_steps 2 [(4, .slice (some ⟨b15, 0, none⟩) 1 1), (5, .int .i64 (4 : Int))] (by kernel_rfl) ?_
                refine k_nil ?_
                refine k_then ?_
                refine k_ret ?_
                refine k_then_ret ?_
                refine k_blk_ret ?_
                refine k_then_ret ?_
                obtain rfl := Option.some.inj h
                refine k_done (v := .tuple #[.slice (some ⟨b15, 0, none⟩) 1 1, .int .i64 (4 : Int)]) [] [] [blk b15 (.cells #[.int .u8 (IntKind.u8.wrap r13.1)] 5 (0, 0))] (by kernel_rfl) (by kernel_rfl) trivial ?_
                exact k_end ⟨blk b15 (.cells #[.int .u8 (IntKind.u8.wrap r13.1)] 5 (0, 0)), (some ⟨b15, 0, none⟩), 1, (OwnT.rd (OwnT.blk 5 (encI_ok .u8) b15 [IntKind.u8.wrap r13.1] #[.int .u8 (IntKind.u8.wrap r13.1)] 1 (by kernel_rfl) rfl (by decide))), rfl, rfl⟩
              · have h := condF h t14
                refine k_skip ?_
                refine k_then ?_
                refine k_seq ?_
                refine k_region ?_
                refine kl_steps 2 [(4, .slice none 0 0), (5, .int .i64 (0 : Int))] (by kernel_rfl) ?_
                refine k_nil ?_
                refine k_then ?_
                refine k_ret ?_
                refine k_blk_ret ?_
                refine k_then_ret ?_
                obtain rfl := Option.some.inj h
                refine k_done (v := .tuple #[.slice none 0 0, .int .i64 (0 : Int)]) [] [] [none_] (by kernel_rfl) (by kernel_rfl) trivial ?_
                refine k_none ?_
                exact k_end ⟨none_, none, 0, (RdT.nil (encI .u8) 1 none_), rfl, rfl⟩
            · have h := condF h t12
              refine k_seq ?_
              refine k_region ?_
              refine kl_steps 2 [(0, .string a0), (1, .int .i64 a1), (49, .bool ((c1.toNat : Int) == (117 : Int)))] (by kernel_rfl) ?_
              refine k_nil ?_
              refine k_then ?_
              refine k_cond (t := ((c1.toNat : Int) == (117 : Int))) (by kernel_rfl) (fun t16 => ?_) (fun t16 => ?_)
              · have h := condT h t16
                refine k_seq ?_
                obtain ⟨q17, hq17, h⟩ := bindSome h
                refine k_cut1 [(0, .string a0), (1, .int .i64 a1), (62, .bool q17)] (X) ?_ ?_
                · clear hq17
                  refine k_cond (t := q17) (by kernel_rfl) (fun t18 => ?_) (fun t18 => ?_)
                  · have h := condT h t18
                    refine k_seq ?_
                    refine k_region ?_
                    refine kl_steps 2 [(4, .slice none 0 0), (5, .int .i64 (0 : Int))] (by kernel_rfl) ?_
                    refine k_nil ?_
                    refine k_then ?_
                    refine k_ret ?_
                    refine k_then_ret ?_
                    refine k_blk_ret ?_
                    refine k_then_ret ?_
                    obtain rfl := Option.some.inj h
                    refine k_done (v := .tuple #[.slice none 0 0, .int .i64 (0 : Int)]) [] [] [none_] (by kernel_rfl) (by kernel_rfl) trivial ?_
                    refine k_none ?_
                    exact k_end ⟨none_, none, 0, (RdT.nil (encI .u8) 1 none_), rfl, rfl⟩
                  · have h := condF h t18
                    refine k_skip ?_
                    refine k_then ?_
                    refine k_seq ?_
                    refine k_region ?_
                    refine kl_steps 3 [(0, .string a0), (1, .int .i64 a1), (64, .string a0), (66, .int .i64 (IntKind.i64.wrap (a1 + (3 : Int))))] (by kernel_rfl) ?_
                    obtain ⟨r19, hr19, h⟩ := bindSome h
                    refine kl_callv (by kernel_rfl) (by kernel_rfl) (by kernel_rfl) (r11_hexes.ok hr19) trivial ?_
                    refine kl_steps 5 [(0, .string a0), (1, .int .i64 a1), (9, .int .i64 r19.1), (10, .int .i64 r19.2)] (by kernel_rfl) ?_
                    refine k_nil ?_
                    refine k_then ?_
                    refine k_seq ?_
                    refine k_region ?_
                    refine kl_steps 1 [(0, .string a0), (1, .int .i64 a1), (10, .int .i64 r19.2), (71, .int .i64 r19.1)] (by kernel_rfl) ?_
                    obtain ⟨r20, hr20, h⟩ := bindSome h
                    refine kl_callv (by kernel_rfl) (by kernel_rfl) (by kernel_rfl) (r01_Encode.ok hr20) trivial ?_
                    refine kl_steps 5 [(0, .string a0), (1, .int .i64 a1), (10, .int .i64 r19.2), (11, .string r20.1), (12, .int .i64 r20.2)] (by kernel_rfl) ?_
                    refine k_nil ?_
                    refine k_then ?_
                    refine k_seq ?_
                    obtain ⟨q21, hq21, h⟩ := bindSome h
                    refine k_cut1 [(10, .int .i64 r19.2), (11, .string r20.1), (98, .bool q21)] (X) ?_ ?_
                    · clear hq21
                      refine k_cond (t := q21) (by kernel_rfl) (fun t22 => ?_) (fun t22 => ?_)
                      · have h := condT h t22
                        refine k_seq ?_
                        refine k_region ?_
                        refine kl_steps 2 [(4, .slice none 0 0), (5, .int .i64 (0 : Int))] (by kernel_rfl) ?_
                        refine k_nil ?_
                        refine k_then ?_
                        refine k_ret ?_
                        refine k_then_ret ?_
                        refine k_blk_ret ?_
                        refine k_then_ret ?_
                        obtain rfl := Option.some.inj h
                        refine k_done (v := .tuple #[.slice none 0 0, .int .i64 (0 : Int)]) [] [] [none_] (by kernel_rfl) (by kernel_rfl) trivial ?_
                        refine k_none ?_
                        exact k_end ⟨none_, none, 0, (RdT.nil (encI .u8) 1 none_), rfl, rfl⟩
                      · have h := condF h t22
                        refine k_skip ?_
                        refine k_then ?_
                        refine k_seq ?_
                        refine k_region ?_
                        refine kl_steps 1 [(10, .int .i64 r19.2), (99, .string r20.1)] (by kernel_rfl) ?_
                        obtain ⟨t27, h⟩ := condN h
                        refine kl_bytes (s := r20.1) (U := 5) rfl (by kernel_rfl) (by kernel_rfl) (by kernel_rfl) (by kernel_rfl) (by kernel_rfl) (by kernel_rfl) (by have := of_decide_eq_true t27; unfold maxLen; omega) fun h23 A24 k25 o26 => ?_
                        refine kl_steps 4 [(4, .slice A24 (bsI r20.1).length k25), (5, .int .i64 (IntKind.i64.wrap (r19.2 + (4 : Int))))] (by kernel_rfl) ?_
                        refine k_nil ?_
                        refine k_then ?_
                        refine k_ret ?_
                        refine k_blk_ret ?_
                        refine k_then_ret ?_
                        obtain rfl := Option.some.inj h
                        refine k_done (v := .tuple #[.slice A24 (bsI r20.1).length k25, .int .i64 (IntKind.i64.wrap (r19.2 + (4 : Int)))]) [] [] [h23] (by kernel_rfl) (by kernel_rfl) trivial ?_
                        exact k_end ⟨h23, A24, k25, o26, rfl, rfl⟩
                    · have h := hq21
                      clear hq21
                      refine k_region ?_
                      refine kl_steps 3 [(0, .string a0), (1, .int .i64 a1), (10, .int .i64 r19.2), (11, .string r20.1), (12, .int .i64 r20.2), (77, .bool (r19.2 == (0 : Int)))] (by kernel_rfl) ?_
                      rcases Bool.eq_false_or_eq_true ((r19.2 == (0 : Int))) with t28 | t28
                      · have h := condT h t28
                        refine K.weak (env' := [(0, .string a0), (1, .int .i64 a1), (10, .int .i64 r19.2), (11, .string r20.1), (12, .int .i64 r20.2), (77, .bool true)]) ?_ ⟨rfl, rfl, rfl, rfl, rfl, congrArg (fun b => some (Value.bool b)) t28, trivial⟩
                        refine kl_steps 21 [(10, .int .i64 r19.2), (11, .string r20.1), (98, .bool true)] (by kernel_rfl) ?_
                        refine k_nil ?_
                        refine k_then ?_
                        exact k_meet1 ⟨rfl, rfl, congrArg (fun b => some (Value.bool b)) (Option.some.inj h), trivial⟩
                      · have h := condF h t28
                        refine K.weak (env' := [(0, .string a0), (1, .int .i64 a1), (10, .int .i64 r19.2), (11, .string r20.1), (12, .int .i64 r20.2), (77, .bool false)]) ?_ ⟨rfl, rfl, rfl, rfl, rfl, congrArg (fun b => some (Value.bool b)) t28, trivial⟩
                        refine kl_steps 4 [(0, .string a0), (1, .int .i64 a1), (10, .int .i64 r19.2), (11, .string r20.1), (81, .bool (r20.2 != (0 : Int)))] (by kernel_rfl) ?_
                        rcases Bool.eq_false_or_eq_true ((r20.2 != (0 : Int))) with t29 | t29
                        · have h := condT h t29
                          refine K.weak (env' := [(0, .string a0), (1, .int .i64 a1), (10, .int .i64 r19.2), (11, .string r20.1), (81, .bool true)]) ?_ ⟨rfl, rfl, rfl, rfl, congrArg (fun b => some (Value.bool b)) t29, trivial⟩
                          refine kl_steps 17 [(10, .int .i64 r19.2), (11, .string r20.1), (98, .bool true)] (by kernel_rfl) ?_
                          refine k_nil ?_
                          refine k_then ?_
                          exact k_meet1 ⟨rfl, rfl, congrArg (fun b => some (Value.bool b)) (Option.some.inj h), trivial⟩
                        · have h := condF h t29
                          refine K.weak (env' := [(0, .string a0), (1, .int .i64 a1), (10, .int .i64 r19.2), (11, .string r20.1), (81, .bool false)]) ?_ ⟨rfl, rfl, rfl, rfl, congrArg (fun b => some (Value.bool b)) t29, trivial⟩
                          refine kl_steps 9 [(0, .string a0), (1, .int .i64 a1), (10, .int .i64 r19.2), (11, .string r20.1), (90, .bool (decide ((IntKind.i64.wrap ((IntKind.i64.wrap (a1 + (3 : Int))) + r19.2)) ≥ (a0.size : Int))))] (by kernel_rfl) ?_
                          rcases Bool.eq_false_or_eq_true (decide ((IntKind.i64.wrap ((IntKind.i64.wrap (a1 + (3 : Int))) + r19.2)) ≥ (a0.size : Int))) with t30 | t30
                          · have h := condT h t30
                            refine K.weak (env' := [(0, .string a0), (1, .int .i64 a1), (10, .int .i64 r19.2), (11, .string r20.1), (90, .bool true)]) ?_ ⟨rfl, rfl, rfl, rfl, congrArg (fun b => some (Value.bool b)) t30, trivial⟩
                            refine kl_steps 8 [(10, .int .i64 r19.2), (11, .string r20.1), (98, .bool true)] (by kernel_rfl) ?_
                            refine k_nil ?_
                            refine k_then ?_
                            exact k_meet1 ⟨rfl, rfl, congrArg (fun b => some (Value.bool b)) (Option.some.inj h), trivial⟩
                          · have h := condF h t30
                            refine K.weak (env' := [(0, .string a0), (1, .int .i64 a1), (10, .int .i64 r19.2), (11, .string r20.1), (90, .bool false)]) ?_ ⟨rfl, rfl, rfl, rfl, congrArg (fun b => some (Value.bool b)) t30, trivial⟩
                            refine kl_steps 5 [(10, .int .i64 r19.2), (11, .string r20.1), (90, .bool false), (91, .string a0), (95, .int .i64 (IntKind.i64.wrap ((IntKind.i64.wrap (a1 + (3 : Int))) + r19.2)))] (by kernel_rfl) ?_
                            obtain ⟨c31, hc31, h⟩ := bindSome h
                            refine kl_index (kd := .i64) rfl (by kernel_rfl) (by kernel_rfl) (by kernel_rfl) (by kernel_rfl) (by kernel_rfl) hc31 ?_
                            refine kl_steps 2 [(10, .int .i64 r19.2), (11, .string r20.1), (98, .bool ((c31.toNat : Int) != (125 : Int)))] (by kernel_rfl) ?_
                            refine k_nil ?_
                            refine k_then ?_
                            exact k_meet1 ⟨rfl, rfl, congrArg (fun b => some (Value.bool b)) (Option.some.inj h), trivial⟩
                · have h := hq17
                  clear hq17
                  refine k_region ?_
                  refine kl_steps 6 [(0, .string a0), (1, .int .i64 a1), (56, .bool (decide ((IntKind.i64.wrap (a1 + (2 : Int))) ≥ (a0.size : Int))))] (by kernel_rfl) ?_
                  rcases Bool.eq_false_or_eq_true (decide ((IntKind.i64.wrap (a1 + (2 : Int))) ≥ (a0.size : Int))) with t32 | t32
                  · have h := condT h t32
                    refine K.weak (env' := [(0, .string a0), (1, .int .i64 a1), (56, .bool true)]) ?_ ⟨rfl, rfl, congrArg (fun b => some (Value.bool b)) t32, trivial⟩
                    refine kl_steps 6 [(0, .string a0), (1, .int .i64 a1), (62, .bool true)] (by kernel_rfl) ?_
                    refine k_nil ?_
                    refine k_then ?_
                    exact k_meet1 ⟨rfl, rfl, congrArg (fun b => some (Value.bool b)) (Option.some.inj h), trivial⟩
                  · have h := condF h t32
                    refine K.weak (env' := [(0, .string a0), (1, .int .i64 a1), (56, .bool false)]) ?_ ⟨rfl, rfl, congrArg (fun b => some (Value.bool b)) t32, trivial⟩
                    refine kl_steps 3 [(0, .string a0), (1, .int .i64 a1), (56, .bool false), (57, .string a0), (59, .int .i64 (IntKind.i64.wrap (a1 + (2 : Int))))] (by kernel_rfl) ?_
                    obtain ⟨c33, hc33, h⟩ := bindSome h
                    refine kl_index (kd := .i64) rfl (by kernel_rfl) (by kernel_rfl) (by kernel_rfl) (by kernel_rfl) (by kernel_rfl) hc33 ?_
                    refine kl_steps 2 [(0, .string a0), (1, .int .i64 a1), (62, .bool ((c33.toNat : Int) != (123 : Int)))] (by kernel_rfl) ?_
                    refine k_nil ?_
                    refine k_then ?_
                    exact k_meet1 ⟨rfl, rfl, congrArg (fun b => some (Value.bool b)) (Option.some.inj h), trivial⟩
              · have h := condF h t16
                refine k_skip ?_
                refine k_blk ?_
                refine k_then ?_
                refine k_seq ?_
                refine k_region ?_
                refine kl_steps 2 [(0, .string a0), (1, .int .i64 a1), (13, .int .i64 (0 : Int)), (14, .int .i64 (0 : Int))] (by kernel_rfl) ?_
                refine k_nil ?_
                refine k_then ?_
                obtain ⟨J36, hJ36, h⟩ := joinSplit h
                refine k_cut (τ := Int × Int) (fun t => [(13, .int .i64 t.1), (14, .int .i64 t.2)]) (fun t => X) (fun t => J36 t.1 t.2 = some r) ?_ ?_
                · rintro ⟨x34, x35⟩ h
                  subst hJ36
                  refine k_seq ?_
                  obtain ⟨q37, hq37, h⟩ := bindSome h
                  refine k_cut1 [(13, .int .i64 x34), (14, .int .i64 x35), (150, .bool q37)] (X) ?_ ?_
                  · clear hq37
                    refine k_cond (t := q37) (by kernel_rfl) (fun t38 => ?_) (fun t38 => ?_)
                    · have h := condT h t38
                      refine k_seq ?_
                      refine k_region ?_
                      refine kl_steps 2 [(4, .slice none 0 0), (5, .int .i64 (0 : Int))] (by kernel_rfl) ?_
                      refine k_nil ?_
                      refine k_then ?_
                      refine k_ret ?_
                      refine k_then_ret ?_
                      obtain rfl := Option.some.inj h
                      refine k_done (v := .tuple #[.slice none 0 0, .int .i64 (0 : Int)]) [] [] [none_] (by kernel_rfl) (by kernel_rfl) trivial ?_
                      refine k_none ?_
                      exact k_end ⟨none_, none, 0, (RdT.nil (encI .u8) 1 none_), rfl, rfl⟩
                    · have h := condF h t38
                      refine k_skip ?_
                      refine k_then ?_
                      refine k_seq ?_
                      refine k_region ?_
                      refine kl_steps 2 [(14, .int .i64 x35), (152, .int .u8 (IntKind.u8.wrap x34))] (by kernel_rfl) ?_
                      refine kl_new (.cells #[.int .u8 (IntKind.u8.wrap x34)] 5 (0, 0)) (fun b => .slice (some ⟨b, 0, none⟩) 1 1) (by kernel_rfl) (by kernel_rfl) (fun _ => by kernel_rfl) fun b39 => ?_
                      refine kl_steps 4 [(4, .slice (some ⟨b39, 0, none⟩) 1 1), (5, .int .i64 (IntKind.i64.wrap (x35 + (1 : Int))))] (by kernel_rfl) ?_
                      refine k_nil ?_
                      refine k_then ?_
                      refine k_ret ?_
                      obtain rfl := Option.some.inj h
                      refine k_done (v := .tuple #[.slice (some ⟨b39, 0, none⟩) 1 1, .int .i64 (IntKind.i64.wrap (x35 + (1 : Int)))]) [] [] [blk b39 (.cells #[.int .u8 (IntKind.u8.wrap x34)] 5 (0, 0))] (by kernel_rfl) (by kernel_rfl) trivial ?_
                      exact k_end ⟨blk b39 (.cells #[.int .u8 (IntKind.u8.wrap x34)] 5 (0, 0)), (some ⟨b39, 0, none⟩), 1, (OwnT.rd (OwnT.blk 5 (encI_ok .u8) b39 [IntKind.u8.wrap x34] #[.int .u8 (IntKind.u8.wrap x34)] 1 (by kernel_rfl) rfl (by decide))), rfl, rfl⟩
                  · have h := hq37
                    clear hq37
                    refine k_region ?_
                    refine kl_steps 3 [(13, .int .i64 x34), (14, .int .i64 x35), (147, .bool (x35 == (0 : Int)))] (by kernel_rfl) ?_
                    rcases Bool.eq_false_or_eq_true ((x35 == (0 : Int))) with t40 | t40
                    · have h := condT h t40
                      refine K.weak (env' := [(13, .int .i64 x34), (14, .int .i64 x35), (147, .bool true)]) ?_ ⟨rfl, rfl, congrArg (fun b => some (Value.bool b)) t40, trivial⟩
                      refine kl_steps 3 [(13, .int .i64 x34), (14, .int .i64 x35), (150, .bool true)] (by kernel_rfl) ?_
                      refine k_nil ?_
                      refine k_then ?_
                      exact k_meet1 ⟨rfl, rfl, congrArg (fun b => some (Value.bool b)) (Option.some.inj h), trivial⟩
                    · have h := condF h t40
                      refine K.weak (env' := [(13, .int .i64 x34), (14, .int .i64 x35), (147, .bool false)]) ?_ ⟨rfl, rfl, congrArg (fun b => some (Value.bool b)) t40, trivial⟩
                      refine kl_steps 3 [(13, .int .i64 x34), (14, .int .i64 x35), (150, .bool (decide (x34 > (255 : Int))))] (by kernel_rfl) ?_
                      refine k_nil ?_
                      refine k_then ?_
                      exact k_meet1 ⟨rfl, rfl, congrArg (fun b => some (Value.bool b)) (Option.some.inj h), trivial⟩
                · skip
                  refine k_block ?_
                  refine k_loop (τ := Int × Int) (fun t => [(0, .string a0), (1, .int .i64 a1), (13, .int .i64 t.1), (14, .int .i64 t.2)]) (fun t => X) (fun m t => r11_escape.l0 m a0 a1 J36 t.1 t.2 = some r) k ((0 : Int), (0 : Int)) h ⟨rfl, rfl, rfl, rfl, trivial⟩ rfl ?_
                  clear h
                  rintro m43 ⟨x41, x42⟩ h
                  cases m43 with
                  | zero => simp [r11_escape.l0] at h
                  | succ m43 =>
                    simp only [r11_escape.l0] at h
                    refine k_seq ?_
                    obtain ⟨q44, hq44, h⟩ := bindSome h
                    refine k_cut1 [(0, .string a0), (1, .int .i64 a1), (13, .int .i64 x41), (14, .int .i64 x42), (131, .bool q44)] (X) ?_ ?_
                    · clear hq44
                      refine k_cond (t := q44) (by kernel_rfl) (fun t45 => ?_) (fun t45 => ?_)
                      · have h := condT h t45
                        refine k_skip ?_
                        refine k_then ?_
                        refine k_block ?_
                        refine k_seq ?_
                        refine k_region ?_
                        refine kl_steps 7 [(0, .string a0), (1, .int .i64 a1), (13, .int .i64 x41), (14, .int .i64 x42), (133, .int .i64 (IntKind.i64.wrap (x41 * (10 : Int)))), (134, .string a0), (138, .int .i64 (IntKind.i64.wrap ((IntKind.i64.wrap (a1 + (1 : Int))) + x42)))] (by kernel_rfl) ?_
                        obtain ⟨c46, hc46, h⟩ := bindSome h
                        refine kl_index (kd := .i64) rfl (by kernel_rfl) (by kernel_rfl) (by kernel_rfl) (by kernel_rfl) (by kernel_rfl) hc46 ?_
                        refine kl_steps 4 [(0, .string a0), (1, .int .i64 a1), (13, .int .i64 (IntKind.i64.wrap ((IntKind.i64.wrap ((IntKind.i64.wrap (x41 * (10 : Int))) + (IntKind.i64.wrap (c46.toNat : Int)))) - (48 : Int)))), (14, .int .i64 x42)] (by kernel_rfl) ?_
                        refine k_nil ?_
                        refine k_then ?_
                        refine k_region ?_
                        refine kl_steps 3 [(0, .string a0), (1, .int .i64 a1), (13, .int .i64 (IntKind.i64.wrap ((IntKind.i64.wrap ((IntKind.i64.wrap (x41 * (10 : Int))) + (IntKind.i64.wrap (c46.toNat : Int)))) - (48 : Int)))), (14, .int .i64 (IntKind.i64.wrap (x42 + (1 : Int))))] (by kernel_rfl) ?_
                        refine k_nil ?_
                        refine k_blk ?_
                        refine k_then ?_
                        exact k_again m43 (IntKind.i64.wrap ((IntKind.i64.wrap ((IntKind.i64.wrap (x41 * (10 : Int))) + (IntKind.i64.wrap (c46.toNat : Int)))) - (48 : Int)), IntKind.i64.wrap (x42 + (1 : Int))) (Nat.lt_succ_self _) h ⟨rfl, rfl, rfl, rfl, trivial⟩ rfl
                      · have h := condF h t45
                        refine k_exit ?_
                        refine k_then_exit ?_
                        refine k_then_exit ?_
                        refine k_here ?_
                        refine k_then ?_
                        exact k_meet (x41, x42) h ⟨rfl, rfl, trivial⟩ rfl
                    · have h := hq44
                      clear hq44
                      refine k_region ?_
                      refine kl_steps 3 [(0, .string a0), (1, .int .i64 a1), (13, .int .i64 x41), (14, .int .i64 x42), (105, .bool (decide (x42 < (3 : Int))))] (by kernel_rfl) ?_
                      rcases Bool.eq_false_or_eq_true (decide (x42 < (3 : Int))) with t47 | t47
                      · have h := condT h t47
                        refine K.weak (env' := [(0, .string a0), (1, .int .i64 a1), (13, .int .i64 x41), (14, .int .i64 x42), (105, .bool true)]) ?_ ⟨rfl, rfl, rfl, rfl, congrArg (fun b => some (Value.bool b)) t47, trivial⟩
                        refine kl_steps 9 [(0, .string a0), (1, .int .i64 a1), (13, .int .i64 x41), (14, .int .i64 x42), (114, .bool (decide ((IntKind.i64.wrap ((IntKind.i64.wrap (a1 + (1 : Int))) + x42)) < (a0.size : Int))))] (by kernel_rfl) ?_
                        rcases Bool.eq_false_or_eq_true (decide ((IntKind.i64.wrap ((IntKind.i64.wrap (a1 + (1 : Int))) + x42)) < (a0.size : Int))) with t48 | t48
                        · have h := condT h t48
                          refine K.weak (env' := [(0, .string a0), (1, .int .i64 a1), (13, .int .i64 x41), (14, .int .i64 x42), (114, .bool true)]) ?_ ⟨rfl, rfl, rfl, rfl, congrArg (fun b => some (Value.bool b)) t48, trivial⟩
                          refine kl_steps 5 [(0, .string a0), (1, .int .i64 a1), (13, .int .i64 x41), (14, .int .i64 x42), (114, .bool true), (115, .string a0), (119, .int .i64 (IntKind.i64.wrap ((IntKind.i64.wrap (a1 + (1 : Int))) + x42)))] (by kernel_rfl) ?_
                          obtain ⟨c49, hc49, h⟩ := bindSome h
                          refine kl_index (kd := .i64) rfl (by kernel_rfl) (by kernel_rfl) (by kernel_rfl) (by kernel_rfl) (by kernel_rfl) hc49 ?_
                          refine kl_steps 3 [(0, .string a0), (1, .int .i64 a1), (13, .int .i64 x41), (14, .int .i64 x42), (123, .bool (decide ((c49.toNat : Int) ≥ (48 : Int))))] (by kernel_rfl) ?_
                          rcases Bool.eq_false_or_eq_true (decide ((c49.toNat : Int) ≥ (48 : Int))) with t50 | t50
                          · have h := condT h t50
                            refine K.weak (env' := [(0, .string a0), (1, .int .i64 a1), (13, .int .i64 x41), (14, .int .i64 x42), (123, .bool true)]) ?_ ⟨rfl, rfl, rfl, rfl, congrArg (fun b => some (Value.bool b)) t50, trivial⟩
                            refine kl_steps 5 [(0, .string a0), (1, .int .i64 a1), (13, .int .i64 x41), (14, .int .i64 x42), (123, .bool true), (124, .string a0), (128, .int .i64 (IntKind.i64.wrap ((IntKind.i64.wrap (a1 + (1 : Int))) + x42)))] (by kernel_rfl) ?_
                            obtain ⟨c51, hc51, h⟩ := bindSome h
                            refine kl_index (kd := .i64) rfl (by kernel_rfl) (by kernel_rfl) (by kernel_rfl) (by kernel_rfl) (by kernel_rfl) hc51 ?_
                            refine kl_steps 2 [(0, .string a0), (1, .int .i64 a1), (13, .int .i64 x41), (14, .int .i64 x42), (131, .bool (decide ((c51.toNat : Int) ≤ (57 : Int))))] (by kernel_rfl) ?_
                            refine k_nil ?_
                            refine k_then ?_
                            exact k_meet1 ⟨rfl, rfl, rfl, rfl, congrArg (fun b => some (Value.bool b)) (Option.some.inj h), trivial⟩
                          · have h := condF h t50
                            refine K.weak (env' := [(0, .string a0), (1, .int .i64 a1), (13, .int .i64 x41), (14, .int .i64 x42), (123, .bool false)]) ?_ ⟨rfl, rfl, rfl, rfl, congrArg (fun b => some (Value.bool b)) t50, trivial⟩
                            refine kl_steps 8 [(0, .string a0), (1, .int .i64 a1), (13, .int .i64 x41), (14, .int .i64 x42), (131, .bool false)] (by kernel_rfl) ?_
                            refine k_nil ?_
                            refine k_then ?_
                            exact k_meet1 ⟨rfl, rfl, rfl, rfl, congrArg (fun b => some (Value.bool b)) (Option.some.inj h), trivial⟩
                        · have h := condF h t48
                          refine K.weak (env' := [(0, .string a0), (1, .int .i64 a1), (13, .int .i64 x41), (14, .int .i64 x42), (114, .bool false)]) ?_ ⟨rfl, rfl, rfl, rfl, congrArg (fun b => some (Value.bool b)) t48, trivial⟩
                          refine kl_steps 17 [(0, .string a0), (1, .int .i64 a1), (13, .int .i64 x41), (14, .int .i64 x42), (131, .bool false)] (by kernel_rfl) ?_
                          refine k_nil ?_
                          refine k_then ?_
                          exact k_meet1 ⟨rfl, rfl, rfl, rfl, congrArg (fun b => some (Value.bool b)) (Option.some.inj h), trivial⟩
                      · have h := condF h t47
                        refine K.weak (env' := [(0, .string a0), (1, .int .i64 a1), (13, .int .i64 x41), (14, .int .i64 x42), (105, .bool false)]) ?_ ⟨rfl, rfl, rfl, rfl, congrArg (fun b => some (Value.bool b)) t47, trivial⟩
                        refine kl_steps 26 [(0, .string a0), (1, .int .i64 a1), (13, .int .i64 x41), (14, .int .i64 x42), (131, .bool false)] (by kernel_rfl) ?_
                        refine k_nil ?_
                        refine k_then ?_
                        exact k_meet1 ⟨rfl, rfl, rfl, rfl, congrArg (fun b => some (Value.bool b)) (Option.some.inj h), trivial⟩
        · skip
          refine k_seq ?_
          refine k_region ?_
          refine kl_steps 2 [(0, .string a0), (1, .int .i64 a1), (6, .int .u8 (c1.toNat : Int)), (19, .int .u8 (c1.toNat : Int)), (29, .bool ((c1.toNat : Int) == (92 : Int)))] (by kernel_rfl) ?_
          refine k_nil ?_
          refine k_then ?_
          refine k_cond (t := ((c1.toNat : Int) == (92 : Int))) (by kernel_rfl) (fun t52 => ?_) (fun t52 => ?_)
          · have h := condT h t52
            refine k_skip ?_
            refine k_then ?_
            exact k_meet ((c1.toNat : Int) == (92 : Int)) h ⟨rfl, rfl, rfl, rfl, rfl, trivial⟩ rfl
          · have h := condF h t52
            refine k_seq ?_
            refine k_region ?_
            refine kl_steps 2 [(0, .string a0), (1, .int .i64 a1), (6, .int .u8 (c1.toNat : Int)), (19, .int .u8 (c1.toNat : Int)), (29, .bool ((c1.toNat : Int) == (34 : Int)))] (by kernel_rfl) ?_
            refine k_nil ?_
            refine k_then ?_
            refine k_cond (t := ((c1.toNat : Int) == (34 : Int))) (by kernel_rfl) (fun t53 => ?_) (fun t53 => ?_)
            · have h := condT h t53
              refine k_skip ?_
              refine k_then ?_
              exact k_meet ((c1.toNat : Int) == (34 : Int)) h ⟨rfl, rfl, rfl, rfl, rfl, trivial⟩ rfl
            · have h := condF h t53
              refine k_region ?_
              refine kl_steps 2 [(0, .string a0), (1, .int .i64 a1), (6, .int .u8 (c1.toNat : Int)), (19, .int .u8 (c1.toNat : Int)), (29, .bool ((c1.toNat : Int) == (39 : Int)))] (by kernel_rfl) ?_
              refine k_nil ?_
              refine k_then ?_
              exact k_meet ((c1.toNat : Int) == (39 : Int)) h ⟨rfl, rfl, rfl, rfl, rfl, trivial⟩ rfl
def r11_text.l0 : Nat → (a0 : ByteArray) → (a1 : Int) → (J8 : (List Int) → Int → Option (ByteArray × Int × Int × Int)) → (l14 : List Int) → (x19 : Int) → Option (ByteArray × Int × Int × Int)
  | 0, _, _, _, _, _ => none
  | m20 + 1, a0, a1, J8, l14, x19 => (cond (decide (x19 < (a0.size : Int))) ((sIdx a0 x19).bind fun c45 : UInt8 => cond ((c45.toNat : Int) != (10 : Int)) ((sIdx a0 x19).bind fun c47 : UInt8 => (sIdx a0 a1).bind fun c48 : UInt8 => some ((c47.toNat : Int) != (c48.toNat : Int))) (some false)) (some false) : Option Bool).bind fun q21 => cond q21 ((sIdx a0 x19).bind fun c23 : UInt8 => cond ((c23.toNat : Int) != (92 : Int)) ((sIdx a0 x19).bind fun c25 : UInt8 => (apd 1 l14 [(c25.toNat : Int)]).bind fun l27 => r11_text.l0 m20 a0 a1 J8 l27 (IntKind.i64.wrap (x19 + (1 : Int)))) (cond (decide ((IntKind.i64.wrap (x19 + (1 : Int))) ≥ (a0.size : Int))) (some ((⟨#[]⟩ : ByteArray), (0 : Int), (4 : Int), a1)) ((r11_escape.f m20 a0 x19).bind fun r33 => cond (r33.2 == (0 : Int)) (some ((⟨#[]⟩ : ByteArray), (0 : Int), (4 : Int), x19)) ((apd 1 l14 r33.1).bind fun l39 => r11_text.l0 m20 a0 a1 J8 l39 (IntKind.i64.wrap (x19 + r33.2)))))) (J8 l14 x19)
def r11_text.f (k : Nat) (a0 : ByteArray) (a1 : Int) : Option (ByteArray × Int × Int × Int) := joinF (fun (l2 : List Int) (x7 : Int) => (cond (decide (x7 ≥ (a0.size : Int))) (some true) ((sIdx a0 x7).bind fun c13 : UInt8 => some ((c13.toNat : Int) == (10 : Int))) : Option Bool).bind fun q9 => cond q9 (some ((⟨#[]⟩ : ByteArray), (0 : Int), (4 : Int), a1)) (cond (decide (((l2.length : Nat) : Int) > (10000 : Int))) (some ((⟨#[]⟩ : ByteArray), (0 : Int), (14 : Int), a1)) (some ((strOfNums l2), IntKind.i64.wrap ((IntKind.i64.wrap (x7 + (1 : Int))) - a1), (0 : Int), (0 : Int))))) (fun J8 => r11_text.l0 k a0 a1 J8 ([]) (IntKind.i64.wrap (a1 + (1 : Int))))
set_option maxRecDepth 100000 in
theorem r11_text.ok {k : Nat} {a0 : ByteArray} {a1 : Int} {r : ByteArray × Int × Int × Int} (h : r11_text.f k a0 a1 = some r) : Ct Tryd.prog 27 #[.string a0, .int .i64 a1] [] [] (fun e l1 => e = .returned (.tuple #[.string r.1, .int .i64 r.2.1, .agg #[.int .i64 r.2.2.1, .int .i64 r.2.2.2]]) ∧ l1 = []) := by
  refine ct_enter (args := [.string a0, .int .i64 a1]) Tryd.func27 rfl (Nat.le_of_ble_eq_true rfl) ?_
  intro A X hh_
  unfold r11_text.f at h
  refine k_seq ?_
  refine k_region ?_
  refine kl_steps 2 [(0, .string a0), (1, .int .i64 a1)] (by kernel_rfl) ?_
  refine kl_new (.cells #[.int .i64 (0 : Int), .int .i64 (0 : Int)] 25 (0, 0)) (fun b => .pointer (some ⟨b, 0, none⟩)) (by kernel_rfl) (by kernel_rfl) (fun _ => by kernel_rfl) fun b1 => ?_
  refine k_nil ?_
  refine k_then ?_
  refine k_seq ?_
  refine k_region ?_
  refine kl_steps 1 [(0, .string a0), (1, .int .i64 a1), (6, .pointer (some ⟨b1, 0, none⟩)), (7, .slice none 0 0)] (by kernel_rfl) ?_
  refine k_nil ?_
  refine k_then ?_
  refine k_seq ?_
  refine k_region ?_
  refine kl_steps 3 [(0, .string a0), (1, .int .i64 a1), (6, .pointer (some ⟨b1, 0, none⟩)), (7, .slice none 0 0), (8, .int .i64 (IntKind.i64.wrap (a1 + (1 : Int))))] (by kernel_rfl) ?_
  refine k_nil ?_
  refine k_then ?_
  obtain ⟨J8, hJ8, h⟩ := joinSplit h
  refine k_cut (τ := (List Int) × Int × Frag × (Option Addr) × Nat) (fun t => [(0, .string a0), (1, .int .i64 a1), (6, .pointer (some ⟨b1, 0, none⟩)), (7, .slice t.2.2.2.1 t.1.length t.2.2.2.2), (8, .int .i64 t.2.1)]) (fun t => blk b1 (.cells #[.int .i64 (0 : Int), .int .i64 (0 : Int)] 25 (0, 0)) :: t.2.2.1 :: X) (fun t => J8 t.1 t.2.1 = some r ∧ OwnT (encI .u8) 5 1 t.2.2.1 (.slice t.2.2.2.1 t.1.length t.2.2.2.2) t.1) ?_ ?_
  · rintro ⟨l2, x7, h3, A4, k5⟩ ⟨h, o6⟩
    subst hJ8
    refine k_seq ?_
    obtain ⟨q9, hq9, h⟩ := bindSome h
    refine k_cut1 [(1, .int .i64 a1), (6, .pointer (some ⟨b1, 0, none⟩)), (7, .slice A4 l2.length k5), (8, .int .i64 x7), (76, .bool q9)] (blk b1 (.cells #[.int .i64 (0 : Int), .int .i64 (0 : Int)] 25 (0, 0)) :: h3 :: X) ?_ ?_
    · clear hq9
      refine k_cond (t := q9) (by kernel_rfl) (fun t10 => ?_) (fun t10 => ?_)
      · have h := condT h t10
        refine k_seq ?_
        refine k_region ?_
        refine kl_steps 4 [(6, .pointer (some ⟨b1, 0, none⟩)), (78, .agg #[.int .i64 (4 : Int), .int .i64 a1]), (4, .string (⟨#[]⟩ : ByteArray)), (5, .int .i64 (0 : Int))] (by kernel_rfl) ?_
        refine kl_store (cs' := #[.int .i64 (4 : Int), .int .i64 a1]) [.st ⟨b1, 0, none⟩ (.int .i64 (4 : Int)), .st ⟨b1, 1, none⟩ (.int .i64 a1)] (by kernel_rfl) (by kernel_rfl) (by kernel_rfl) ⟨rfl, rfl, trivial⟩ (by kernel_rfl) ?_
        refine K.mv1 ?_
        refine K.drop ?_
        refine k_nil ?_
        refine k_then ?_
        refine k_ret ?_
        refine k_then_ret ?_
        obtain rfl := Option.some.inj h
        refine k_done (v := .tuple #[.string (⟨#[]⟩ : ByteArray), .int .i64 (0 : Int), .agg #[.int .i64 (4 : Int), .int .i64 a1]]) [.val (.int .i64 (4 : Int)), .val (.int .i64 a1)] [.ld ⟨b1, 0, none⟩ (.int .i64 (4 : Int)), .ld ⟨b1, 1, none⟩ (.int .i64 a1)] [] (by kernel_rfl) (by kernel_rfl) ⟨⟨0, _, _, _, rfl, rfl, rfl⟩, ⟨0, _, _, _, rfl, rfl, rfl⟩, trivial⟩ ?_
        refine K.drop ?_
        exact k_end ⟨rfl, rfl⟩
      · have h := condF h t10
        refine k_skip ?_
        refine k_then ?_
        refine k_seq ?_
        refine k_seq ?_
        refine k_region ?_
        refine kl_steps 3 [(1, .int .i64 a1), (6, .pointer (some ⟨b1, 0, none⟩)), (7, .slice A4 l2.length k5), (8, .int .i64 x7), (81, .bool (decide (((l2.length : Nat) : Int) > (10000 : Int))))] (by kernel_rfl) ?_
        refine k_nil ?_
        refine k_then ?_
        refine k_cond (t := decide (((l2.length : Nat) : Int) > (10000 : Int))) (by kernel_rfl) (fun t11 => ?_) (fun t11 => ?_)
        · have h := condT h t11
          refine k_seq ?_
          refine k_region ?_
          refine kl_steps 4 [(6, .pointer (some ⟨b1, 0, none⟩)), (83, .agg #[.int .i64 (14 : Int), .int .i64 a1]), (4, .string (⟨#[]⟩ : ByteArray)), (5, .int .i64 (0 : Int))] (by kernel_rfl) ?_
          refine kl_store (cs' := #[.int .i64 (14 : Int), .int .i64 a1]) [.st ⟨b1, 0, none⟩ (.int .i64 (14 : Int)), .st ⟨b1, 1, none⟩ (.int .i64 a1)] (by kernel_rfl) (by kernel_rfl) (by kernel_rfl) ⟨rfl, rfl, trivial⟩ (by kernel_rfl) ?_
          refine K.mv1 ?_
          refine K.drop ?_
          refine k_nil ?_
          refine k_then ?_
          refine k_ret ?_
          refine k_then_ret ?_
          obtain rfl := Option.some.inj h
          refine k_done (v := .tuple #[.string (⟨#[]⟩ : ByteArray), .int .i64 (0 : Int), .agg #[.int .i64 (14 : Int), .int .i64 a1]]) [.val (.int .i64 (14 : Int)), .val (.int .i64 a1)] [.ld ⟨b1, 0, none⟩ (.int .i64 (14 : Int)), .ld ⟨b1, 1, none⟩ (.int .i64 a1)] [] (by kernel_rfl) (by kernel_rfl) ⟨⟨0, _, _, _, rfl, rfl, rfl⟩, ⟨0, _, _, _, rfl, rfl, rfl⟩, trivial⟩ ?_
          refine K.drop ?_
          exact k_end ⟨rfl, rfl⟩
        · have h := condF h t11
          refine k_skip ?_
          refine k_then ?_
          refine k_seq ?_
          refine k_region ?_
          refine kl_steps 1 [(1, .int .i64 a1), (6, .pointer (some ⟨b1, 0, none⟩)), (8, .int .i64 x7), (84, .slice A4 l2.length k5)] (by kernel_rfl) ?_
          refine kl_string (U := 5) (xs := l2) rfl (by kernel_rfl) (by kernel_rfl) (by kernel_rfl) (by kernel_rfl) (by kernel_rfl) (by kernel_rfl) (OwnT.rd o6) (.tail _ (.head _)) ?_
          refine K.mv1 ?_
          refine K.drop ?_
          refine kl_steps 7 [(6, .pointer (some ⟨b1, 0, none⟩)), (90, .agg #[.int .i64 (0 : Int), .int .i64 (0 : Int)]), (4, .string (strOfNums l2)), (5, .int .i64 (IntKind.i64.wrap ((IntKind.i64.wrap (x7 + (1 : Int))) - a1)))] (by kernel_rfl) ?_
          refine kl_store (cs' := #[.int .i64 (0 : Int), .int .i64 (0 : Int)]) [.st ⟨b1, 0, none⟩ (.int .i64 (0 : Int)), .st ⟨b1, 1, none⟩ (.int .i64 (0 : Int))] (by kernel_rfl) (by kernel_rfl) (by kernel_rfl) ⟨rfl, rfl, trivial⟩ (by kernel_rfl) ?_
          refine k_nil ?_
          refine k_then ?_
          refine k_ret ?_
          obtain rfl := Option.some.inj h
          refine k_done (v := .tuple #[.string (strOfNums l2), .int .i64 (IntKind.i64.wrap ((IntKind.i64.wrap (x7 + (1 : Int))) - a1)), .agg #[.int .i64 (0 : Int), .int .i64 (0 : Int)]]) [.val (.int .i64 (0 : Int)), .val (.int .i64 (0 : Int))] [.ld ⟨b1, 0, none⟩ (.int .i64 (0 : Int)), .ld ⟨b1, 1, none⟩ (.int .i64 (0 : Int))] [] (by kernel_rfl) (by kernel_rfl) ⟨⟨0, _, _, _, rfl, rfl, rfl⟩, ⟨0, _, _, _, rfl, rfl, rfl⟩, trivial⟩ ?_
          refine K.drop ?_
          exact k_end ⟨rfl, rfl⟩
    · have h := hq9
      clear hq9
      refine k_region ?_
      refine kl_steps 5 [(0, .string a0), (1, .int .i64 a1), (6, .pointer (some ⟨b1, 0, none⟩)), (7, .slice A4 l2.length k5), (8, .int .i64 x7), (71, .bool (decide (x7 ≥ (a0.size : Int))))] (by kernel_rfl) ?_
      rcases Bool.eq_false_or_eq_true (decide (x7 ≥ (a0.size : Int))) with t12 | t12
      · have h := condT h t12
        refine K.weak (env' := [(0, .string a0), (1, .int .i64 a1), (6, .pointer (some ⟨b1, 0, none⟩)), (7, .slice A4 l2.length k5), (8, .int .i64 x7), (71, .bool true)]) ?_ ⟨rfl, rfl, rfl, rfl, rfl, congrArg (fun b => some (Value.bool b)) t12, trivial⟩
        refine kl_steps 5 [(1, .int .i64 a1), (6, .pointer (some ⟨b1, 0, none⟩)), (7, .slice A4 l2.length k5), (8, .int .i64 x7), (76, .bool true)] (by kernel_rfl) ?_
        refine k_nil ?_
        refine k_then ?_
        exact k_meet1 ⟨rfl, rfl, rfl, rfl, congrArg (fun b => some (Value.bool b)) (Option.some.inj h), trivial⟩
      · have h := condF h t12
        refine K.weak (env' := [(0, .string a0), (1, .int .i64 a1), (6, .pointer (some ⟨b1, 0, none⟩)), (7, .slice A4 l2.length k5), (8, .int .i64 x7), (71, .bool false)]) ?_ ⟨rfl, rfl, rfl, rfl, rfl, congrArg (fun b => some (Value.bool b)) t12, trivial⟩
        refine kl_steps 2 [(1, .int .i64 a1), (6, .pointer (some ⟨b1, 0, none⟩)), (7, .slice A4 l2.length k5), (8, .int .i64 x7), (71, .bool false), (72, .string a0), (73, .int .i64 x7)] (by kernel_rfl) ?_
        obtain ⟨c13, hc13, h⟩ := bindSome h
        refine kl_index (kd := .i64) rfl (by kernel_rfl) (by kernel_rfl) (by kernel_rfl) (by kernel_rfl) (by kernel_rfl) hc13 ?_
        refine kl_steps 2 [(1, .int .i64 a1), (6, .pointer (some ⟨b1, 0, none⟩)), (7, .slice A4 l2.length k5), (8, .int .i64 x7), (76, .bool ((c13.toNat : Int) == (10 : Int)))] (by kernel_rfl) ?_
        refine k_nil ?_
        refine k_then ?_
        exact k_meet1 ⟨rfl, rfl, rfl, rfl, congrArg (fun b => some (Value.bool b)) (Option.some.inj h), trivial⟩
  · skip
    refine k_block ?_
    refine k_none ?_
    refine K.mv1 ?_
    refine k_loop (τ := (List Int) × Int × Frag × (Option Addr) × Nat) (fun t => [(0, .string a0), (1, .int .i64 a1), (6, .pointer (some ⟨b1, 0, none⟩)), (7, .slice t.2.2.2.1 t.1.length t.2.2.2.2), (8, .int .i64 t.2.1)]) (fun t => blk b1 (.cells #[.int .i64 (0 : Int), .int .i64 (0 : Int)] 25 (0, 0)) :: t.2.2.1 :: X) (fun m t => r11_text.l0 m a0 a1 J8 t.1 t.2.1 = some r ∧ OwnT (encI .u8) 5 1 t.2.2.1 (.slice t.2.2.2.1 t.1.length t.2.2.2.2) t.1) k ([], IntKind.i64.wrap (a1 + (1 : Int)), none_, none, 0) ⟨h, (OwnT.nil (encI .u8) 5 1 none_)⟩ ⟨rfl, rfl, rfl, rfl, rfl, trivial⟩ rfl ?_
    clear h
    rintro m20 ⟨l14, x19, h15, A16, k17⟩ ⟨h, o18⟩
    cases m20 with
    | zero => simp [r11_text.l0] at h
    | succ m20 =>
      simp only [r11_text.l0] at h
      refine k_seq ?_
      obtain ⟨q21, hq21, h⟩ := bindSome h
      refine k_cut1 [(0, .string a0), (1, .int .i64 a1), (6, .pointer (some ⟨b1, 0, none⟩)), (7, .slice A16 l14.length k17), (8, .int .i64 x19), (31, .bool q21)] (blk b1 (.cells #[.int .i64 (0 : Int), .int .i64 (0 : Int)] 25 (0, 0)) :: h15 :: X) ?_ ?_
      · clear hq21
        refine k_cond (t := q21) (by kernel_rfl) (fun t22 => ?_) (fun t22 => ?_)
        · have h := condT h t22
          refine k_skip ?_
          refine k_then ?_
          refine k_block ?_
          refine k_seq ?_
          refine k_seq ?_
          refine k_region ?_
          refine kl_steps 2 [(0, .string a0), (1, .int .i64 a1), (6, .pointer (some ⟨b1, 0, none⟩)), (7, .slice A16 l14.length k17), (8, .int .i64 x19), (32, .string a0), (33, .int .i64 x19)] (by kernel_rfl) ?_
          obtain ⟨c23, hc23, h⟩ := bindSome h
          refine kl_index (kd := .i64) rfl (by kernel_rfl) (by kernel_rfl) (by kernel_rfl) (by kernel_rfl) (by kernel_rfl) hc23 ?_
          refine kl_steps 1 [(0, .string a0), (1, .int .i64 a1), (6, .pointer (some ⟨b1, 0, none⟩)), (7, .slice A16 l14.length k17), (8, .int .i64 x19), (35, .bool ((c23.toNat : Int) != (92 : Int)))] (by kernel_rfl) ?_
          refine k_nil ?_
          refine k_then ?_
          refine k_cond (t := ((c23.toNat : Int) != (92 : Int))) (by kernel_rfl) (fun t24 => ?_) (fun t24 => ?_)
          · have h := condT h t24
            refine k_seq ?_
            refine k_region ?_
            refine kl_steps 3 [(0, .string a0), (1, .int .i64 a1), (6, .pointer (some ⟨b1, 0, none⟩)), (7, .slice A16 l14.length k17), (8, .int .i64 x19), (36, .slice A16 l14.length k17), (37, .string a0), (38, .int .i64 x19)] (by kernel_rfl) ?_
            obtain ⟨c25, hc25, h⟩ := bindSome h
            refine kl_index (kd := .i64) rfl (by kernel_rfl) (by kernel_rfl) (by kernel_rfl) (by kernel_rfl) (by kernel_rfl) hc25 ?_
            refine kl_new (.cells #[.int .u8 (c25.toNat : Int)] 5 (0, 0)) (fun b => .slice (some ⟨b, 0, none⟩) 1 1) (by kernel_rfl) (by kernel_rfl) (fun _ => by kernel_rfl) fun b26 => ?_
            refine K.mv2 ?_
            obtain ⟨l27, hl27, h⟩ := bindSome h
            refine kl_apd (ys := [(c25.toNat : Int)]) (encI_ok .u8) rfl ety44 (by kernel_rfl) (by kernel_rfl) (by kernel_rfl) (by kernel_rfl) (by kernel_rfl) hl27 o18 (src_blk (n := 1) (encI_ok .u8) [(c25.toNat : Int)] (by kernel_rfl) rfl (by decide) 1 rfl) fun h28 A29 k30 o31 => ?_
            refine K.mv1 ?_
            refine K.drop ?_
            refine kl_steps 1 [(0, .string a0), (1, .int .i64 a1), (6, .pointer (some ⟨b1, 0, none⟩)), (7, .slice A29 l27.length k30), (8, .int .i64 x19)] (by kernel_rfl) ?_
            refine k_nil ?_
            refine k_then ?_
            refine k_seq ?_
            refine k_region ?_
            refine kl_steps 3 [(0, .string a0), (1, .int .i64 a1), (6, .pointer (some ⟨b1, 0, none⟩)), (7, .slice A29 l27.length k30), (8, .int .i64 (IntKind.i64.wrap (x19 + (1 : Int))))] (by kernel_rfl) ?_
            refine k_nil ?_
            refine k_then ?_
            refine k_exit ?_
            refine k_then_exit ?_
            refine k_here ?_
            refine k_then ?_
            refine K.mv1 ?_
            exact k_again m20 (l27, IntKind.i64.wrap (x19 + (1 : Int)), h28, A29, k30) (Nat.lt_succ_self _) ⟨h, o31⟩ ⟨rfl, rfl, rfl, rfl, rfl, trivial⟩ rfl
          · have h := condF h t24
            refine k_skip ?_
            refine k_then ?_
            refine k_seq ?_
            refine k_seq ?_
            refine k_region ?_
            refine kl_steps 5 [(0, .string a0), (1, .int .i64 a1), (6, .pointer (some ⟨b1, 0, none⟩)), (7, .slice A16 l14.length k17), (8, .int .i64 x19), (48, .bool (decide ((IntKind.i64.wrap (x19 + (1 : Int))) ≥ (a0.size : Int))))] (by kernel_rfl) ?_
            refine k_nil ?_
            refine k_then ?_
            refine k_cond (t := decide ((IntKind.i64.wrap (x19 + (1 : Int))) ≥ (a0.size : Int))) (by kernel_rfl) (fun t32 => ?_) (fun t32 => ?_)
            · have h := condT h t32
              refine k_seq ?_
              refine k_region ?_
              refine kl_steps 4 [(6, .pointer (some ⟨b1, 0, none⟩)), (50, .agg #[.int .i64 (4 : Int), .int .i64 a1]), (4, .string (⟨#[]⟩ : ByteArray)), (5, .int .i64 (0 : Int))] (by kernel_rfl) ?_
              refine kl_store (cs' := #[.int .i64 (4 : Int), .int .i64 a1]) [.st ⟨b1, 0, none⟩ (.int .i64 (4 : Int)), .st ⟨b1, 1, none⟩ (.int .i64 a1)] (by kernel_rfl) (by kernel_rfl) (by kernel_rfl) ⟨rfl, rfl, trivial⟩ (by kernel_rfl) ?_
              refine K.mv1 ?_
              refine K.drop ?_
              refine k_nil ?_
              refine k_then ?_
              refine k_ret ?_
              refine k_then_ret ?_
              refine k_blk_ret ?_
              refine k_then_ret ?_
              refine k_blk_ret ?_
              refine k_then_ret ?_
              obtain rfl := Option.some.inj h
              refine k_done (v := .tuple #[.string (⟨#[]⟩ : ByteArray), .int .i64 (0 : Int), .agg #[.int .i64 (4 : Int), .int .i64 a1]]) [.val (.int .i64 (4 : Int)), .val (.int .i64 a1)] [.ld ⟨b1, 0, none⟩ (.int .i64 (4 : Int)), .ld ⟨b1, 1, none⟩ (.int .i64 a1)] [] (by kernel_rfl) (by kernel_rfl) ⟨⟨0, _, _, _, rfl, rfl, rfl⟩, ⟨0, _, _, _, rfl, rfl, rfl⟩, trivial⟩ ?_
              refine K.drop ?_
              exact k_end ⟨rfl, rfl⟩
            · have h := condF h t32
              refine k_skip ?_
              refine k_then ?_
              refine k_seq ?_
              refine k_region ?_
              refine kl_steps 2 [(0, .string a0), (1, .int .i64 a1), (6, .pointer (some ⟨b1, 0, none⟩)), (7, .slice A16 l14.length k17), (8, .int .i64 x19), (52, .string a0), (53, .int .i64 x19)] (by kernel_rfl) ?_
              obtain ⟨r33, hr33, h⟩ := bindSome h
              refine kl_call (blk b1 (.cells #[.int .i64 (0 : Int), .int .i64 (0 : Int)] 25 (0, 0)) :: h15 :: X) (by kernel_rfl) (by kernel_rfl) (by kernel_rfl) (r11_escape.ok hr33) rfl trivial ?_
              rintro _ _ ⟨h34, A35, k36, o37, rfl, rfl⟩
              refine nx_ret ?_
              refine kl_steps 5 [(0, .string a0), (1, .int .i64 a1), (6, .pointer (some ⟨b1, 0, none⟩)), (7, .slice A16 l14.length k17), (8, .int .i64 x19), (9, .slice A35 r33.1.length k36), (10, .int .i64 r33.2)] (by kernel_rfl) ?_
              refine k_nil ?_
              refine k_then ?_
              refine k_seq ?_
              refine k_seq ?_
              refine k_region ?_
              refine kl_steps 2 [(0, .string a0), (1, .int .i64 a1), (6, .pointer (some ⟨b1, 0, none⟩)), (7, .slice A16 l14.length k17), (8, .int .i64 x19), (9, .slice A35 r33.1.length k36), (10, .int .i64 r33.2), (58, .bool (r33.2 == (0 : Int)))] (by kernel_rfl) ?_
              refine k_nil ?_
              refine k_then ?_
              refine k_cond (t := (r33.2 == (0 : Int))) (by kernel_rfl) (fun t38 => ?_) (fun t38 => ?_)
              · have h := condT h t38
                refine k_seq ?_
                refine k_region ?_
                refine kl_steps 4 [(6, .pointer (some ⟨b1, 0, none⟩)), (60, .agg #[.int .i64 (4 : Int), .int .i64 x19]), (4, .string (⟨#[]⟩ : ByteArray)), (5, .int .i64 (0 : Int))] (by kernel_rfl) ?_
                refine K.mv1 ?_
                refine kl_store (cs' := #[.int .i64 (4 : Int), .int .i64 x19]) [.st ⟨b1, 0, none⟩ (.int .i64 (4 : Int)), .st ⟨b1, 1, none⟩ (.int .i64 x19)] (by kernel_rfl) (by kernel_rfl) (by kernel_rfl) ⟨rfl, rfl, trivial⟩ (by kernel_rfl) ?_
                refine K.mv1 ?_
                refine K.drop ?_
                refine K.mv1 ?_
                refine K.drop ?_
                refine k_nil ?_
                refine k_then ?_
                refine k_ret ?_
                refine k_then_ret ?_
                refine k_blk_ret ?_
                refine k_then_ret ?_
                refine k_blk_ret ?_
                refine k_then_ret ?_
                obtain rfl := Option.some.inj h
                refine k_done (v := .tuple #[.string (⟨#[]⟩ : ByteArray), .int .i64 (0 : Int), .agg #[.int .i64 (4 : Int), .int .i64 x19]]) [.val (.int .i64 (4 : Int)), .val (.int .i64 x19)] [.ld ⟨b1, 0, none⟩ (.int .i64 (4 : Int)), .ld ⟨b1, 1, none⟩ (.int .i64 x19)] [] (by kernel_rfl) (by kernel_rfl) ⟨⟨0, _, _, _, rfl, rfl, rfl⟩, ⟨0, _, _, _, rfl, rfl, rfl⟩, trivial⟩ ?_
                refine K.drop ?_
                exact k_end ⟨rfl, rfl⟩
              · have h := condF h t38
                refine k_skip ?_
                refine k_then ?_
                refine k_seq ?_
                refine k_region ?_
                refine kl_steps 2 [(0, .string a0), (1, .int .i64 a1), (6, .pointer (some ⟨b1, 0, none⟩)), (7, .slice A16 l14.length k17), (8, .int .i64 x19), (10, .int .i64 r33.2), (61, .slice A16 l14.length k17), (62, .slice A35 r33.1.length k36)] (by kernel_rfl) ?_
                refine K.mv2 ?_
                obtain ⟨l39, hl39, h⟩ := bindSome h
                refine kl_apd (ys := r33.1) (encI_ok .u8) rfl ety44 (by kernel_rfl) (by kernel_rfl) (by kernel_rfl) (by kernel_rfl) (by kernel_rfl) hl39 o18 (src_rd o37 (.tail _ (.head _))) fun h40 A41 k42 o43 => ?_
                refine K.mv1 ?_
                refine K.drop ?_
                refine kl_steps 1 [(0, .string a0), (1, .int .i64 a1), (6, .pointer (some ⟨b1, 0, none⟩)), (7, .slice A41 l39.length k42), (8, .int .i64 x19), (10, .int .i64 r33.2)] (by kernel_rfl) ?_
                refine k_nil ?_
                refine k_then ?_
                refine k_region ?_
                refine kl_steps 4 [(0, .string a0), (1, .int .i64 a1), (6, .pointer (some ⟨b1, 0, none⟩)), (7, .slice A41 l39.length k42), (8, .int .i64 (IntKind.i64.wrap (x19 + r33.2)))] (by kernel_rfl) ?_
                refine k_nil ?_
                refine k_blk ?_
                refine k_then ?_
                refine K.mv1 ?_
                exact k_again m20 (l39, IntKind.i64.wrap (x19 + r33.2), h40, A41, k42) (Nat.lt_succ_self _) ⟨h, o43⟩ ⟨rfl, rfl, rfl, rfl, rfl, trivial⟩ rfl
        · have h := condF h t22
          refine k_exit ?_
          refine k_then_exit ?_
          refine k_then_exit ?_
          refine k_here ?_
          refine k_then ?_
          exact k_meet (l14, x19, h15, A16, k17) ⟨h, o18⟩ ⟨rfl, rfl, rfl, rfl, rfl, trivial⟩ rfl
      · have h := hq21
        clear hq21
        refine k_region_plan [(0, 0), (1, 0), (2, 0), (3, 0), (4, 0), (5, 0), (6, 0), (7, 0), (8, 0), (9, 0), (10, 0), (11, 0), (12, 0), (13, 0), (14, 0)] (fun _ => True) (by kernel_rfl) (by kernel_rfl) (fun _ _ d _ _ h => by cases d <;> exact h) (fun _ _ => trivial) ?_
        simp only [planOps, List.filterMap_cons, List.filterMap_nil, List.getElem?_toArray, List.getElem?_cons_zero, List.getElem?_cons_succ, Option.map_some, List.drop_succ_cons, List.drop_zero, List.length_cons, List.length_nil]
        refine kp_steps 5 [(0, .string a0), (1, .int .i64 a1), (6, .pointer (some ⟨b1, 0, none⟩)), (7, .slice A16 l14.length k17), (8, .int .i64 x19), (17, .bool (decide (x19 < (a0.size : Int))))] (by kernel_rfl) (by kernel_rfl) ?_
        rcases Bool.eq_false_or_eq_true (decide (x19 < (a0.size : Int))) with t44 | t44
        · have h := condT h t44
          refine K.weak (env' := [(0, .string a0), (1, .int .i64 a1), (6, .pointer (some ⟨b1, 0, none⟩)), (7, .slice A16 l14.length k17), (8, .int .i64 x19), (17, .bool true)]) ?_ ⟨rfl, rfl, rfl, rfl, rfl, congrArg (fun b => some (Value.bool b)) t44, trivial⟩
          refine kp_steps 2 [(0, .string a0), (1, .int .i64 a1), (6, .pointer (some ⟨b1, 0, none⟩)), (7, .slice A16 l14.length k17), (8, .int .i64 x19), (17, .bool true), (18, .string a0), (19, .int .i64 x19)] (by kernel_rfl) (by kernel_rfl) ?_
          obtain ⟨c45, hc45, h⟩ := bindSome h
          refine kp_index (kd := .i64) rfl (by kernel_rfl) (by kernel_rfl) (by kernel_rfl) (by kernel_rfl) (by kernel_rfl) hc45 ?_
          refine kp_steps 3 [(0, .string a0), (1, .int .i64 a1), (6, .pointer (some ⟨b1, 0, none⟩)), (7, .slice A16 l14.length k17), (8, .int .i64 x19), (23, .bool ((c45.toNat : Int) != (10 : Int)))] (by kernel_rfl) (by kernel_rfl) ?_
          rcases Bool.eq_false_or_eq_true (((c45.toNat : Int) != (10 : Int))) with t46 | t46
          · have h := condT h t46
            refine K.weak (env' := [(0, .string a0), (1, .int .i64 a1), (6, .pointer (some ⟨b1, 0, none⟩)), (7, .slice A16 l14.length k17), (8, .int .i64 x19), (23, .bool true)]) ?_ ⟨rfl, rfl, rfl, rfl, rfl, congrArg (fun b => some (Value.bool b)) t46, trivial⟩
            refine kp_steps 2 [(0, .string a0), (1, .int .i64 a1), (6, .pointer (some ⟨b1, 0, none⟩)), (7, .slice A16 l14.length k17), (8, .int .i64 x19), (23, .bool true), (24, .string a0), (25, .int .i64 x19)] (by kernel_rfl) (by kernel_rfl) ?_
            obtain ⟨c47, hc47, h⟩ := bindSome h
            refine kp_index (kd := .i64) rfl (by kernel_rfl) (by kernel_rfl) (by kernel_rfl) (by kernel_rfl) (by kernel_rfl) hc47 ?_
            refine kp_steps 1 [(0, .string a0), (1, .int .i64 a1), (6, .pointer (some ⟨b1, 0, none⟩)), (7, .slice A16 l14.length k17), (8, .int .i64 x19), (23, .bool true), (26, .int .u8 (c47.toNat : Int)), (27, .string a0)] (by kernel_rfl) (by kernel_rfl) ?_
            refine kp_done ?_
            refine kl_steps 1 [(0, .string a0), (1, .int .i64 a1), (6, .pointer (some ⟨b1, 0, none⟩)), (7, .slice A16 l14.length k17), (8, .int .i64 x19), (23, .bool true), (26, .int .u8 (c47.toNat : Int)), (27, .string a0), (28, .int .i64 a1)] (by kernel_rfl) ?_
            obtain ⟨c48, hc48, h⟩ := bindSome h
            refine kl_index (kd := .i64) rfl (by kernel_rfl) (by kernel_rfl) (by kernel_rfl) (by kernel_rfl) (by kernel_rfl) hc48 ?_
            refine kl_steps 2 [(0, .string a0), (1, .int .i64 a1), (6, .pointer (some ⟨b1, 0, none⟩)), (7, .slice A16 l14.length k17), (8, .int .i64 x19), (31, .bool ((c47.toNat : Int) != (c48.toNat : Int)))] (by kernel_rfl) ?_
            refine k_nil ?_
            refine k_then ?_
            exact k_meet1 ⟨rfl, rfl, rfl, rfl, rfl, congrArg (fun b => some (Value.bool b)) (Option.some.inj h), trivial⟩
          · have h := condF h t46
            refine K.weak (env' := [(0, .string a0), (1, .int .i64 a1), (6, .pointer (some ⟨b1, 0, none⟩)), (7, .slice A16 l14.length k17), (8, .int .i64 x19), (23, .bool false)]) ?_ ⟨rfl, rfl, rfl, rfl, rfl, congrArg (fun b => some (Value.bool b)) t46, trivial⟩
            refine kp_steps 4 [(0, .string a0), (1, .int .i64 a1), (6, .pointer (some ⟨b1, 0, none⟩)), (7, .slice A16 l14.length k17), (8, .int .i64 x19), (23, .bool false), (26, undef), (27, undef)] (by kernel_rfl) (by kernel_rfl) ?_
            refine kp_done ?_
            refine kl_steps 4 [(0, .string a0), (1, .int .i64 a1), (6, .pointer (some ⟨b1, 0, none⟩)), (7, .slice A16 l14.length k17), (8, .int .i64 x19), (31, .bool false)] (by kernel_rfl) ?_
            refine k_nil ?_
            refine k_then ?_
            exact k_meet1 ⟨rfl, rfl, rfl, rfl, rfl, congrArg (fun b => some (Value.bool b)) (Option.some.inj h), trivial⟩
        · have h := condF h t44
          refine K.weak (env' := [(0, .string a0), (1, .int .i64 a1), (6, .pointer (some ⟨b1, 0, none⟩)), (7, .slice A16 l14.length k17), (8, .int .i64 x19), (17, .bool false)]) ?_ ⟨rfl, rfl, rfl, rfl, rfl, congrArg (fun b => some (Value.bool b)) t44, trivial⟩
          refine kp_steps 10 [(0, .string a0), (1, .int .i64 a1), (6, .pointer (some ⟨b1, 0, none⟩)), (7, .slice A16 l14.length k17), (8, .int .i64 x19), (23, .bool false), (26, undef), (27, undef)] (by kernel_rfl) (by kernel_rfl) ?_
          refine kp_done ?_
          refine kl_steps 4 [(0, .string a0), (1, .int .i64 a1), (6, .pointer (some ⟨b1, 0, none⟩)), (7, .slice A16 l14.length k17), (8, .int .i64 x19), (31, .bool false)] (by kernel_rfl) ?_
          refine k_nil ?_
          refine k_then ?_
          exact k_meet1 ⟨rfl, rfl, rfl, rfl, rfl, congrArg (fun b => some (Value.bool b)) (Option.some.inj h), trivial⟩
end Go.Proofs.YtadenjlehhopmaaDoor
