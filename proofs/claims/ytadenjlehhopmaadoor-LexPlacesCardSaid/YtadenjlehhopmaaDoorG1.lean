/- Printed by a program of mine (wip/mk.py): functions with the same answers as the Go code, and the proof of it. -/
import Derived.Test.YtadenjlehhopmaaDoorG0
namespace Go.Proofs.YtadenjlehhopmaaDoor
open Go Go.RowKit
set_option linter.unusedSimpArgs false
set_option linter.unusedVariables false
def r11_names.l0 : Nat → (a0 : ByteArray) → (J2 : Int → Option (Int)) → (x3 : Int) → Option (Int)
  | 0, _, _, _ => none
  | m4 + 1, a0, J2, x3 => cond (decide (x3 < (a0.size : Int))) ((r01_At.f m4 a0 x3).bind fun r6 => ((r01_Letter.f m4 r6.2.2).bind fun r10 => cond (!r10) ((r01_Digit.f m4 r6.2.2).bind fun r12 => some (!r12)) (some false) : Option Bool).bind fun q8 => cond q8 (J2 x3) (r11_names.l0 m4 a0 J2 (IntKind.i64.wrap (x3 + r6.2.1)))) (J2 x3)
def r11_names.f (k : Nat) (a0 : ByteArray) (a1 : Int) : Option (Int) := joinF (fun (x1 : Int) => some (IntKind.i64.wrap (x1 - a1))) (fun J2 => r11_names.l0 k a0 J2 a1)
set_option maxRecDepth 100000 in
theorem r11_names.ok {k : Nat} {a0 : ByteArray} {a1 : Int} {r : Int} (h : r11_names.f k a0 a1 = some r) : Ct Tryd.prog 24 #[.string a0, .int .i64 a1] [] [] (fun e l1 => e = .returned (.int .i64 r) ∧ l1 = []) := by
  refine ct_enter (args := [.string a0, .int .i64 a1]) Tryd.func24 rfl (Nat.le_of_ble_eq_true rfl) ?_
  intro A X hh_
  unfold r11_names.f at h
  refine k_seq ?_
  refine k_region ?_
  refine kl_steps 1 [(0, .string a0), (1, .int .i64 a1)] (by kernel_rfl) ?_
  refine k_nil ?_
  refine k_then ?_
  refine k_seq ?_
  refine k_region ?_
  refine kl_steps 2 [(0, .string a0), (1, .int .i64 a1), (5, .int .i64 a1)] (by kernel_rfl) ?_
  refine k_nil ?_
  refine k_then ?_
  obtain ⟨J2, hJ2, h⟩ := joinSplit h
  refine k_cut (τ := Int) (fun t => [(1, .int .i64 a1), (5, .int .i64 t)]) (fun t => X) (fun t => J2 t = some r) ?_ ?_
  · rintro x1 h
    subst hJ2
    refine k_seq ?_
    refine k_region ?_
    refine kl_steps 4 [(4, .int .i64 (IntKind.i64.wrap (x1 - a1)))] (by kernel_rfl) ?_
    refine k_nil ?_
    refine k_then ?_
    refine k_ret ?_
    obtain rfl := Option.some.inj h
    refine k_done (v := .int .i64 (IntKind.i64.wrap (x1 - a1))) [] [] [] (by kernel_rfl) (by kernel_rfl) trivial ?_
    exact k_end ⟨rfl, rfl⟩
  · skip
    refine k_block ?_
    refine k_loop (τ := Int) (fun t => [(0, .string a0), (1, .int .i64 a1), (5, .int .i64 t)]) (fun t => X) (fun m t => r11_names.l0 m a0 J2 t = some r) k a1 h ⟨rfl, rfl, rfl, trivial⟩ rfl ?_
    clear h
    rintro m4 x3 h
    cases m4 with
    | zero => simp [r11_names.l0] at h
    | succ m4 =>
      simp only [r11_names.l0] at h
      refine k_seq ?_
      refine k_seq ?_
      refine k_region ?_
      refine kl_steps 4 [(0, .string a0), (1, .int .i64 a1), (5, .int .i64 x3), (11, .bool (decide (x3 < (a0.size : Int))))] (by kernel_rfl) ?_
      refine k_nil ?_
      refine k_then ?_
      refine k_cond (t := decide (x3 < (a0.size : Int))) (by kernel_rfl) (fun t5 => ?_) (fun t5 => ?_)
      · have h := condT h t5
        refine k_skip ?_
        refine k_then ?_
        refine k_block ?_
        refine k_seq ?_
        refine k_region ?_
        refine kl_steps 2 [(0, .string a0), (1, .int .i64 a1), (5, .int .i64 x3), (12, .string a0), (13, .int .i64 x3)] (by kernel_rfl) ?_
        obtain ⟨r6, hr6, h⟩ := bindSome h
        refine kl_callv (by kernel_rfl) (by kernel_rfl) (by kernel_rfl) (r01_At.ok hr6) trivial ?_
        refine kl_new (.cells #[.int .i64 (0 : Int), .int .i64 (0 : Int), .int .i64 (0 : Int)] 40 (0, 0)) (fun b => .pointer (some ⟨b, 0, none⟩)) (by kernel_rfl) (by kernel_rfl) (fun _ => by kernel_rfl) fun b7 => ?_
        refine kl_store (cs' := #[.int .i64 r6.1, .int .i64 r6.2.1, .int .i64 r6.2.2]) [.st ⟨b7, 0, none⟩ (.int .i64 r6.1), .st ⟨b7, 1, none⟩ (.int .i64 r6.2.1), .st ⟨b7, 2, none⟩ (.int .i64 r6.2.2)] (by kernel_rfl) (by kernel_rfl) (by kernel_rfl) ⟨rfl, rfl, rfl, trivial⟩ (by kernel_rfl) ?_
        refine k_nil ?_
        refine k_then ?_
        refine k_seq ?_
        obtain ⟨q8, hq8, h⟩ := bindSome h
        refine k_cut1 [(0, .string a0), (1, .int .i64 a1), (5, .int .i64 x3), (6, .pointer (some ⟨b7, 0, none⟩)), (24, .bool q8)] (blk b7 (.cells #[.int .i64 r6.1, .int .i64 r6.2.1, .int .i64 r6.2.2] 40 (0, 0)) :: X) ?_ ?_
        · clear hq8
          refine k_cond (t := q8) (by kernel_rfl) (fun t9 => ?_) (fun t9 => ?_)
          · have h := condT h t9
            refine k_exit ?_
            refine k_then_exit ?_
            refine k_there rfl ?_
            refine k_then_exit ?_
            refine k_here ?_
            refine k_then ?_
            refine K.drop ?_
            exact k_meet x3 h ⟨rfl, rfl, trivial⟩ rfl
          · have h := condF h t9
            refine k_skip ?_
            refine k_then ?_
            refine k_region ?_
            refine kl_steps 2 [(0, .string a0), (1, .int .i64 a1), (5, .int .i64 x3), (25, .int .i64 x3), (26, .pointer (some ⟨b7, 1, none⟩))] (by kernel_rfl) ?_
            refine kl_load (v := .int .i64 r6.2.1) [.val (.int .i64 r6.2.1)] [.ld ⟨b7, 1, none⟩ (.int .i64 r6.2.1)] (by kernel_rfl) (by kernel_rfl) (by kernel_rfl) ⟨⟨0, _, _, _, rfl, rfl, rfl⟩, trivial⟩ ?_
            refine K.drop ?_
            refine kl_steps 2 [(0, .string a0), (1, .int .i64 a1), (5, .int .i64 (IntKind.i64.wrap (x3 + r6.2.1)))] (by kernel_rfl) ?_
            refine k_nil ?_
            refine k_blk ?_
            refine k_then ?_
            exact k_again m4 (IntKind.i64.wrap (x3 + r6.2.1)) (Nat.lt_succ_self _) h ⟨rfl, rfl, rfl, trivial⟩ rfl
        · have h := hq8
          clear hq8
          refine k_region ?_
          refine kl_steps 1 [(0, .string a0), (1, .int .i64 a1), (5, .int .i64 x3), (6, .pointer (some ⟨b7, 0, none⟩)), (15, .pointer (some ⟨b7, 2, none⟩))] (by kernel_rfl) ?_
          refine kl_load (v := .int .i64 r6.2.2) [.val (.int .i64 r6.2.2)] [.ld ⟨b7, 2, none⟩ (.int .i64 r6.2.2)] (by kernel_rfl) (by kernel_rfl) (by kernel_rfl) ⟨⟨0, _, _, _, rfl, rfl, rfl⟩, trivial⟩ ?_
          obtain ⟨r10, hr10, h⟩ := bindSome h
          refine kl_callv (by kernel_rfl) (by kernel_rfl) (by kernel_rfl) (r01_Letter.ok hr10) trivial ?_
          refine kl_steps 2 [(0, .string a0), (1, .int .i64 a1), (5, .int .i64 x3), (6, .pointer (some ⟨b7, 0, none⟩)), (19, .bool (!r10))] (by kernel_rfl) ?_
          rcases Bool.eq_false_or_eq_true (!r10) with t11 | t11
          · have h := condT h t11
            refine K.weak (env' := [(0, .string a0), (1, .int .i64 a1), (5, .int .i64 x3), (6, .pointer (some ⟨b7, 0, none⟩)), (19, .bool true)]) ?_ ⟨rfl, rfl, rfl, rfl, congrArg (fun b => some (Value.bool b)) t11, trivial⟩
            refine kl_steps 1 [(0, .string a0), (1, .int .i64 a1), (5, .int .i64 x3), (6, .pointer (some ⟨b7, 0, none⟩)), (19, .bool true), (20, .pointer (some ⟨b7, 2, none⟩))] (by kernel_rfl) ?_
            refine kl_load (v := .int .i64 r6.2.2) [.val (.int .i64 r6.2.2)] [.ld ⟨b7, 2, none⟩ (.int .i64 r6.2.2)] (by kernel_rfl) (by kernel_rfl) (by kernel_rfl) ⟨⟨0, _, _, _, rfl, rfl, rfl⟩, trivial⟩ ?_
            obtain ⟨r12, hr12, h⟩ := bindSome h
            refine kl_callv (by kernel_rfl) (by kernel_rfl) (by kernel_rfl) (r01_Digit.ok hr12) trivial ?_
            refine kl_steps 2 [(0, .string a0), (1, .int .i64 a1), (5, .int .i64 x3), (6, .pointer (some ⟨b7, 0, none⟩)), (24, .bool (!r12))] (by kernel_rfl) ?_
            refine k_nil ?_
            refine k_then ?_
            exact k_meet1 ⟨rfl, rfl, rfl, rfl, congrArg (fun b => some (Value.bool b)) (Option.some.inj h), trivial⟩
          · have h := condF h t11
            refine K.weak (env' := [(0, .string a0), (1, .int .i64 a1), (5, .int .i64 x3), (6, .pointer (some ⟨b7, 0, none⟩)), (19, .bool false)]) ?_ ⟨rfl, rfl, rfl, rfl, congrArg (fun b => some (Value.bool b)) t11, trivial⟩
            refine kl_steps 5 [(0, .string a0), (1, .int .i64 a1), (5, .int .i64 x3), (6, .pointer (some ⟨b7, 0, none⟩)), (24, .bool false)] (by kernel_rfl) ?_
            refine k_nil ?_
            refine k_then ?_
            exact k_meet1 ⟨rfl, rfl, rfl, rfl, congrArg (fun b => some (Value.bool b)) (Option.some.inj h), trivial⟩
      · have h := condF h t5
        refine k_exit ?_
        refine k_then_exit ?_
        refine k_then_exit ?_
        refine k_here ?_
        refine k_then ?_
        exact k_meet x3 h ⟨rfl, rfl, trivial⟩ rfl
def r11_IsWord.f (_k : Nat) (a0 : ByteArray) : Option (Bool) := joinF (fun (x1 : Bool) => cond x1 (some (true)) (some (false))) (fun J2 => cond (a0.toList == (⟨#[97, 110, 100]⟩ : ByteArray).toList) (J2 (a0.toList == (⟨#[97, 110, 100]⟩ : ByteArray).toList)) (cond (a0.toList == (⟨#[98, 114, 101, 97, 107]⟩ : ByteArray).toList) (J2 (a0.toList == (⟨#[98, 114, 101, 97, 107]⟩ : ByteArray).toList)) (cond (a0.toList == (⟨#[100, 111]⟩ : ByteArray).toList) (J2 (a0.toList == (⟨#[100, 111]⟩ : ByteArray).toList)) (cond (a0.toList == (⟨#[101, 108, 115, 101]⟩ : ByteArray).toList) (J2 (a0.toList == (⟨#[101, 108, 115, 101]⟩ : ByteArray).toList)) (cond (a0.toList == (⟨#[101, 108, 115, 101, 105, 102]⟩ : ByteArray).toList) (J2 (a0.toList == (⟨#[101, 108, 115, 101, 105, 102]⟩ : ByteArray).toList)) (cond (a0.toList == (⟨#[101, 110, 100]⟩ : ByteArray).toList) (J2 (a0.toList == (⟨#[101, 110, 100]⟩ : ByteArray).toList)) (cond (a0.toList == (⟨#[102, 97, 108, 115, 101]⟩ : ByteArray).toList) (J2 (a0.toList == (⟨#[102, 97, 108, 115, 101]⟩ : ByteArray).toList)) (cond (a0.toList == (⟨#[102, 111, 114]⟩ : ByteArray).toList) (J2 (a0.toList == (⟨#[102, 111, 114]⟩ : ByteArray).toList)) (cond (a0.toList == (⟨#[102, 117, 110, 99, 116, 105, 111, 110]⟩ : ByteArray).toList) (J2 (a0.toList == (⟨#[102, 117, 110, 99, 116, 105, 111, 110]⟩ : ByteArray).toList)) (cond (a0.toList == (⟨#[105, 102]⟩ : ByteArray).toList) (J2 (a0.toList == (⟨#[105, 102]⟩ : ByteArray).toList)) (cond (a0.toList == (⟨#[105, 110]⟩ : ByteArray).toList) (J2 (a0.toList == (⟨#[105, 110]⟩ : ByteArray).toList)) (cond (a0.toList == (⟨#[108, 111, 99, 97, 108]⟩ : ByteArray).toList) (J2 (a0.toList == (⟨#[108, 111, 99, 97, 108]⟩ : ByteArray).toList)) (cond (a0.toList == (⟨#[110, 105, 108]⟩ : ByteArray).toList) (J2 (a0.toList == (⟨#[110, 105, 108]⟩ : ByteArray).toList)) (cond (a0.toList == (⟨#[110, 111, 116]⟩ : ByteArray).toList) (J2 (a0.toList == (⟨#[110, 111, 116]⟩ : ByteArray).toList)) (cond (a0.toList == (⟨#[111, 114]⟩ : ByteArray).toList) (J2 (a0.toList == (⟨#[111, 114]⟩ : ByteArray).toList)) (cond (a0.toList == (⟨#[114, 101, 116, 117, 114, 110]⟩ : ByteArray).toList) (J2 (a0.toList == (⟨#[114, 101, 116, 117, 114, 110]⟩ : ByteArray).toList)) (cond (a0.toList == (⟨#[116, 104, 101, 110]⟩ : ByteArray).toList) (J2 (a0.toList == (⟨#[116, 104, 101, 110]⟩ : ByteArray).toList)) (cond (a0.toList == (⟨#[116, 114, 117, 101]⟩ : ByteArray).toList) (J2 (a0.toList == (⟨#[116, 114, 117, 101]⟩ : ByteArray).toList)) (J2 (a0.toList == (⟨#[119, 104, 105, 108, 101]⟩ : ByteArray).toList))))))))))))))))))))
set_option maxRecDepth 100000 in
theorem r11_IsWord.ok {k : Nat} {a0 : ByteArray} {r : Bool} (h : r11_IsWord.f k a0 = some r) : Ct Tryd.prog 17 #[.string a0] [] [] (fun e l1 => e = .returned (.bool r) ∧ l1 = []) := by
  refine ct_enter (args := [.string a0]) Tryd.func17 rfl (Nat.le_of_ble_eq_true rfl) ?_
  intro A X hh_
  unfold r11_IsWord.f at h
  refine k_seq ?_
  refine k_region ?_
  refine kl_steps 1 [(0, .string a0)] (by kernel_rfl) ?_
  refine k_nil ?_
  refine k_then ?_
  refine k_seq ?_
  refine k_seq ?_
  refine k_region ?_
  refine kl_steps 1 [(3, .string a0)] (by kernel_rfl) ?_
  refine k_nil ?_
  refine k_then ?_
  refine k_block ?_
  obtain ⟨J2, hJ2, h⟩ := joinSplit h
  refine k_cut (τ := Bool) (fun t => [(4, .bool t)]) (fun t => X) (fun t => J2 t = some r) ?_ ?_
  · rintro x1 h
    subst hJ2
    refine k_cond (t := x1) (by kernel_rfl) (fun t3 => ?_) (fun t3 => ?_)
    · have h := condT h t3
      refine k_seq ?_
      refine k_region ?_
      refine kl_steps 1 [(2, .bool true)] (by kernel_rfl) ?_
      refine k_nil ?_
      refine k_then ?_
      refine k_ret ?_
      refine k_blk_ret ?_
      refine k_then_ret ?_
      obtain rfl := Option.some.inj h
      refine k_done (v := .bool true) [] [] [] (by kernel_rfl) (by kernel_rfl) trivial ?_
      exact k_end ⟨rfl, rfl⟩
    · have h := condF h t3
      refine k_skip ?_
      refine k_blk ?_
      refine k_then ?_
      refine k_seq ?_
      refine k_region ?_
      refine kl_steps 1 [(2, .bool false)] (by kernel_rfl) ?_
      refine k_nil ?_
      refine k_then ?_
      refine k_ret ?_
      obtain rfl := Option.some.inj h
      refine k_done (v := .bool false) [] [] [] (by kernel_rfl) (by kernel_rfl) trivial ?_
      exact k_end ⟨rfl, rfl⟩
  · skip
    refine k_seq ?_
    refine k_region ?_
    refine kl_steps 2 [(3, .string a0), (4, .bool (a0.toList == (⟨#[97, 110, 100]⟩ : ByteArray).toList))] (by kernel_rfl) ?_
    refine k_nil ?_
    refine k_then ?_
    refine k_cond (t := (a0.toList == (⟨#[97, 110, 100]⟩ : ByteArray).toList)) (by kernel_rfl) (fun t4 => ?_) (fun t4 => ?_)
    · have h := condT h t4
      refine k_skip ?_
      refine k_then ?_
      exact k_meet (a0.toList == (⟨#[97, 110, 100]⟩ : ByteArray).toList) h ⟨rfl, trivial⟩ rfl
    · have h := condF h t4
      refine k_seq ?_
      refine k_region ?_
      refine kl_steps 2 [(3, .string a0), (4, .bool (a0.toList == (⟨#[98, 114, 101, 97, 107]⟩ : ByteArray).toList))] (by kernel_rfl) ?_
      refine k_nil ?_
      refine k_then ?_
      refine k_cond (t := (a0.toList == (⟨#[98, 114, 101, 97, 107]⟩ : ByteArray).toList)) (by kernel_rfl) (fun t5 => ?_) (fun t5 => ?_)
      · have h := condT h t5
        refine k_skip ?_
        refine k_then ?_
        exact k_meet (a0.toList == (⟨#[98, 114, 101, 97, 107]⟩ : ByteArray).toList) h ⟨rfl, trivial⟩ rfl
      · have h := condF h t5
        refine k_seq ?_
        refine k_region ?_
        refine kl_steps 2 [(3, .string a0), (4, .bool (a0.toList == (⟨#[100, 111]⟩ : ByteArray).toList))] (by kernel_rfl) ?_
        refine k_nil ?_
        refine k_then ?_
        refine k_cond (t := (a0.toList == (⟨#[100, 111]⟩ : ByteArray).toList)) (by kernel_rfl) (fun t6 => ?_) (fun t6 => ?_)
        · have h := condT h t6
          refine k_skip ?_
          refine k_then ?_
          exact k_meet (a0.toList == (⟨#[100, 111]⟩ : ByteArray).toList) h ⟨rfl, trivial⟩ rfl
        · have h := condF h t6
          refine k_seq ?_
          refine k_region ?_
          refine kl_steps 2 [(3, .string a0), (4, .bool (a0.toList == (⟨#[101, 108, 115, 101]⟩ : ByteArray).toList))] (by kernel_rfl) ?_
          refine k_nil ?_
          refine k_then ?_
          refine k_cond (t := (a0.toList == (⟨#[101, 108, 115, 101]⟩ : ByteArray).toList)) (by kernel_rfl) (fun t7 => ?_) (fun t7 => ?_)
          · have h := condT h t7
            refine k_skip ?_
            refine k_then ?_
            exact k_meet (a0.toList == (⟨#[101, 108, 115, 101]⟩ : ByteArray).toList) h ⟨rfl, trivial⟩ rfl
          · have h := condF h t7
            refine k_seq ?_
            refine k_region ?_
            refine kl_steps 2 [(3, .string a0), (4, .bool (a0.toList == (⟨#[101, 108, 115, 101, 105, 102]⟩ : ByteArray).toList))] (by kernel_rfl) ?_
            refine k_nil ?_
            refine k_then ?_
            refine k_cond (t := (a0.toList == (⟨#[101, 108, 115, 101, 105, 102]⟩ : ByteArray).toList)) (by kernel_rfl) (fun t8 => ?_) (fun t8 => ?_)
            · have h := condT h t8
              refine k_skip ?_
              refine k_then ?_
              exact k_meet (a0.toList == (⟨#[101, 108, 115, 101, 105, 102]⟩ : ByteArray).toList) h ⟨rfl, trivial⟩ rfl
            · have h := condF h t8
              refine k_seq ?_
              refine k_region ?_
              refine kl_steps 2 [(3, .string a0), (4, .bool (a0.toList == (⟨#[101, 110, 100]⟩ : ByteArray).toList))] (by kernel_rfl) ?_
              refine k_nil ?_
              refine k_then ?_
              refine k_cond (t := (a0.toList == (⟨#[101, 110, 100]⟩ : ByteArray).toList)) (by kernel_rfl) (fun t9 => ?_) (fun t9 => ?_)
              · have h := condT h t9
                refine k_skip ?_
                refine k_then ?_
                exact k_meet (a0.toList == (⟨#[101, 110, 100]⟩ : ByteArray).toList) h ⟨rfl, trivial⟩ rfl
              · have h := condF h t9
                refine k_seq ?_
                refine k_region ?_
                refine kl_steps 2 [(3, .string a0), (4, .bool (a0.toList == (⟨#[102, 97, 108, 115, 101]⟩ : ByteArray).toList))] (by kernel_rfl) ?_
                refine k_nil ?_
                refine k_then ?_
                refine k_cond (t := (a0.toList == (⟨#[102, 97, 108, 115, 101]⟩ : ByteArray).toList)) (by kernel_rfl) (fun t10 => ?_) (fun t10 => ?_)
                · have h := condT h t10
                  refine k_skip ?_
                  refine k_then ?_
                  exact k_meet (a0.toList == (⟨#[102, 97, 108, 115, 101]⟩ : ByteArray).toList) h ⟨rfl, trivial⟩ rfl
                · have h := condF h t10
                  refine k_seq ?_
                  refine k_region ?_
                  refine kl_steps 2 [(3, .string a0), (4, .bool (a0.toList == (⟨#[102, 111, 114]⟩ : ByteArray).toList))] (by kernel_rfl) ?_
                  refine k_nil ?_
                  refine k_then ?_
                  refine k_cond (t := (a0.toList == (⟨#[102, 111, 114]⟩ : ByteArray).toList)) (by kernel_rfl) (fun t11 => ?_) (fun t11 => ?_)
                  · have h := condT h t11
                    refine k_skip ?_
                    refine k_then ?_
                    exact k_meet (a0.toList == (⟨#[102, 111, 114]⟩ : ByteArray).toList) h ⟨rfl, trivial⟩ rfl
                  · have h := condF h t11
                    refine k_seq ?_
                    refine k_region ?_
                    refine kl_steps 2 [(3, .string a0), (4, .bool (a0.toList == (⟨#[102, 117, 110, 99, 116, 105, 111, 110]⟩ : ByteArray).toList))] (by kernel_rfl) ?_
                    refine k_nil ?_
                    refine k_then ?_
                    refine k_cond (t := (a0.toList == (⟨#[102, 117, 110, 99, 116, 105, 111, 110]⟩ : ByteArray).toList)) (by kernel_rfl) (fun t12 => ?_) (fun t12 => ?_)
                    · have h := condT h t12
                      refine k_skip ?_
                      refine k_then ?_
                      exact k_meet (a0.toList == (⟨#[102, 117, 110, 99, 116, 105, 111, 110]⟩ : ByteArray).toList) h ⟨rfl, trivial⟩ rfl
                    · have h := condF h t12
                      refine k_seq ?_
                      refine k_region ?_
                      refine kl_steps 2 [(3, .string a0), (4, .bool (a0.toList == (⟨#[105, 102]⟩ : ByteArray).toList))] (by kernel_rfl) ?_
                      refine k_nil ?_
                      refine k_then ?_
                      refine k_cond (t := (a0.toList == (⟨#[105, 102]⟩ : ByteArray).toList)) (by kernel_rfl) (fun t13 => ?_) (fun t13 => ?_)
                      · have h := condT h t13
                        refine k_skip ?_
                        refine k_then ?_
                        exact k_meet (a0.toList == (⟨#[105, 102]⟩ : ByteArray).toList) h ⟨rfl, trivial⟩ rfl
                      · have h := condF h t13
                        refine k_seq ?_
                        refine k_region ?_
                        refine kl_steps 2 [(3, .string a0), (4, .bool (a0.toList == (⟨#[105, 110]⟩ : ByteArray).toList))] (by kernel_rfl) ?_
                        refine k_nil ?_
                        refine k_then ?_
                        refine k_cond (t := (a0.toList == (⟨#[105, 110]⟩ : ByteArray).toList)) (by kernel_rfl) (fun t14 => ?_) (fun t14 => ?_)
                        · have h := condT h t14
                          refine k_skip ?_
                          refine k_then ?_
                          exact k_meet (a0.toList == (⟨#[105, 110]⟩ : ByteArray).toList) h ⟨rfl, trivial⟩ rfl
                        · have h := condF h t14
                          refine k_seq ?_
                          refine k_region ?_
                          refine kl_steps 2 [(3, .string a0), (4, .bool (a0.toList == (⟨#[108, 111, 99, 97, 108]⟩ : ByteArray).toList))] (by kernel_rfl) ?_
                          refine k_nil ?_
                          refine k_then ?_
                          refine k_cond (t := (a0.toList == (⟨#[108, 111, 99, 97, 108]⟩ : ByteArray).toList)) (by kernel_rfl) (fun t15 => ?_) (fun t15 => ?_)
                          · have h := condT h t15
                            refine k_skip ?_
                            refine k_then ?_
                            exact k_meet (a0.toList == (⟨#[108, 111, 99, 97, 108]⟩ : ByteArray).toList) h ⟨rfl, trivial⟩ rfl
                          · have h := condF h t15
                            refine k_seq ?_
                            refine k_region ?_
                            refine kl_steps 2 [(3, .string a0), (4, .bool (a0.toList == (⟨#[110, 105, 108]⟩ : ByteArray).toList))] (by kernel_rfl) ?_
                            refine k_nil ?_
                            refine k_then ?_
                            refine k_cond (t := (a0.toList == (⟨#[110, 105, 108]⟩ : ByteArray).toList)) (by kernel_rfl) (fun t16 => ?_) (fun t16 => ?_)
                            · have h := condT h t16
                              refine k_skip ?_
                              refine k_then ?_
                              exact k_meet (a0.toList == (⟨#[110, 105, 108]⟩ : ByteArray).toList) h ⟨rfl, trivial⟩ rfl
                            · have h := condF h t16
                              refine k_seq ?_
                              refine k_region ?_
                              refine kl_steps 2 [(3, .string a0), (4, .bool (a0.toList == (⟨#[110, 111, 116]⟩ : ByteArray).toList))] (by kernel_rfl) ?_
                              refine k_nil ?_
                              refine k_then ?_
                              refine k_cond (t := (a0.toList == (⟨#[110, 111, 116]⟩ : ByteArray).toList)) (by kernel_rfl) (fun t17 => ?_) (fun t17 => ?_)
                              · have h := condT h t17
                                refine k_skip ?_
                                refine k_then ?_
                                exact k_meet (a0.toList == (⟨#[110, 111, 116]⟩ : ByteArray).toList) h ⟨rfl, trivial⟩ rfl
                              · have h := condF h t17
                                refine k_seq ?_
                                refine k_region ?_
                                refine kl_steps 2 [(3, .string a0), (4, .bool (a0.toList == (⟨#[111, 114]⟩ : ByteArray).toList))] (by kernel_rfl) ?_
                                refine k_nil ?_
                                refine k_then ?_
                                refine k_cond (t := (a0.toList == (⟨#[111, 114]⟩ : ByteArray).toList)) (by kernel_rfl) (fun t18 => ?_) (fun t18 => ?_)
                                · have h := condT h t18
                                  refine k_skip ?_
                                  refine k_then ?_
                                  exact k_meet (a0.toList == (⟨#[111, 114]⟩ : ByteArray).toList) h ⟨rfl, trivial⟩ rfl
                                · have h := condF h t18
                                  refine k_seq ?_
                                  refine k_region ?_
                                  refine kl_steps 2 [(3, .string a0), (4, .bool (a0.toList == (⟨#[114, 101, 116, 117, 114, 110]⟩ : ByteArray).toList))] (by kernel_rfl) ?_
                                  refine k_nil ?_
                                  refine k_then ?_
                                  refine k_cond (t := (a0.toList == (⟨#[114, 101, 116, 117, 114, 110]⟩ : ByteArray).toList)) (by kernel_rfl) (fun t19 => ?_) (fun t19 => ?_)
                                  · have h := condT h t19
                                    refine k_skip ?_
                                    refine k_then ?_
                                    exact k_meet (a0.toList == (⟨#[114, 101, 116, 117, 114, 110]⟩ : ByteArray).toList) h ⟨rfl, trivial⟩ rfl
                                  · have h := condF h t19
                                    refine k_seq ?_
                                    refine k_region ?_
                                    refine kl_steps 2 [(3, .string a0), (4, .bool (a0.toList == (⟨#[116, 104, 101, 110]⟩ : ByteArray).toList))] (by kernel_rfl) ?_
                                    refine k_nil ?_
                                    refine k_then ?_
                                    refine k_cond (t := (a0.toList == (⟨#[116, 104, 101, 110]⟩ : ByteArray).toList)) (by kernel_rfl) (fun t20 => ?_) (fun t20 => ?_)
                                    · have h := condT h t20
                                      refine k_skip ?_
                                      refine k_then ?_
                                      exact k_meet (a0.toList == (⟨#[116, 104, 101, 110]⟩ : ByteArray).toList) h ⟨rfl, trivial⟩ rfl
                                    · have h := condF h t20
                                      refine k_seq ?_
                                      refine k_region ?_
                                      refine kl_steps 2 [(3, .string a0), (4, .bool (a0.toList == (⟨#[116, 114, 117, 101]⟩ : ByteArray).toList))] (by kernel_rfl) ?_
                                      refine k_nil ?_
                                      refine k_then ?_
                                      refine k_cond (t := (a0.toList == (⟨#[116, 114, 117, 101]⟩ : ByteArray).toList)) (by kernel_rfl) (fun t21 => ?_) (fun t21 => ?_)
                                      · have h := condT h t21
                                        refine k_skip ?_
                                        refine k_then ?_
                                        exact k_meet (a0.toList == (⟨#[116, 114, 117, 101]⟩ : ByteArray).toList) h ⟨rfl, trivial⟩ rfl
                                      · have h := condF h t21
                                        refine k_region ?_
                                        refine kl_steps 2 [(4, .bool (a0.toList == (⟨#[119, 104, 105, 108, 101]⟩ : ByteArray).toList))] (by kernel_rfl) ?_
                                        refine k_nil ?_
                                        refine k_then ?_
                                        exact k_meet (a0.toList == (⟨#[119, 104, 105, 108, 101]⟩ : ByteArray).toList) h ⟨rfl, trivial⟩ rfl
def r11_sign.f (_k : Nat) (a0 : ByteArray) (a1 : Int) : Option (ByteArray) := joinF (fun (_ : Unit) => (sIdx a0 a1).bind fun c2 : UInt8 => joinF (fun (x3 : Bool) => cond x3 ((sSub a0 a1 (IntKind.i64.wrap (a1 + (1 : Int)))).bind fun s6 : ByteArray => some (s6)) (some ((⟨#[]⟩ : ByteArray)))) (fun J4 => cond ((c2.toNat : Int) == (43 : Int)) (J4 ((c2.toNat : Int) == (43 : Int))) (cond ((c2.toNat : Int) == (45 : Int)) (J4 ((c2.toNat : Int) == (45 : Int))) (cond ((c2.toNat : Int) == (42 : Int)) (J4 ((c2.toNat : Int) == (42 : Int))) (cond ((c2.toNat : Int) == (37 : Int)) (J4 ((c2.toNat : Int) == (37 : Int))) (cond ((c2.toNat : Int) == (60 : Int)) (J4 ((c2.toNat : Int) == (60 : Int))) (cond ((c2.toNat : Int) == (62 : Int)) (J4 ((c2.toNat : Int) == (62 : Int))) (cond ((c2.toNat : Int) == (61 : Int)) (J4 ((c2.toNat : Int) == (61 : Int))) (cond ((c2.toNat : Int) == (35 : Int)) (J4 ((c2.toNat : Int) == (35 : Int))) (cond ((c2.toNat : Int) == (40 : Int)) (J4 ((c2.toNat : Int) == (40 : Int))) (cond ((c2.toNat : Int) == (41 : Int)) (J4 ((c2.toNat : Int) == (41 : Int))) (cond ((c2.toNat : Int) == (123 : Int)) (J4 ((c2.toNat : Int) == (123 : Int))) (cond ((c2.toNat : Int) == (125 : Int)) (J4 ((c2.toNat : Int) == (125 : Int))) (cond ((c2.toNat : Int) == (91 : Int)) (J4 ((c2.toNat : Int) == (91 : Int))) (cond ((c2.toNat : Int) == (93 : Int)) (J4 ((c2.toNat : Int) == (93 : Int))) (cond ((c2.toNat : Int) == (59 : Int)) (J4 ((c2.toNat : Int) == (59 : Int))) (cond ((c2.toNat : Int) == (44 : Int)) (J4 ((c2.toNat : Int) == (44 : Int))) (J4 ((c2.toNat : Int) == (46 : Int)))))))))))))))))))) (fun J1 => cond (decide (a1 < (IntKind.i64.wrap ((a0.size : Int) - (1 : Int))))) ((sSub a0 a1 (IntKind.i64.wrap (a1 + (2 : Int)))).bind fun s24 : ByteArray => joinF (fun (x25 : Bool) => cond x25 ((sSub a0 a1 (IntKind.i64.wrap (a1 + (2 : Int)))).bind fun s28 : ByteArray => some (s28)) (J1 ())) (fun J26 => cond (s24.toList == (⟨#[61, 61]⟩ : ByteArray).toList) (J26 (s24.toList == (⟨#[61, 61]⟩ : ByteArray).toList)) (cond (s24.toList == (⟨#[126, 61]⟩ : ByteArray).toList) (J26 (s24.toList == (⟨#[126, 61]⟩ : ByteArray).toList)) (cond (s24.toList == (⟨#[60, 61]⟩ : ByteArray).toList) (J26 (s24.toList == (⟨#[60, 61]⟩ : ByteArray).toList)) (cond (s24.toList == (⟨#[62, 61]⟩ : ByteArray).toList) (J26 (s24.toList == (⟨#[62, 61]⟩ : ByteArray).toList)) (cond (s24.toList == (⟨#[47, 47]⟩ : ByteArray).toList) (J26 (s24.toList == (⟨#[47, 47]⟩ : ByteArray).toList)) (J26 (s24.toList == (⟨#[46, 46]⟩ : ByteArray).toList)))))))) (J1 ()))
set_option maxRecDepth 100000 in
theorem r11_sign.ok {k : Nat} {a0 : ByteArray} {a1 : Int} {r : ByteArray} (h : r11_sign.f k a0 a1 = some r) : Ct Tryd.prog 28 #[.string a0, .int .i64 a1] [] [] (fun e l1 => e = .returned (.string r) ∧ l1 = []) := by
  refine ct_enter (args := [.string a0, .int .i64 a1]) Tryd.func28 rfl (Nat.le_of_ble_eq_true rfl) ?_
  intro A X hh_
  unfold r11_sign.f at h
  refine k_seq ?_
  refine k_region ?_
  refine kl_steps 1 [(0, .string a0), (1, .int .i64 a1)] (by kernel_rfl) ?_
  refine k_nil ?_
  refine k_then ?_
  obtain ⟨J1, hJ1, h⟩ := joinSplit h
  refine k_cut (τ := Unit) (fun t => [(0, .string a0), (1, .int .i64 a1)]) (fun t => X) (fun t => J1 () = some r) ?_ ?_
  · rintro ⟨⟩ h
    subst hJ1
    refine k_seq ?_
    refine k_seq ?_
    refine k_region ?_
    refine kl_steps 2 [(0, .string a0), (1, .int .i64 a1), (27, .string a0), (28, .int .i64 a1)] (by kernel_rfl) ?_
    obtain ⟨c2, hc2, h⟩ := bindSome h
    refine kl_index (kd := .i64) rfl (by kernel_rfl) (by kernel_rfl) (by kernel_rfl) (by kernel_rfl) (by kernel_rfl) hc2 ?_
    refine k_nil ?_
    refine k_then ?_
    refine k_block ?_
    obtain ⟨J4, hJ4, h⟩ := joinSplit h
    refine k_cut (τ := Bool) (fun t => [(0, .string a0), (1, .int .i64 a1), (30, .bool t)]) (fun t => X) (fun t => J4 t = some r) ?_ ?_
    · rintro x3 h
      subst hJ4
      refine k_cond (t := x3) (by kernel_rfl) (fun t5 => ?_) (fun t5 => ?_)
      · have h := condT h t5
        refine k_seq ?_
        refine k_region ?_
        refine kl_steps 4 [(48, .string a0), (49, .int .i64 a1), (51, .int .i64 (IntKind.i64.wrap (a1 + (1 : Int))))] (by kernel_rfl) ?_
        obtain ⟨s6, hs6, h⟩ := bindSome h
        refine kl_sstr a1 (IntKind.i64.wrap (a1 + (1 : Int))) rfl (by kernel_rfl) (by kernel_rfl) (by kernel_rfl) (.inr ⟨_, .i64, rfl, (by kernel_rfl)⟩) (.inr ⟨_, .i64, rfl, (by kernel_rfl)⟩) (by kernel_rfl) hs6 ?_
        refine kl_steps 1 [(4, .string s6)] (by kernel_rfl) ?_
        refine k_nil ?_
        refine k_then ?_
        refine k_ret ?_
        refine k_blk_ret ?_
        refine k_then_ret ?_
        obtain rfl := Option.some.inj h
        refine k_done (v := .string s6) [] [] [] (by kernel_rfl) (by kernel_rfl) trivial ?_
        exact k_end ⟨rfl, rfl⟩
      · have h := condF h t5
        refine k_skip ?_
        refine k_blk ?_
        refine k_then ?_
        refine k_seq ?_
        refine k_region ?_
        refine kl_steps 1 [(4, .string (⟨#[]⟩ : ByteArray))] (by kernel_rfl) ?_
        refine k_nil ?_
        refine k_then ?_
        refine k_ret ?_
        obtain rfl := Option.some.inj h
        refine k_done (v := .string (⟨#[]⟩ : ByteArray)) [] [] [] (by kernel_rfl) (by kernel_rfl) trivial ?_
        exact k_end ⟨rfl, rfl⟩
    · skip
      refine k_seq ?_
      refine k_region ?_
      refine kl_steps 2 [(0, .string a0), (1, .int .i64 a1), (29, .int .u8 (c2.toNat : Int)), (30, .bool ((c2.toNat : Int) == (43 : Int)))] (by kernel_rfl) ?_
      refine k_nil ?_
      refine k_then ?_
      refine k_cond (t := ((c2.toNat : Int) == (43 : Int))) (by kernel_rfl) (fun t7 => ?_) (fun t7 => ?_)
      · have h := condT h t7
        refine k_skip ?_
        refine k_then ?_
        exact k_meet ((c2.toNat : Int) == (43 : Int)) h ⟨rfl, rfl, rfl, trivial⟩ rfl
      · have h := condF h t7
        refine k_seq ?_
        refine k_region ?_
        refine kl_steps 2 [(0, .string a0), (1, .int .i64 a1), (29, .int .u8 (c2.toNat : Int)), (30, .bool ((c2.toNat : Int) == (45 : Int)))] (by kernel_rfl) ?_
        refine k_nil ?_
        refine k_then ?_
        refine k_cond (t := ((c2.toNat : Int) == (45 : Int))) (by kernel_rfl) (fun t8 => ?_) (fun t8 => ?_)
        · have h := condT h t8
          refine k_skip ?_
          refine k_then ?_
          exact k_meet ((c2.toNat : Int) == (45 : Int)) h ⟨rfl, rfl, rfl, trivial⟩ rfl
        · have h := condF h t8
          refine k_seq ?_
          refine k_region ?_
          refine kl_steps 2 [(0, .string a0), (1, .int .i64 a1), (29, .int .u8 (c2.toNat : Int)), (30, .bool ((c2.toNat : Int) == (42 : Int)))] (by kernel_rfl) ?_
          refine k_nil ?_
          refine k_then ?_
          refine k_cond (t := ((c2.toNat : Int) == (42 : Int))) (by kernel_rfl) (fun t9 => ?_) (fun t9 => ?_)
          · have h := condT h t9
            refine k_skip ?_
            refine k_then ?_
            exact k_meet ((c2.toNat : Int) == (42 : Int)) h ⟨rfl, rfl, rfl, trivial⟩ rfl
          · have h := condF h t9
            refine k_seq ?_
            refine k_region ?_
            refine kl_steps 2 [(0, .string a0), (1, .int .i64 a1), (29, .int .u8 (c2.toNat : Int)), (30, .bool ((c2.toNat : Int) == (37 : Int)))] (by kernel_rfl) ?_
            refine k_nil ?_
            refine k_then ?_
            refine k_cond (t := ((c2.toNat : Int) == (37 : Int))) (by kernel_rfl) (fun t10 => ?_) (fun t10 => ?_)
            · have h := condT h t10
              refine k_skip ?_
              refine k_then ?_
              exact k_meet ((c2.toNat : Int) == (37 : Int)) h ⟨rfl, rfl, rfl, trivial⟩ rfl
            · have h := condF h t10
              refine k_seq ?_
              refine k_region ?_
              refine kl_steps 2 [(0, .string a0), (1, .int .i64 a1), (29, .int .u8 (c2.toNat : Int)), (30, .bool ((c2.toNat : Int) == (60 : Int)))] (by kernel_rfl) ?_
              refine k_nil ?_
              refine k_then ?_
              refine k_cond (t := ((c2.toNat : Int) == (60 : Int))) (by kernel_rfl) (fun t11 => ?_) (fun t11 => ?_)
              · have h := condT h t11
                refine k_skip ?_
                refine k_then ?_
                exact k_meet ((c2.toNat : Int) == (60 : Int)) h ⟨rfl, rfl, rfl, trivial⟩ rfl
              · have h := condF h t11
                refine k_seq ?_
                refine k_region ?_
                refine kl_steps 2 [(0, .string a0), (1, .int .i64 a1), (29, .int .u8 (c2.toNat : Int)), (30, .bool ((c2.toNat : Int) == (62 : Int)))] (by kernel_rfl) ?_
                refine k_nil ?_
                refine k_then ?_
                refine k_cond (t := ((c2.toNat : Int) == (62 : Int))) (by kernel_rfl) (fun t12 => ?_) (fun t12 => ?_)
                · have h := condT h t12
                  refine k_skip ?_
                  refine k_then ?_
                  exact k_meet ((c2.toNat : Int) == (62 : Int)) h ⟨rfl, rfl, rfl, trivial⟩ rfl
                · have h := condF h t12
                  refine k_seq ?_
                  refine k_region ?_
                  refine kl_steps 2 [(0, .string a0), (1, .int .i64 a1), (29, .int .u8 (c2.toNat : Int)), (30, .bool ((c2.toNat : Int) == (61 : Int)))] (by kernel_rfl) ?_
                  refine k_nil ?_
                  refine k_then ?_
                  refine k_cond (t := ((c2.toNat : Int) == (61 : Int))) (by kernel_rfl) (fun t13 => ?_) (fun t13 => ?_)
                  · have h := condT h t13
                    refine k_skip ?_
                    refine k_then ?_
                    exact k_meet ((c2.toNat : Int) == (61 : Int)) h ⟨rfl, rfl, rfl, trivial⟩ rfl
                  · have h := condF h t13
                    refine k_seq ?_
                    refine k_region ?_
                    refine kl_steps 2 [(0, .string a0), (1, .int .i64 a1), (29, .int .u8 (c2.toNat : Int)), (30, .bool ((c2.toNat : Int) == (35 : Int)))] (by kernel_rfl) ?_
                    refine k_nil ?_
                    refine k_then ?_
                    refine k_cond (t := ((c2.toNat : Int) == (35 : Int))) (by kernel_rfl) (fun t14 => ?_) (fun t14 => ?_)
                    · have h := condT h t14
                      refine k_skip ?_
                      refine k_then ?_
                      exact k_meet ((c2.toNat : Int) == (35 : Int)) h ⟨rfl, rfl, rfl, trivial⟩ rfl
                    · have h := condF h t14
                      refine k_seq ?_
                      refine k_region ?_
                      refine kl_steps 2 [(0, .string a0), (1, .int .i64 a1), (29, .int .u8 (c2.toNat : Int)), (30, .bool ((c2.toNat : Int) == (40 : Int)))] (by kernel_rfl) ?_
                      refine k_nil ?_
                      refine k_then ?_
                      refine k_cond (t := ((c2.toNat : Int) == (40 : Int))) (by kernel_rfl) (fun t15 => ?_) (fun t15 => ?_)
                      · have h := condT h t15
                        refine k_skip ?_
                        refine k_then ?_
                        exact k_meet ((c2.toNat : Int) == (40 : Int)) h ⟨rfl, rfl, rfl, trivial⟩ rfl
                      · have h := condF h t15
                        refine k_seq ?_
                        refine k_region ?_
                        refine kl_steps 2 [(0, .string a0), (1, .int .i64 a1), (29, .int .u8 (c2.toNat : Int)), (30, .bool ((c2.toNat : Int) == (41 : Int)))] (by kernel_rfl) ?_
                        refine k_nil ?_
                        refine k_then ?_
                        refine k_cond (t := ((c2.toNat : Int) == (41 : Int))) (by kernel_rfl) (fun t16 => ?_) (fun t16 => ?_)
                        · have h := condT h t16
                          refine k_skip ?_
                          refine k_then ?_
                          exact k_meet ((c2.toNat : Int) == (41 : Int)) h ⟨rfl, rfl, rfl, trivial⟩ rfl
                        · have h := condF h t16
                          refine k_seq ?_
                          refine k_region ?_
                          refine kl_steps 2 [(0, .string a0), (1, .int .i64 a1), (29, .int .u8 (c2.toNat : Int)), (30, .bool ((c2.toNat : Int) == (123 : Int)))] (by kernel_rfl) ?_
                          refine k_nil ?_
                          refine k_then ?_
                          refine k_cond (t := ((c2.toNat : Int) == (123 : Int))) (by kernel_rfl) (fun t17 => ?_) (fun t17 => ?_)
                          · have h := condT h t17
                            refine k_skip ?_
                            refine k_then ?_
                            exact k_meet ((c2.toNat : Int) == (123 : Int)) h ⟨rfl, rfl, rfl, trivial⟩ rfl
                          · have h := condF h t17
                            refine k_seq ?_
                            refine k_region ?_
                            refine kl_steps 2 [(0, .string a0), (1, .int .i64 a1), (29, .int .u8 (c2.toNat : Int)), (30, .bool ((c2.toNat : Int) == (125 : Int)))] (by kernel_rfl) ?_
                            refine k_nil ?_
                            refine k_then ?_
                            refine k_cond (t := ((c2.toNat : Int) == (125 : Int))) (by kernel_rfl) (fun t18 => ?_) (fun t18 => ?_)
                            · have h := condT h t18
                              refine k_skip ?_
                              refine k_then ?_
                              exact k_meet ((c2.toNat : Int) == (125 : Int)) h ⟨rfl, rfl, rfl, trivial⟩ rfl
                            · have h := condF h t18
                              refine k_seq ?_
                              refine k_region ?_
                              refine kl_steps 2 [(0, .string a0), (1, .int .i64 a1), (29, .int .u8 (c2.toNat : Int)), (30, .bool ((c2.toNat : Int) == (91 : Int)))] (by kernel_rfl) ?_
                              refine k_nil ?_
                              refine k_then ?_
                              refine k_cond (t := ((c2.toNat : Int) == (91 : Int))) (by kernel_rfl) (fun t19 => ?_) (fun t19 => ?_)
                              · have h := condT h t19
                                refine k_skip ?_
                                refine k_then ?_
                                exact k_meet ((c2.toNat : Int) == (91 : Int)) h ⟨rfl, rfl, rfl, trivial⟩ rfl
                              · have h := condF h t19
                                refine k_seq ?_
                                refine k_region ?_
                                refine kl_steps 2 [(0, .string a0), (1, .int .i64 a1), (29, .int .u8 (c2.toNat : Int)), (30, .bool ((c2.toNat : Int) == (93 : Int)))] (by kernel_rfl) ?_
                                refine k_nil ?_
                                refine k_then ?_
                                refine k_cond (t := ((c2.toNat : Int) == (93 : Int))) (by kernel_rfl) (fun t20 => ?_) (fun t20 => ?_)
                                · have h := condT h t20
                                  refine k_skip ?_
                                  refine k_then ?_
                                  exact k_meet ((c2.toNat : Int) == (93 : Int)) h ⟨rfl, rfl, rfl, trivial⟩ rfl
                                · have h := condF h t20
                                  refine k_seq ?_
                                  refine k_region ?_
                                  refine kl_steps 2 [(0, .string a0), (1, .int .i64 a1), (29, .int .u8 (c2.toNat : Int)), (30, .bool ((c2.toNat : Int) == (59 : Int)))] (by kernel_rfl) ?_
                                  refine k_nil ?_
                                  refine k_then ?_
                                  refine k_cond (t := ((c2.toNat : Int) == (59 : Int))) (by kernel_rfl) (fun t21 => ?_) (fun t21 => ?_)
                                  · have h := condT h t21
                                    refine k_skip ?_
                                    refine k_then ?_
                                    exact k_meet ((c2.toNat : Int) == (59 : Int)) h ⟨rfl, rfl, rfl, trivial⟩ rfl
                                  · have h := condF h t21
                                    refine k_seq ?_
                                    refine k_region ?_
                                    refine kl_steps 2 [(0, .string a0), (1, .int .i64 a1), (29, .int .u8 (c2.toNat : Int)), (30, .bool ((c2.toNat : Int) == (44 : Int)))] (by kernel_rfl) ?_
                                    refine k_nil ?_
                                    refine k_then ?_
                                    refine k_cond (t := ((c2.toNat : Int) == (44 : Int))) (by kernel_rfl) (fun t22 => ?_) (fun t22 => ?_)
                                    · have h := condT h t22
                                      refine k_skip ?_
                                      refine k_then ?_
                                      exact k_meet ((c2.toNat : Int) == (44 : Int)) h ⟨rfl, rfl, rfl, trivial⟩ rfl
                                    · have h := condF h t22
                                      refine k_region ?_
                                      refine kl_steps 2 [(0, .string a0), (1, .int .i64 a1), (30, .bool ((c2.toNat : Int) == (46 : Int)))] (by kernel_rfl) ?_
                                      refine k_nil ?_
                                      refine k_then ?_
                                      exact k_meet ((c2.toNat : Int) == (46 : Int)) h ⟨rfl, rfl, rfl, trivial⟩ rfl
  · skip
    refine k_seq ?_
    refine k_region ?_
    refine kl_steps 5 [(0, .string a0), (1, .int .i64 a1), (9, .bool (decide (a1 < (IntKind.i64.wrap ((a0.size : Int) - (1 : Int))))))] (by kernel_rfl) ?_
    refine k_nil ?_
    refine k_then ?_
    refine k_cond (t := decide (a1 < (IntKind.i64.wrap ((a0.size : Int) - (1 : Int))))) (by kernel_rfl) (fun t23 => ?_) (fun t23 => ?_)
    · have h := condT h t23
      refine k_seq ?_
      refine k_region ?_
      refine kl_steps 4 [(0, .string a0), (1, .int .i64 a1), (10, .string a0), (11, .int .i64 a1), (13, .int .i64 (IntKind.i64.wrap (a1 + (2 : Int))))] (by kernel_rfl) ?_
      obtain ⟨s24, hs24, h⟩ := bindSome h
      refine kl_sstr a1 (IntKind.i64.wrap (a1 + (2 : Int))) rfl (by kernel_rfl) (by kernel_rfl) (by kernel_rfl) (.inr ⟨_, .i64, rfl, (by kernel_rfl)⟩) (.inr ⟨_, .i64, rfl, (by kernel_rfl)⟩) (by kernel_rfl) hs24 ?_
      refine k_nil ?_
      refine k_then ?_
      refine k_block ?_
      obtain ⟨J26, hJ26, h⟩ := joinSplit h
      refine k_cut (τ := Bool) (fun t => [(0, .string a0), (1, .int .i64 a1), (15, .bool t)]) (fun t => X) (fun t => J26 t = some r) ?_ ?_
      · rintro x25 h
        subst hJ26
        refine k_cond (t := x25) (by kernel_rfl) (fun t27 => ?_) (fun t27 => ?_)
        · have h := condT h t27
          refine k_seq ?_
          refine k_region ?_
          refine kl_steps 4 [(22, .string a0), (23, .int .i64 a1), (25, .int .i64 (IntKind.i64.wrap (a1 + (2 : Int))))] (by kernel_rfl) ?_
          obtain ⟨s28, hs28, h⟩ := bindSome h
          refine kl_sstr a1 (IntKind.i64.wrap (a1 + (2 : Int))) rfl (by kernel_rfl) (by kernel_rfl) (by kernel_rfl) (.inr ⟨_, .i64, rfl, (by kernel_rfl)⟩) (.inr ⟨_, .i64, rfl, (by kernel_rfl)⟩) (by kernel_rfl) hs28 ?_
          refine kl_steps 1 [(4, .string s28)] (by kernel_rfl) ?_
          refine k_nil ?_
          refine k_then ?_
          refine k_ret ?_
          refine k_blk_ret ?_
          refine k_then_ret ?_
          obtain rfl := Option.some.inj h
          refine k_done (v := .string s28) [] [] [] (by kernel_rfl) (by kernel_rfl) trivial ?_
          exact k_end ⟨rfl, rfl⟩
        · have h := condF h t27
          refine k_skip ?_
          refine k_blk ?_
          refine k_then ?_
          exact k_meet () h ⟨rfl, rfl, trivial⟩ rfl
      · skip
        refine k_seq ?_
        refine k_region ?_
        refine kl_steps 2 [(0, .string a0), (1, .int .i64 a1), (14, .string s24), (15, .bool (s24.toList == (⟨#[61, 61]⟩ : ByteArray).toList))] (by kernel_rfl) ?_
        refine k_nil ?_
        refine k_then ?_
        refine k_cond (t := (s24.toList == (⟨#[61, 61]⟩ : ByteArray).toList)) (by kernel_rfl) (fun t29 => ?_) (fun t29 => ?_)
        · have h := condT h t29
          refine k_skip ?_
          refine k_then ?_
          exact k_meet (s24.toList == (⟨#[61, 61]⟩ : ByteArray).toList) h ⟨rfl, rfl, rfl, trivial⟩ rfl
        · have h := condF h t29
          refine k_seq ?_
          refine k_region ?_
          refine kl_steps 2 [(0, .string a0), (1, .int .i64 a1), (14, .string s24), (15, .bool (s24.toList == (⟨#[126, 61]⟩ : ByteArray).toList))] (by kernel_rfl) ?_
          refine k_nil ?_
          refine k_then ?_
          refine k_cond (t := (s24.toList == (⟨#[126, 61]⟩ : ByteArray).toList)) (by kernel_rfl) (fun t30 => ?_) (fun t30 => ?_)
          · have h := condT h t30
            refine k_skip ?_
            refine k_then ?_
            exact k_meet (s24.toList == (⟨#[126, 61]⟩ : ByteArray).toList) h ⟨rfl, rfl, rfl, trivial⟩ rfl
          · have h := condF h t30
            refine k_seq ?_
            refine k_region ?_
            refine kl_steps 2 [(0, .string a0), (1, .int .i64 a1), (14, .string s24), (15, .bool (s24.toList == (⟨#[60, 61]⟩ : ByteArray).toList))] (by kernel_rfl) ?_
            refine k_nil ?_
            refine k_then ?_
            refine k_cond (t := (s24.toList == (⟨#[60, 61]⟩ : ByteArray).toList)) (by kernel_rfl) (fun t31 => ?_) (fun t31 => ?_)
            · have h := condT h t31
              refine k_skip ?_
              refine k_then ?_
              exact k_meet (s24.toList == (⟨#[60, 61]⟩ : ByteArray).toList) h ⟨rfl, rfl, rfl, trivial⟩ rfl
            · have h := condF h t31
              refine k_seq ?_
              refine k_region ?_
              refine kl_steps 2 [(0, .string a0), (1, .int .i64 a1), (14, .string s24), (15, .bool (s24.toList == (⟨#[62, 61]⟩ : ByteArray).toList))] (by kernel_rfl) ?_
              refine k_nil ?_
              refine k_then ?_
              refine k_cond (t := (s24.toList == (⟨#[62, 61]⟩ : ByteArray).toList)) (by kernel_rfl) (fun t32 => ?_) (fun t32 => ?_)
              · have h := condT h t32
                refine k_skip ?_
                refine k_then ?_
                exact k_meet (s24.toList == (⟨#[62, 61]⟩ : ByteArray).toList) h ⟨rfl, rfl, rfl, trivial⟩ rfl
              · have h := condF h t32
                refine k_seq ?_
                refine k_region ?_
                refine kl_steps 2 [(0, .string a0), (1, .int .i64 a1), (14, .string s24), (15, .bool (s24.toList == (⟨#[47, 47]⟩ : ByteArray).toList))] (by kernel_rfl) ?_
                refine k_nil ?_
                refine k_then ?_
                refine k_cond (t := (s24.toList == (⟨#[47, 47]⟩ : ByteArray).toList)) (by kernel_rfl) (fun t33 => ?_) (fun t33 => ?_)
                · have h := condT h t33
                  refine k_skip ?_
                  refine k_then ?_
                  exact k_meet (s24.toList == (⟨#[47, 47]⟩ : ByteArray).toList) h ⟨rfl, rfl, rfl, trivial⟩ rfl
                · have h := condF h t33
                  refine k_region ?_
                  refine kl_steps 2 [(0, .string a0), (1, .int .i64 a1), (15, .bool (s24.toList == (⟨#[46, 46]⟩ : ByteArray).toList))] (by kernel_rfl) ?_
                  refine k_nil ?_
                  refine k_then ?_
                  exact k_meet (s24.toList == (⟨#[46, 46]⟩ : ByteArray).toList) h ⟨rfl, rfl, rfl, trivial⟩ rfl
    · have h := condF h t23
      refine k_skip ?_
      refine k_then ?_
      exact k_meet () h ⟨rfl, rfl, trivial⟩ rfl
def r11_hexes.l0 : Nat → (a0 : ByteArray) → (a1 : Int) → (a2 : Int) → (J3 : Int → Int → Option (Int × Int)) → (x4 : Int) → (x5 : Int) → Option (Int × Int)
  | 0, _, _, _, _, _, _ => none
  | m6 + 1, a0, a1, a2, J3, x4, x5 => (cond (decide (x5 < a2)) (some (decide ((IntKind.i64.wrap (a1 + x5)) < (a0.size : Int)))) (some false) : Option Bool).bind fun q7 => cond q7 ((sIdx a0 (IntKind.i64.wrap (a1 + x5))).bind fun c9 : UInt8 => joinF (fun (x10 : Int) => r11_hexes.l0 m6 a0 a1 a2 J3 x10 (IntKind.i64.wrap (x5 + (1 : Int)))) (fun J11 => (cond (decide ((IntKind.i64.wrap (c9.toNat : Int)) ≥ (48 : Int))) (some (decide ((IntKind.i64.wrap (c9.toNat : Int)) ≤ (57 : Int)))) (some false) : Option Bool).bind fun q12 => cond q12 (J11 (IntKind.i64.wrap ((IntKind.i64.wrap ((IntKind.i64.wrap (x4 * (16 : Int))) + (IntKind.i64.wrap (c9.toNat : Int)))) - (48 : Int)))) ((cond (decide ((IntKind.i64.wrap (c9.toNat : Int)) ≥ (97 : Int))) (some (decide ((IntKind.i64.wrap (c9.toNat : Int)) ≤ (102 : Int)))) (some false) : Option Bool).bind fun q14 => cond q14 (J11 (IntKind.i64.wrap ((IntKind.i64.wrap ((IntKind.i64.wrap ((IntKind.i64.wrap (x4 * (16 : Int))) + (IntKind.i64.wrap (c9.toNat : Int)))) - (97 : Int))) + (10 : Int)))) ((cond (decide ((IntKind.i64.wrap (c9.toNat : Int)) ≥ (65 : Int))) (some (decide ((IntKind.i64.wrap (c9.toNat : Int)) ≤ (70 : Int)))) (some false) : Option Bool).bind fun q16 => cond q16 (J11 (IntKind.i64.wrap ((IntKind.i64.wrap ((IntKind.i64.wrap ((IntKind.i64.wrap (x4 * (16 : Int))) + (IntKind.i64.wrap (c9.toNat : Int)))) - (65 : Int))) + (10 : Int)))) (some (x4, x5)))))) (J3 x4 x5)
def r11_hexes.f (k : Nat) (a0 : ByteArray) (a1 : Int) (a2 : Int) : Option (Int × Int) := joinF (fun (x1 : Int) (x2 : Int) => some (x1, x2)) (fun J3 => r11_hexes.l0 k a0 a1 a2 J3 (0 : Int) (0 : Int))
set_option maxRecDepth 100000 in
theorem r11_hexes.ok {k : Nat} {a0 : ByteArray} {a1 : Int} {a2 : Int} {r : Int × Int} (h : r11_hexes.f k a0 a1 a2 = some r) : Ct Tryd.prog 69 #[.string a0, .int .i64 a1, .int .i64 a2] [] [] (fun e l1 => e = .returned (.tuple #[.int .i64 r.1, .int .i64 r.2]) ∧ l1 = []) := by
  refine ct_enter (args := [.string a0, .int .i64 a1, .int .i64 a2]) Tryd.func69 rfl (Nat.le_of_ble_eq_true rfl) ?_
  intro A X hh_
  unfold r11_hexes.f at h
  refine k_seq ?_
  refine k_region ?_
  refine kl_steps 2 [(0, .string a0), (1, .int .i64 a1), (2, .int .i64 a2)] (by kernel_rfl) ?_
  refine k_nil ?_
  refine k_then ?_
  refine k_seq ?_
  refine k_region ?_
  refine kl_steps 2 [(0, .string a0), (1, .int .i64 a1), (2, .int .i64 a2), (8, .int .i64 (0 : Int)), (9, .int .i64 (0 : Int))] (by kernel_rfl) ?_
  refine k_nil ?_
  refine k_then ?_
  obtain ⟨J3, hJ3, h⟩ := joinSplit h
  refine k_cut (τ := Int × Int) (fun t => [(8, .int .i64 t.1), (9, .int .i64 t.2)]) (fun t => X) (fun t => J3 t.1 t.2 = some r) ?_ ?_
  · rintro ⟨x1, x2⟩ h
    subst hJ3
    refine k_seq ?_
    refine k_region ?_
    refine kl_steps 4 [(6, .int .i64 x1), (7, .int .i64 x2)] (by kernel_rfl) ?_
    refine k_nil ?_
    refine k_then ?_
    refine k_ret ?_
    obtain rfl := Option.some.inj h
    refine k_done (v := .tuple #[.int .i64 x1, .int .i64 x2]) [] [] [] (by kernel_rfl) (by kernel_rfl) trivial ?_
    exact k_end ⟨rfl, rfl⟩
  · skip
    refine k_block ?_
    refine k_loop (τ := Int × Int) (fun t => [(0, .string a0), (1, .int .i64 a1), (2, .int .i64 a2), (8, .int .i64 t.1), (9, .int .i64 t.2)]) (fun t => X) (fun m t => r11_hexes.l0 m a0 a1 a2 J3 t.1 t.2 = some r) k ((0 : Int), (0 : Int)) h ⟨rfl, rfl, rfl, rfl, rfl, trivial⟩ rfl ?_
    clear h
    rintro m6 ⟨x4, x5⟩ h
    cases m6 with
    | zero => simp [r11_hexes.l0] at h
    | succ m6 =>
      simp only [r11_hexes.l0] at h
      refine k_seq ?_
      obtain ⟨q7, hq7, h⟩ := bindSome h
      refine k_cut1 [(0, .string a0), (1, .int .i64 a1), (2, .int .i64 a2), (8, .int .i64 x4), (9, .int .i64 x5), (21, .bool q7)] (X) ?_ ?_
      · clear hq7
        refine k_cond (t := q7) (by kernel_rfl) (fun t8 => ?_) (fun t8 => ?_)
        · have h := condT h t8
          refine k_skip ?_
          refine k_then ?_
          refine k_block ?_
          refine k_seq ?_
          refine k_region ?_
          refine kl_steps 4 [(0, .string a0), (1, .int .i64 a1), (2, .int .i64 a2), (8, .int .i64 x4), (9, .int .i64 x5), (22, .string a0), (25, .int .i64 (IntKind.i64.wrap (a1 + x5)))] (by kernel_rfl) ?_
          obtain ⟨c9, hc9, h⟩ := bindSome h
          refine kl_index (kd := .i64) rfl (by kernel_rfl) (by kernel_rfl) (by kernel_rfl) (by kernel_rfl) (by kernel_rfl) hc9 ?_
          refine kl_steps 2 [(0, .string a0), (1, .int .i64 a1), (2, .int .i64 a2), (8, .int .i64 x4), (9, .int .i64 x5), (10, .int .i64 (IntKind.i64.wrap (c9.toNat : Int)))] (by kernel_rfl) ?_
          refine k_nil ?_
          refine k_then ?_
          obtain ⟨J11, hJ11, h⟩ := joinSplit h
          refine k_cut (τ := Int) (fun t => [(0, .string a0), (1, .int .i64 a1), (2, .int .i64 a2), (8, .int .i64 t), (9, .int .i64 x5)]) (fun t => X) (fun t => J11 t = some r) ?_ ?_
          · rintro x10 h
            subst hJ11
            refine k_region ?_
            refine kl_steps 3 [(0, .string a0), (1, .int .i64 a1), (2, .int .i64 a2), (8, .int .i64 x10), (9, .int .i64 (IntKind.i64.wrap (x5 + (1 : Int))))] (by kernel_rfl) ?_
            refine k_nil ?_
            refine k_blk ?_
            refine k_then ?_
            exact k_again m6 (x10, IntKind.i64.wrap (x5 + (1 : Int))) (Nat.lt_succ_self _) h ⟨rfl, rfl, rfl, rfl, rfl, trivial⟩ rfl
          · skip
            refine k_block ?_
            obtain ⟨q12, hq12, h⟩ := bindSome h
            refine k_cut1 [(0, .string a0), (1, .int .i64 a1), (2, .int .i64 a2), (8, .int .i64 x4), (9, .int .i64 x5), (10, .int .i64 (IntKind.i64.wrap (c9.toNat : Int))), (30, .bool q12)] (X) ?_ ?_
            · clear hq12
              refine k_cond (t := q12) (by kernel_rfl) (fun t13 => ?_) (fun t13 => ?_)
              · have h := condT h t13
                refine k_region ?_
                refine kl_steps 6 [(0, .string a0), (1, .int .i64 a1), (2, .int .i64 a2), (8, .int .i64 (IntKind.i64.wrap ((IntKind.i64.wrap ((IntKind.i64.wrap (x4 * (16 : Int))) + (IntKind.i64.wrap (c9.toNat : Int)))) - (48 : Int)))), (9, .int .i64 x5)] (by kernel_rfl) ?_
                refine k_nil ?_
                refine k_blk ?_
                refine k_then ?_
                exact k_meet (IntKind.i64.wrap ((IntKind.i64.wrap ((IntKind.i64.wrap (x4 * (16 : Int))) + (IntKind.i64.wrap (c9.toNat : Int)))) - (48 : Int))) h ⟨rfl, rfl, rfl, rfl, rfl, trivial⟩ rfl
              · have h := condF h t13
                obtain ⟨q14, hq14, h⟩ := bindSome h
                refine k_cut1 [(0, .string a0), (1, .int .i64 a1), (2, .int .i64 a2), (8, .int .i64 x4), (9, .int .i64 x5), (10, .int .i64 (IntKind.i64.wrap (c9.toNat : Int))), (42, .bool q14)] (X) ?_ ?_
                · clear hq14
                  refine k_cond (t := q14) (by kernel_rfl) (fun t15 => ?_) (fun t15 => ?_)
                  · have h := condT h t15
                    refine k_region ?_
                    refine kl_steps 7 [(0, .string a0), (1, .int .i64 a1), (2, .int .i64 a2), (8, .int .i64 (IntKind.i64.wrap ((IntKind.i64.wrap ((IntKind.i64.wrap ((IntKind.i64.wrap (x4 * (16 : Int))) + (IntKind.i64.wrap (c9.toNat : Int)))) - (97 : Int))) + (10 : Int)))), (9, .int .i64 x5)] (by kernel_rfl) ?_
                    refine k_nil ?_
                    refine k_blk ?_
                    refine k_then ?_
                    exact k_meet (IntKind.i64.wrap ((IntKind.i64.wrap ((IntKind.i64.wrap ((IntKind.i64.wrap (x4 * (16 : Int))) + (IntKind.i64.wrap (c9.toNat : Int)))) - (97 : Int))) + (10 : Int))) h ⟨rfl, rfl, rfl, rfl, rfl, trivial⟩ rfl
                  · have h := condF h t15
                    obtain ⟨q16, hq16, h⟩ := bindSome h
                    refine k_cut1 [(0, .string a0), (1, .int .i64 a1), (2, .int .i64 a2), (8, .int .i64 x4), (9, .int .i64 x5), (10, .int .i64 (IntKind.i64.wrap (c9.toNat : Int))), (55, .bool q16)] (X) ?_ ?_
                    · clear hq16
                      refine k_cond (t := q16) (by kernel_rfl) (fun t17 => ?_) (fun t17 => ?_)
                      · have h := condT h t17
                        refine k_region ?_
                        refine kl_steps 7 [(0, .string a0), (1, .int .i64 a1), (2, .int .i64 a2), (8, .int .i64 (IntKind.i64.wrap ((IntKind.i64.wrap ((IntKind.i64.wrap ((IntKind.i64.wrap (x4 * (16 : Int))) + (IntKind.i64.wrap (c9.toNat : Int)))) - (65 : Int))) + (10 : Int)))), (9, .int .i64 x5)] (by kernel_rfl) ?_
                        refine k_nil ?_
                        refine k_blk ?_
                        refine k_then ?_
                        exact k_meet (IntKind.i64.wrap ((IntKind.i64.wrap ((IntKind.i64.wrap ((IntKind.i64.wrap (x4 * (16 : Int))) + (IntKind.i64.wrap (c9.toNat : Int)))) - (65 : Int))) + (10 : Int))) h ⟨rfl, rfl, rfl, rfl, rfl, trivial⟩ rfl
                      · have h := condF h t17
                        refine k_seq ?_
                        refine k_region ?_
                        refine kl_steps 4 [(6, .int .i64 x4), (7, .int .i64 x5)] (by kernel_rfl) ?_
                        refine k_nil ?_
                        refine k_then ?_
                        refine k_ret ?_
                        refine k_blk_ret ?_
                        refine k_then_ret ?_
                        refine k_blk_ret ?_
                        refine k_then_ret ?_
                        refine k_blk_ret ?_
                        refine k_then_ret ?_
                        obtain rfl := Option.some.inj h
                        refine k_done (v := .tuple #[.int .i64 x4, .int .i64 x5]) [] [] [] (by kernel_rfl) (by kernel_rfl) trivial ?_
                        exact k_end ⟨rfl, rfl⟩
                    · have h := hq16
                      clear hq16
                      refine k_region ?_
                      refine kl_steps 3 [(0, .string a0), (1, .int .i64 a1), (2, .int .i64 a2), (8, .int .i64 x4), (9, .int .i64 x5), (10, .int .i64 (IntKind.i64.wrap (c9.toNat : Int))), (58, .bool (decide ((IntKind.i64.wrap (c9.toNat : Int)) ≥ (65 : Int))))] (by kernel_rfl) ?_
                      rcases Bool.eq_false_or_eq_true (decide ((IntKind.i64.wrap (c9.toNat : Int)) ≥ (65 : Int))) with t18 | t18
                      · have h := condT h t18
                        refine K.weak (env' := [(0, .string a0), (1, .int .i64 a1), (2, .int .i64 a2), (8, .int .i64 x4), (9, .int .i64 x5), (10, .int .i64 (IntKind.i64.wrap (c9.toNat : Int))), (58, .bool true)]) ?_ ⟨rfl, rfl, rfl, rfl, rfl, rfl, congrArg (fun b => some (Value.bool b)) t18, trivial⟩
                        refine kl_steps 4 [(0, .string a0), (1, .int .i64 a1), (2, .int .i64 a2), (8, .int .i64 x4), (9, .int .i64 x5), (10, .int .i64 (IntKind.i64.wrap (c9.toNat : Int))), (55, .bool (decide ((IntKind.i64.wrap (c9.toNat : Int)) ≤ (70 : Int))))] (by kernel_rfl) ?_
                        refine k_nil ?_
                        refine k_then ?_
                        exact k_meet1 ⟨rfl, rfl, rfl, rfl, rfl, rfl, congrArg (fun b => some (Value.bool b)) (Option.some.inj h), trivial⟩
                      · have h := condF h t18
                        refine K.weak (env' := [(0, .string a0), (1, .int .i64 a1), (2, .int .i64 a2), (8, .int .i64 x4), (9, .int .i64 x5), (10, .int .i64 (IntKind.i64.wrap (c9.toNat : Int))), (58, .bool false)]) ?_ ⟨rfl, rfl, rfl, rfl, rfl, rfl, congrArg (fun b => some (Value.bool b)) t18, trivial⟩
                        refine kl_steps 4 [(0, .string a0), (1, .int .i64 a1), (2, .int .i64 a2), (8, .int .i64 x4), (9, .int .i64 x5), (10, .int .i64 (IntKind.i64.wrap (c9.toNat : Int))), (55, .bool false)] (by kernel_rfl) ?_
                        refine k_nil ?_
                        refine k_then ?_
                        exact k_meet1 ⟨rfl, rfl, rfl, rfl, rfl, rfl, congrArg (fun b => some (Value.bool b)) (Option.some.inj h), trivial⟩
                · have h := hq14
                  clear hq14
                  refine k_region ?_
                  refine kl_steps 3 [(0, .string a0), (1, .int .i64 a1), (2, .int .i64 a2), (8, .int .i64 x4), (9, .int .i64 x5), (10, .int .i64 (IntKind.i64.wrap (c9.toNat : Int))), (45, .bool (decide ((IntKind.i64.wrap (c9.toNat : Int)) ≥ (97 : Int))))] (by kernel_rfl) ?_
                  rcases Bool.eq_false_or_eq_true (decide ((IntKind.i64.wrap (c9.toNat : Int)) ≥ (97 : Int))) with t19 | t19
                  · have h := condT h t19
                    refine K.weak (env' := [(0, .string a0), (1, .int .i64 a1), (2, .int .i64 a2), (8, .int .i64 x4), (9, .int .i64 x5), (10, .int .i64 (IntKind.i64.wrap (c9.toNat : Int))), (45, .bool true)]) ?_ ⟨rfl, rfl, rfl, rfl, rfl, rfl, congrArg (fun b => some (Value.bool b)) t19, trivial⟩
                    refine kl_steps 4 [(0, .string a0), (1, .int .i64 a1), (2, .int .i64 a2), (8, .int .i64 x4), (9, .int .i64 x5), (10, .int .i64 (IntKind.i64.wrap (c9.toNat : Int))), (42, .bool (decide ((IntKind.i64.wrap (c9.toNat : Int)) ≤ (102 : Int))))] (by kernel_rfl) ?_
                    refine k_nil ?_
                    refine k_then ?_
                    exact k_meet1 ⟨rfl, rfl, rfl, rfl, rfl, rfl, congrArg (fun b => some (Value.bool b)) (Option.some.inj h), trivial⟩
                  · have h := condF h t19
                    refine K.weak (env' := [(0, .string a0), (1, .int .i64 a1), (2, .int .i64 a2), (8, .int .i64 x4), (9, .int .i64 x5), (10, .int .i64 (IntKind.i64.wrap (c9.toNat : Int))), (45, .bool false)]) ?_ ⟨rfl, rfl, rfl, rfl, rfl, rfl, congrArg (fun b => some (Value.bool b)) t19, trivial⟩
                    refine kl_steps 4 [(0, .string a0), (1, .int .i64 a1), (2, .int .i64 a2), (8, .int .i64 x4), (9, .int .i64 x5), (10, .int .i64 (IntKind.i64.wrap (c9.toNat : Int))), (42, .bool false)] (by kernel_rfl) ?_
                    refine k_nil ?_
                    refine k_then ?_
                    exact k_meet1 ⟨rfl, rfl, rfl, rfl, rfl, rfl, congrArg (fun b => some (Value.bool b)) (Option.some.inj h), trivial⟩
            · have h := hq12
              clear hq12
              refine k_region ?_
              refine kl_steps 3 [(0, .string a0), (1, .int .i64 a1), (2, .int .i64 a2), (8, .int .i64 x4), (9, .int .i64 x5), (10, .int .i64 (IntKind.i64.wrap (c9.toNat : Int))), (33, .bool (decide ((IntKind.i64.wrap (c9.toNat : Int)) ≥ (48 : Int))))] (by kernel_rfl) ?_
              rcases Bool.eq_false_or_eq_true (decide ((IntKind.i64.wrap (c9.toNat : Int)) ≥ (48 : Int))) with t20 | t20
              · have h := condT h t20
                refine K.weak (env' := [(0, .string a0), (1, .int .i64 a1), (2, .int .i64 a2), (8, .int .i64 x4), (9, .int .i64 x5), (10, .int .i64 (IntKind.i64.wrap (c9.toNat : Int))), (33, .bool true)]) ?_ ⟨rfl, rfl, rfl, rfl, rfl, rfl, congrArg (fun b => some (Value.bool b)) t20, trivial⟩
                refine kl_steps 4 [(0, .string a0), (1, .int .i64 a1), (2, .int .i64 a2), (8, .int .i64 x4), (9, .int .i64 x5), (10, .int .i64 (IntKind.i64.wrap (c9.toNat : Int))), (30, .bool (decide ((IntKind.i64.wrap (c9.toNat : Int)) ≤ (57 : Int))))] (by kernel_rfl) ?_
                refine k_nil ?_
                refine k_then ?_
                exact k_meet1 ⟨rfl, rfl, rfl, rfl, rfl, rfl, congrArg (fun b => some (Value.bool b)) (Option.some.inj h), trivial⟩
              · have h := condF h t20
                refine K.weak (env' := [(0, .string a0), (1, .int .i64 a1), (2, .int .i64 a2), (8, .int .i64 x4), (9, .int .i64 x5), (10, .int .i64 (IntKind.i64.wrap (c9.toNat : Int))), (33, .bool false)]) ?_ ⟨rfl, rfl, rfl, rfl, rfl, rfl, congrArg (fun b => some (Value.bool b)) t20, trivial⟩
                refine kl_steps 4 [(0, .string a0), (1, .int .i64 a1), (2, .int .i64 a2), (8, .int .i64 x4), (9, .int .i64 x5), (10, .int .i64 (IntKind.i64.wrap (c9.toNat : Int))), (30, .bool false)] (by kernel_rfl) ?_
                refine k_nil ?_
                refine k_then ?_
                exact k_meet1 ⟨rfl, rfl, rfl, rfl, rfl, rfl, congrArg (fun b => some (Value.bool b)) (Option.some.inj h), trivial⟩
        · have h := condF h t8
          refine k_exit ?_
          refine k_then_exit ?_
          refine k_then_exit ?_
          refine k_here ?_
          refine k_then ?_
          exact k_meet (x4, x5) h ⟨rfl, rfl, trivial⟩ rfl
      · have h := hq7
        clear hq7
        refine k_region ?_
        refine kl_steps 4 [(0, .string a0), (1, .int .i64 a1), (2, .int .i64 a2), (8, .int .i64 x4), (9, .int .i64 x5), (14, .bool (decide (x5 < a2)))] (by kernel_rfl) ?_
        rcases Bool.eq_false_or_eq_true (decide (x5 < a2)) with t21 | t21
        · have h := condT h t21
          refine K.weak (env' := [(0, .string a0), (1, .int .i64 a1), (2, .int .i64 a2), (8, .int .i64 x4), (9, .int .i64 x5), (14, .bool true)]) ?_ ⟨rfl, rfl, rfl, rfl, rfl, congrArg (fun b => some (Value.bool b)) t21, trivial⟩
          refine kl_steps 7 [(0, .string a0), (1, .int .i64 a1), (2, .int .i64 a2), (8, .int .i64 x4), (9, .int .i64 x5), (21, .bool (decide ((IntKind.i64.wrap (a1 + x5)) < (a0.size : Int))))] (by kernel_rfl) ?_
          refine k_nil ?_
          refine k_then ?_
          exact k_meet1 ⟨rfl, rfl, rfl, rfl, rfl, congrArg (fun b => some (Value.bool b)) (Option.some.inj h), trivial⟩
        · have h := condF h t21
          refine K.weak (env' := [(0, .string a0), (1, .int .i64 a1), (2, .int .i64 a2), (8, .int .i64 x4), (9, .int .i64 x5), (14, .bool false)]) ?_ ⟨rfl, rfl, rfl, rfl, rfl, congrArg (fun b => some (Value.bool b)) t21, trivial⟩
          refine kl_steps 7 [(0, .string a0), (1, .int .i64 a1), (2, .int .i64 a2), (8, .int .i64 x4), (9, .int .i64 x5), (21, .bool false)] (by kernel_rfl) ?_
          refine k_nil ?_
          refine k_then ?_
          exact k_meet1 ⟨rfl, rfl, rfl, rfl, rfl, congrArg (fun b => some (Value.bool b)) (Option.some.inj h), trivial⟩
theorem ety44 : ElemTy Tryd.prog 44 5 1 1 Tryd.t5 (.int .u8 (0 : Int)) := ⟨by kernel_rfl, by kernel_rfl, by kernel_rfl, by kernel_rfl, by kernel_rfl, by kernel_rfl, by decide⟩
def r01_Encode.l0 : Nat → (J17 : Int → (List Int) → Option (ByteArray × Int)) → (x32 : Int) → (l33 : List Int) → (x38 : Int) → Option (ByteArray × Int)
  | 0, _, _, _, _ => none
  | m39 + 1, J17, x32, l33, x38 => cond (decide (x38 > (0 : Int))) ((lIdx l33 x38).bind fun x41 => (lSet l33 x38 (IntKind.u8.wrap (IntKind.i64.wrap ((128 : Int) + (Int.tmod x32 (64 : Int)))))).bind fun l45 => r01_Encode.l0 m39 J17 (IntKind.i64.wrap (Int.tdiv x32 (64 : Int))) l45 (IntKind.i64.wrap (x38 - (1 : Int)))) (J17 x32 l33)
def r01_Encode.f (k : Nat) (a0 : Int) : Option (ByteArray × Int) := (r01_good.f k a0).bind fun r1 => cond (!r1) (some ((⟨#[]⟩ : ByteArray), (3 : Int))) ((r01_bytes.f k a0).bind fun r3 => cond (r3 == (1 : Int)) (some ((strOfNums ([IntKind.u8.wrap a0])), (0 : Int))) ((mkd 1 (0 : Int) r3).bind fun l6 => joinF (fun (x11 : Int) (l12 : List Int) => joinF (fun (x18 : Int) => joinF (fun (x20 : Int) => (lIdx l12 (0 : Int)).bind fun x22 => (lSet l12 (0 : Int) (IntKind.u8.wrap (IntKind.i64.wrap (x20 + x11)))).bind fun l26 => some ((strOfNums l26), (0 : Int))) (fun J21 => cond (r3 == (4 : Int)) (J21 (240 : Int)) (J21 x18))) (fun J19 => cond (r3 == (3 : Int)) (J19 (224 : Int)) (J19 (192 : Int)))) (fun J17 => r01_Encode.l0 k J17 a0 l6 (IntKind.i64.wrap (r3 - (1 : Int))))))
set_option maxRecDepth 100000 in
theorem r01_Encode.ok {k : Nat} {a0 : Int} {r : ByteArray × Int} (h : r01_Encode.f k a0 = some r) : Ct Tryd.prog 70 #[.int .i64 a0] [] [] (fun e l1 => e = .returned (.tuple #[.string r.1, .int .i64 r.2]) ∧ l1 = []) := by
  refine ct_enter (args := [.int .i64 a0]) Tryd.func70 rfl (Nat.le_of_ble_eq_true rfl) ?_
  intro A X hh_
  unfold r01_Encode.f at h
  refine k_seq ?_
  refine k_region ?_
  refine kl_steps 2 [(0, .int .i64 a0)] (by kernel_rfl) ?_
  refine k_nil ?_
  refine k_then ?_
  refine k_seq ?_
  refine k_seq ?_
  refine k_region ?_
  refine kl_steps 1 [(0, .int .i64 a0), (8, .int .i64 a0)] (by kernel_rfl) ?_
  obtain ⟨r1, hr1, h⟩ := bindSome h
  refine kl_callv (by kernel_rfl) (by kernel_rfl) (by kernel_rfl) (r01_good.ok hr1) trivial ?_
  refine kl_steps 1 [(0, .int .i64 a0), (10, .bool (!r1))] (by kernel_rfl) ?_
  refine k_nil ?_
  refine k_then ?_
  refine k_cond (t := !r1) (by kernel_rfl) (fun t2 => ?_) (fun t2 => ?_)
  · have h := condT h t2
    refine k_seq ?_
    refine k_region ?_
    refine kl_steps 2 [(2, .string (⟨#[]⟩ : ByteArray)), (3, .int .i64 (3 : Int))] (by kernel_rfl) ?_
    refine k_nil ?_
    refine k_then ?_
    refine k_ret ?_
    refine k_then_ret ?_
    obtain rfl := Option.some.inj h
    refine k_done (v := .tuple #[.string (⟨#[]⟩ : ByteArray), .int .i64 (3 : Int)]) [] [] [] (by kernel_rfl) (by kernel_rfl) trivial ?_
    exact k_end ⟨rfl, rfl⟩
  · have h := condF h t2
    refine k_skip ?_
    refine k_then ?_
    refine k_seq ?_
    refine k_region ?_
    refine kl_steps 1 [(0, .int .i64 a0), (11, .int .i64 a0)] (by kernel_rfl) ?_
    obtain ⟨r3, hr3, h⟩ := bindSome h
    refine kl_callv (by kernel_rfl) (by kernel_rfl) (by kernel_rfl) (r01_bytes.ok hr3) trivial ?_
    refine kl_steps 1 [(0, .int .i64 a0), (4, .int .i64 r3)] (by kernel_rfl) ?_
    refine k_nil ?_
    refine k_then ?_
    refine k_seq ?_
    refine k_seq ?_
    refine k_region ?_
    refine kl_steps 2 [(0, .int .i64 a0), (4, .int .i64 r3), (14, .bool (r3 == (1 : Int)))] (by kernel_rfl) ?_
    refine k_nil ?_
    refine k_then ?_
    refine k_cond (t := (r3 == (1 : Int))) (by kernel_rfl) (fun t4 => ?_) (fun t4 => ?_)
    · have h := condT h t4
      refine k_seq ?_
      refine k_region ?_
      refine kl_steps 2 [(16, .int .u8 (IntKind.u8.wrap a0))] (by kernel_rfl) ?_
      refine kl_new (.cells #[.int .u8 (IntKind.u8.wrap a0)] 5 (0, 0)) (fun b => .slice (some ⟨b, 0, none⟩) 1 1) (by kernel_rfl) (by kernel_rfl) (fun _ => by kernel_rfl) fun b5 => ?_
      refine kl_string (U := 5) (xs := [IntKind.u8.wrap a0]) rfl (by kernel_rfl) (by kernel_rfl) (by kernel_rfl) (by kernel_rfl) (by kernel_rfl) (by kernel_rfl) (OwnT.rd (OwnT.blk 5 (encI_ok .u8) b5 [IntKind.u8.wrap a0] #[.int .u8 (IntKind.u8.wrap a0)] 1 (by kernel_rfl) rfl (by decide))) (.head _) ?_
      refine K.drop ?_
      refine kl_steps 2 [(2, .string (strOfNums ([IntKind.u8.wrap a0]))), (3, .int .i64 (0 : Int))] (by kernel_rfl) ?_
      refine k_nil ?_
      refine k_then ?_
      refine k_ret ?_
      refine k_then_ret ?_
      obtain rfl := Option.some.inj h
      refine k_done (v := .tuple #[.string (strOfNums ([IntKind.u8.wrap a0])), .int .i64 (0 : Int)]) [] [] [] (by kernel_rfl) (by kernel_rfl) trivial ?_
      exact k_end ⟨rfl, rfl⟩
    · have h := condF h t4
      refine k_skip ?_
      refine k_then ?_
      refine k_seq ?_
      refine k_region ?_
      refine kl_steps 1 [(0, .int .i64 a0), (4, .int .i64 r3), (19, .int .i64 r3)] (by kernel_rfl) ?_
      obtain ⟨l6, hl6, h⟩ := bindSome h
      refine kl_make (kl := .i64) (kc := .i64) (E := (encI .u8)) (0 : Int) (encI_ok .u8) rfl rfl ety44 (by kernel_rfl) (by kernel_rfl) (by kernel_rfl) (by kernel_rfl) hl6 fun h7 A8 k9 o10 => ?_
      refine kl_steps 1 [(0, .int .i64 a0), (4, .int .i64 r3), (5, .slice A8 l6.length k9)] (by kernel_rfl) ?_
      refine k_nil ?_
      refine k_then ?_
      obtain ⟨J17, hJ17, h⟩ := joinSplit h
      refine k_cut (τ := Int × (List Int) × Frag × (Option Addr) × Nat) (fun t => [(0, .int .i64 t.1), (4, .int .i64 r3), (5, .slice t.2.2.2.1 t.2.1.length t.2.2.2.2)]) (fun t => t.2.2.1 :: X) (fun t => J17 t.1 t.2.1 = some r ∧ OwnT (encI .u8) 5 1 t.2.2.1 (.slice t.2.2.2.1 t.2.1.length t.2.2.2.2) t.2.1) ?_ ?_
      · rintro ⟨x11, l12, h13, A14, k15⟩ ⟨h, o16⟩
        subst hJ17
        refine k_seq ?_
        refine k_region ?_
        refine kl_steps 1 [(0, .int .i64 x11), (4, .int .i64 r3), (5, .slice A14 l12.length k15), (7, .int .i64 (192 : Int))] (by kernel_rfl) ?_
        refine k_nil ?_
        refine k_then ?_
        obtain ⟨J19, hJ19, h⟩ := joinSplit h
        refine k_cut (τ := Int) (fun t => [(0, .int .i64 x11), (4, .int .i64 r3), (5, .slice A14 l12.length k15), (7, .int .i64 t)]) (fun t => h13 :: X) (fun t => J19 t = some r) ?_ ?_
        · rintro x18 h
          subst hJ19
          obtain ⟨J21, hJ21, h⟩ := joinSplit h
          refine k_cut (τ := Int) (fun t => [(0, .int .i64 x11), (5, .slice A14 l12.length k15), (7, .int .i64 t)]) (fun t => h13 :: X) (fun t => J21 t = some r) ?_ ?_
          · rintro x20 h
            subst hJ21
            refine k_seq ?_
            refine k_region ?_
            refine kl_steps 5 [(5, .slice A14 l12.length k15), (40, .slice A14 l12.length k15), (44, .int .u8 (IntKind.u8.wrap (IntKind.i64.wrap (x20 + x11))))] (by kernel_rfl) ?_
            obtain ⟨x22, hx22, h⟩ := bindSome h
            refine kl_elemP (T := 5) (kd := .i64) (encI_ok .u8) rfl (by kernel_rfl) (by kernel_rfl) (by kernel_rfl) (by kernel_rfl) (by kernel_rfl) (by kernel_rfl) hx22 (OwnT.rd o16) fun p23 e24 y25 => ?_
            have e24 : Elem _ p23 [.int .u8 x22] := e24
            obtain ⟨l26, hl26, h⟩ := bindSome h
            refine kl_estore (v := .int .u8 (IntKind.u8.wrap (IntKind.i64.wrap (x20 + x11)))) (off := 0) (x' := IntKind.u8.wrap (IntKind.i64.wrap (x20 + x11))) (encI_ok .u8) rfl (by kernel_rfl) (by kernel_rfl) (by kernel_rfl) (by kernel_rfl) (by kernel_rfl) y25 o16 hx22 (by kernel_rfl) (by kernel_rfl) hl26 fun h27 o28 => ?_
            have g29 := lSet_len hl26
            refine K.weak (env' := [(5, .slice A14 l26.length k15), (44, .int .u8 (IntKind.u8.wrap (IntKind.i64.wrap (x20 + x11))))]) ?_ ⟨(by first | rfl | (rw [g29]; rfl)), rfl, trivial⟩
            refine K.eq (l' := h27 :: X) rfl (by first | rfl | (rw [g29])) ?_
            refine k_nil ?_
            refine k_then ?_
            refine k_seq ?_
            refine k_region ?_
            refine kl_steps 1 [(46, .slice A14 l26.length k15)] (by kernel_rfl) ?_
            refine kl_string (U := 5) (xs := l26) rfl (by kernel_rfl) (by kernel_rfl) (by kernel_rfl) (by kernel_rfl) (by kernel_rfl) (by kernel_rfl) (OwnT.rd o28) (.head _) ?_
            refine K.drop ?_
            refine kl_steps 2 [(2, .string (strOfNums l26)), (3, .int .i64 (0 : Int))] (by kernel_rfl) ?_
            refine k_nil ?_
            refine k_then ?_
            refine k_ret ?_
            obtain rfl := Option.some.inj h
            refine k_done (v := .tuple #[.string (strOfNums l26), .int .i64 (0 : Int)]) [] [] [] (by kernel_rfl) (by kernel_rfl) trivial ?_
            exact k_end ⟨rfl, rfl⟩
          · skip
            refine k_seq ?_
            refine k_region ?_
            refine kl_steps 2 [(0, .int .i64 x11), (5, .slice A14 l12.length k15), (7, .int .i64 x18), (39, .bool (r3 == (4 : Int)))] (by kernel_rfl) ?_
            refine k_nil ?_
            refine k_then ?_
            refine k_cond (t := (r3 == (4 : Int))) (by kernel_rfl) (fun t30 => ?_) (fun t30 => ?_)
            · have h := condT h t30
              refine k_region ?_
              refine kl_steps 1 [(0, .int .i64 x11), (5, .slice A14 l12.length k15), (7, .int .i64 (240 : Int))] (by kernel_rfl) ?_
              refine k_nil ?_
              refine k_then ?_
              exact k_meet (240 : Int) h ⟨rfl, rfl, rfl, trivial⟩ rfl
            · have h := condF h t30
              refine k_skip ?_
              refine k_then ?_
              exact k_meet x18 h ⟨rfl, rfl, rfl, trivial⟩ rfl
        · skip
          refine k_seq ?_
          refine k_region ?_
          refine kl_steps 2 [(0, .int .i64 x11), (4, .int .i64 r3), (5, .slice A14 l12.length k15), (7, .int .i64 (192 : Int)), (37, .bool (r3 == (3 : Int)))] (by kernel_rfl) ?_
          refine k_nil ?_
          refine k_then ?_
          refine k_cond (t := (r3 == (3 : Int))) (by kernel_rfl) (fun t31 => ?_) (fun t31 => ?_)
          · have h := condT h t31
            refine k_region ?_
            refine kl_steps 1 [(0, .int .i64 x11), (4, .int .i64 r3), (5, .slice A14 l12.length k15), (7, .int .i64 (224 : Int))] (by kernel_rfl) ?_
            refine k_nil ?_
            refine k_then ?_
            exact k_meet (224 : Int) h ⟨rfl, rfl, rfl, rfl, trivial⟩ rfl
          · have h := condF h t31
            refine k_skip ?_
            refine k_then ?_
            exact k_meet (192 : Int) h ⟨rfl, rfl, rfl, rfl, trivial⟩ rfl
      · skip
        refine k_seq ?_
        refine k_region ?_
        refine kl_steps 3 [(0, .int .i64 a0), (4, .int .i64 r3), (5, .slice A8 l6.length k9), (6, .int .i64 (IntKind.i64.wrap (r3 - (1 : Int))))] (by kernel_rfl) ?_
        refine k_nil ?_
        refine k_then ?_
        refine k_block ?_
        refine k_loop (τ := Int × (List Int) × Int × Frag × (Option Addr) × Nat) (fun t => [(0, .int .i64 t.1), (4, .int .i64 r3), (5, .slice t.2.2.2.2.1 t.2.1.length t.2.2.2.2.2), (6, .int .i64 t.2.2.1)]) (fun t => t.2.2.2.1 :: X) (fun m t => r01_Encode.l0 m J17 t.1 t.2.1 t.2.2.1 = some r ∧ OwnT (encI .u8) 5 1 t.2.2.2.1 (.slice t.2.2.2.2.1 t.2.1.length t.2.2.2.2.2) t.2.1) k (a0, l6, IntKind.i64.wrap (r3 - (1 : Int)), h7, A8, k9) ⟨h, o10⟩ ⟨rfl, rfl, rfl, rfl, trivial⟩ rfl ?_
        clear h
        rintro m39 ⟨x32, l33, x38, h34, A35, k36⟩ ⟨h, o37⟩
        cases m39 with
        | zero => simp [r01_Encode.l0] at h
        | succ m39 =>
          simp only [r01_Encode.l0] at h
          refine k_seq ?_
          refine k_seq ?_
          refine k_region ?_
          refine kl_steps 2 [(0, .int .i64 x32), (4, .int .i64 r3), (5, .slice A35 l33.length k36), (6, .int .i64 x38), (24, .bool (decide (x38 > (0 : Int))))] (by kernel_rfl) ?_
          refine k_nil ?_
          refine k_then ?_
          refine k_cond (t := decide (x38 > (0 : Int))) (by kernel_rfl) (fun t40 => ?_) (fun t40 => ?_)
          · have h := condT h t40
            refine k_skip ?_
            refine k_then ?_
            refine k_seq ?_
            refine k_block ?_
            refine k_seq ?_
            refine k_region ?_
            refine kl_steps 6 [(0, .int .i64 x32), (4, .int .i64 r3), (5, .slice A35 l33.length k36), (6, .int .i64 x38), (27, .slice A35 l33.length k36), (28, .int .i64 x38), (32, .int .u8 (IntKind.u8.wrap (IntKind.i64.wrap ((128 : Int) + (Int.tmod x32 (64 : Int))))))] (by kernel_rfl) ?_
            obtain ⟨x41, hx41, h⟩ := bindSome h
            refine kl_elemP (T := 5) (kd := .i64) (encI_ok .u8) rfl (by kernel_rfl) (by kernel_rfl) (by kernel_rfl) (by kernel_rfl) (by kernel_rfl) (by kernel_rfl) hx41 (OwnT.rd o37) fun p42 e43 y44 => ?_
            have e43 : Elem _ p42 [.int .u8 x41] := e43
            obtain ⟨l45, hl45, h⟩ := bindSome h
            refine kl_estore (v := .int .u8 (IntKind.u8.wrap (IntKind.i64.wrap ((128 : Int) + (Int.tmod x32 (64 : Int)))))) (off := 0) (x' := IntKind.u8.wrap (IntKind.i64.wrap ((128 : Int) + (Int.tmod x32 (64 : Int))))) (encI_ok .u8) rfl (by kernel_rfl) (by kernel_rfl) (by kernel_rfl) (by kernel_rfl) (by kernel_rfl) y44 o37 hx41 (by kernel_rfl) (by kernel_rfl) hl45 fun h46 o47 => ?_
            have g48 := lSet_len hl45
            refine K.weak (env' := [(0, .int .i64 x32), (4, .int .i64 r3), (5, .slice A35 l45.length k36), (6, .int .i64 x38), (32, .int .u8 (IntKind.u8.wrap (IntKind.i64.wrap ((128 : Int) + (Int.tmod x32 (64 : Int))))))]) ?_ ⟨rfl, rfl, (by first | rfl | (rw [g48]; rfl)), rfl, rfl, trivial⟩
            refine K.eq (l' := h46 :: X) rfl (by first | rfl | (rw [g48])) ?_
            refine k_nil ?_
            refine k_then ?_
            refine k_region ?_
            refine kl_steps 3 [(0, .int .i64 (IntKind.i64.wrap (Int.tdiv x32 (64 : Int)))), (4, .int .i64 r3), (5, .slice A35 l45.length k36), (6, .int .i64 x38)] (by kernel_rfl) ?_
            refine k_nil ?_
            refine k_blk ?_
            refine k_then ?_
            refine k_region ?_
            refine kl_steps 3 [(0, .int .i64 (IntKind.i64.wrap (Int.tdiv x32 (64 : Int)))), (4, .int .i64 r3), (5, .slice A35 l45.length k36), (6, .int .i64 (IntKind.i64.wrap (x38 - (1 : Int))))] (by kernel_rfl) ?_
            refine k_nil ?_
            refine k_then ?_
            exact k_again m39 (IntKind.i64.wrap (Int.tdiv x32 (64 : Int)), l45, IntKind.i64.wrap (x38 - (1 : Int)), h46, A35, k36) (Nat.lt_succ_self _) ⟨h, o47⟩ ⟨rfl, rfl, rfl, rfl, trivial⟩ rfl
          · have h := condF h t40
            refine k_exit ?_
            refine k_then_exit ?_
            refine k_then_exit ?_
            refine k_here ?_
            refine k_then ?_
            exact k_meet (x32, l33, h34, A35, k36) ⟨h, o37⟩ ⟨rfl, rfl, rfl, trivial⟩ rfl
end Go.Proofs.YtadenjlehhopmaaDoor
