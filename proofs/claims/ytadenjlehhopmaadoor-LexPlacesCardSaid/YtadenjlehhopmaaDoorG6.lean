/- Printed by a program of mine (wip/mk.py): functions with the same answers as the Go code, and the proof of it. -/
import Derived.Test.YtadenjlehhopmaaDoorG5
namespace Go.Proofs.YtadenjlehhopmaaDoor
open Go Go.RowKit
set_option linter.unusedSimpArgs false
set_option linter.unusedVariables false
def law11_LexPlaces.l0 : Nat → (a0 : ByteArray) → (r1 : List (Int × ByteArray × Int × Int) × Int × Int) → (J14 : (Unit → Option (Bool))) → (x15 : Int) → (x16 : Int) → Option (Bool)
  | 0, _, _, _, _, _ => none
  | m17 + 1, a0, r1, J14, x15, x16 => cond (decide (x16 < ((r1.1.length : Nat) : Int))) ((lIdx r1.1 x16).bind fun x19 => (cond (decide (x19.2.2.2 < x15)) (some true) (cond (decide (x19.2.2.2 > (a0.size : Int))) (some true) (some ((x19.1 == (6 : Int)) != (x16 == (IntKind.i64.wrap (((r1.1.length : Nat) : Int) - (1 : Int))))))) : Option Bool).bind fun q24 => cond q24 (some (false)) (cond (x19.1 == (6 : Int)) ((cond (x19.2.2.2 == (a0.size : Int)) (some (x19.2.1.toList == (⟨#[]⟩ : ByteArray).toList)) (some false) : Option Bool).bind fun q27 => some (q27)) (joinF (fun (x29 : Int) => (cond (x19.1 == (1 : Int)) ((r01_At.f m17 x19.2.1 (0 : Int)).bind fun r34 => (r01_Letter.f m17 r34.2.2).bind fun r35 => cond (!r35) (some true) ((r11_IsWord.f m17 x19.2.1).bind fun r37 => some r37)) (some false) : Option Bool).bind fun q31 => cond q31 (some (false)) (law11_LexPlaces.l0 m17 a0 r1 J14 x29 (IntKind.i64.wrap (x16 + (1 : Int))))) (fun J30 => cond (x19.1 != (4 : Int)) ((cond ((x19.2.1.size : Int) == (0 : Int)) (some true) (cond (decide ((x19.2.1.size : Int) > (IntKind.i64.wrap ((a0.size : Int) - x19.2.2.2)))) (some true) ((sSub a0 x19.2.2.2 (IntKind.i64.wrap (x19.2.2.2 + (x19.2.1.size : Int)))).bind fun s43 : ByteArray => some (!(s43.toList == x19.2.1.toList)))) : Option Bool).bind fun q39 => cond q39 (some (false)) (J30 (IntKind.i64.wrap (x19.2.2.2 + (x19.2.1.size : Int))))) (J30 (IntKind.i64.wrap (x19.2.2.2 + (1 : Int)))))))) (J14 ())
def law11_LexPlaces.f (k : Nat) (a0 : ByteArray) : Option (Bool) := (lex_Scan.f k a0).bind fun r1 => (law11_fixed.f k).bind fun r7 => cond (!r7) (some (false)) (cond (r1.2.1 != (0 : Int)) ((cond (((r1.1.length : Nat) : Int) == (0 : Int)) (cond (decide (r1.2.2 ≥ (-1 : Int))) (cond (decide (r1.2.2 < (if (1 : Int) > (a0.size : Int) then (1 : Int) else (a0.size : Int)))) (some ((r1.2.2 == (-1 : Int)) == (decide ((a0.size : Int) > (20000 : Int))))) (some false)) (some false)) (some false) : Option Bool).bind fun q10 => some (q10)) (joinF (fun (_ : Unit) => some (false)) (fun J14 => law11_LexPlaces.l0 k a0 r1 J14 (0 : Int) (0 : Int))))
set_option maxRecDepth 100000 in
theorem law11_LexPlaces.ok {k : Nat} {a0 : ByteArray} {G : Frag} {r : Bool} (h : law11_LexPlaces.f k a0 = some r) (hG : GlP G) : Ct Tryd.prog 5 #[.string a0] [] [G] (fun e l1 => e = .returned (.bool r) ∧ l1 = []) := by
  refine ct_enter (args := [.string a0]) Tryd.func5 rfl (Nat.le_of_ble_eq_true rfl) ?_
  intro A X hh_
  obtain ⟨hm_G, _⟩ := hh_
  unfold law11_LexPlaces.f at h
  refine k_seq ?_
  refine k_region ?_
  refine kl_steps 1 [(0, .string a0)] (by kernel_rfl) ?_
  refine k_nil ?_
  refine k_then ?_
  refine k_seq ?_
  refine k_region ?_
  refine kl_steps 1 [(0, .string a0), (9, .string a0)] (by kernel_rfl) ?_
  obtain ⟨r1, hr1, h⟩ := bindSome h
  refine kl_call (X) (by kernel_rfl) (by kernel_rfl) (by kernel_rfl) (lex_Scan.ok hr1 hG) rfl ⟨hm_G, trivial⟩ ?_
  rintro _ _ ⟨h2, A3, k4, o5, rfl, rfl⟩
  refine nx_ret ?_
  refine kl_steps 3 [(0, .string a0), (11, .slice A3 r1.1.length k4), (12, .agg #[.int .i64 r1.2.1, .int .i64 r1.2.2])] (by kernel_rfl) ?_
  refine kl_new (.cells #[.int .i64 (0 : Int), .int .i64 (0 : Int)] 25 (0, 0)) (fun b => .pointer (some ⟨b, 0, none⟩)) (by kernel_rfl) (by kernel_rfl) (fun _ => by kernel_rfl) fun b6 => ?_
  refine kl_steps 1 [(0, .string a0), (12, .agg #[.int .i64 r1.2.1, .int .i64 r1.2.2]), (4, .pointer (some ⟨b6, 0, none⟩)), (3, .slice A3 r1.1.length k4)] (by kernel_rfl) ?_
  refine kl_store (cs' := #[.int .i64 r1.2.1, .int .i64 r1.2.2]) [.st ⟨b6, 0, none⟩ (.int .i64 r1.2.1), .st ⟨b6, 1, none⟩ (.int .i64 r1.2.2)] (by kernel_rfl) (by kernel_rfl) (by kernel_rfl) ⟨rfl, rfl, trivial⟩ (by kernel_rfl) ?_
  refine k_nil ?_
  refine k_then ?_
  refine k_seq ?_
  refine k_seq ?_
  refine k_region ?_
  obtain ⟨r7, hr7, h⟩ := bindSome h
  refine kl_callv (by kernel_rfl) (by kernel_rfl) (by kernel_rfl) (law11_fixed.ok hr7 hG) ⟨(.tail _ (.tail _ hm_G)), trivial⟩ ?_
  refine kl_steps 1 [(0, .string a0), (4, .pointer (some ⟨b6, 0, none⟩)), (3, .slice A3 r1.1.length k4), (14, .bool (!r7))] (by kernel_rfl) ?_
  refine k_nil ?_
  refine k_then ?_
  refine k_cond (t := !r7) (by kernel_rfl) (fun t8 => ?_) (fun t8 => ?_)
  · have h := condT h t8
    refine k_seq ?_
    refine k_region ?_
    refine kl_steps 1 [(2, .bool false)] (by kernel_rfl) ?_
    refine k_nil ?_
    refine k_then ?_
    refine k_ret ?_
    refine k_then_ret ?_
    obtain rfl := Option.some.inj h
    refine k_done (v := .bool false) [] [] [] (by kernel_rfl) (by kernel_rfl) trivial ?_
    refine K.drop ?_
    refine K.drop ?_
    exact k_end ⟨rfl, rfl⟩
  · have h := condF h t8
    refine k_skip ?_
    refine k_then ?_
    refine k_seq ?_
    refine k_seq ?_
    refine k_region ?_
    refine kl_steps 1 [(0, .string a0), (4, .pointer (some ⟨b6, 0, none⟩)), (3, .slice A3 r1.1.length k4), (15, .pointer (some ⟨b6, 0, none⟩))] (by kernel_rfl) ?_
    refine kl_load (v := .int .i64 r1.2.1) [.val (.int .i64 r1.2.1)] [.ld ⟨b6, 0, none⟩ (.int .i64 r1.2.1)] (by kernel_rfl) (by kernel_rfl) (by kernel_rfl) ⟨⟨0, _, _, _, rfl, rfl, rfl⟩, trivial⟩ ?_
    refine kl_steps 1 [(0, .string a0), (4, .pointer (some ⟨b6, 0, none⟩)), (3, .slice A3 r1.1.length k4), (17, .bool (r1.2.1 != (0 : Int)))] (by kernel_rfl) ?_
    refine k_nil ?_
    refine k_then ?_
    refine k_cond (t := (r1.2.1 != (0 : Int))) (by kernel_rfl) (fun t9 => ?_) (fun t9 => ?_)
    · have h := condT h t9
      obtain ⟨q10, hq10, h⟩ := bindSome h
      refine k_cut1 [(2, .bool q10)] (X) ?_ ?_
      · clear hq10
        refine k_ret ?_
        refine k_then_ret ?_
        obtain rfl := Option.some.inj h
        refine k_done (v := .bool q10) [] [] [] (by kernel_rfl) (by kernel_rfl) trivial ?_
        exact k_end ⟨rfl, rfl⟩
      · have h := hq10
        clear hq10
        refine k_region ?_
        refine kl_steps 4 [(0, .string a0), (4, .pointer (some ⟨b6, 0, none⟩)), (21, .bool (((r1.1.length : Nat) : Int) == (0 : Int)))] (by kernel_rfl) ?_
        rcases Bool.eq_false_or_eq_true ((((r1.1.length : Nat) : Int) == (0 : Int))) with t11 | t11
        · have h := condT h t11
          refine K.weak (env' := [(0, .string a0), (4, .pointer (some ⟨b6, 0, none⟩)), (21, .bool true)]) ?_ ⟨rfl, rfl, congrArg (fun b => some (Value.bool b)) t11, trivial⟩
          refine kl_steps 1 [(0, .string a0), (4, .pointer (some ⟨b6, 0, none⟩)), (21, .bool true), (22, .pointer (some ⟨b6, 1, none⟩))] (by kernel_rfl) ?_
          refine kl_load (v := .int .i64 r1.2.2) [.val (.int .i64 r1.2.2)] [.ld ⟨b6, 1, none⟩ (.int .i64 r1.2.2)] (by kernel_rfl) (by kernel_rfl) (by kernel_rfl) ⟨⟨0, _, _, _, rfl, rfl, rfl⟩, trivial⟩ ?_
          refine K.mv1 ?_
          refine K.drop ?_
          refine kl_steps 3 [(0, .string a0), (4, .pointer (some ⟨b6, 0, none⟩)), (26, .bool (decide (r1.2.2 ≥ (-1 : Int))))] (by kernel_rfl) ?_
          rcases Bool.eq_false_or_eq_true (decide (r1.2.2 ≥ (-1 : Int))) with t12 | t12
          · have h := condT h t12
            refine K.weak (env' := [(0, .string a0), (4, .pointer (some ⟨b6, 0, none⟩)), (26, .bool true)]) ?_ ⟨rfl, rfl, congrArg (fun b => some (Value.bool b)) t12, trivial⟩
            refine kl_steps 1 [(0, .string a0), (4, .pointer (some ⟨b6, 0, none⟩)), (26, .bool true), (27, .pointer (some ⟨b6, 1, none⟩))] (by kernel_rfl) ?_
            refine kl_load (v := .int .i64 r1.2.2) [.val (.int .i64 r1.2.2)] [.ld ⟨b6, 1, none⟩ (.int .i64 r1.2.2)] (by kernel_rfl) (by kernel_rfl) (by kernel_rfl) ⟨⟨0, _, _, _, rfl, rfl, rfl⟩, trivial⟩ ?_
            refine kl_steps 6 [(0, .string a0), (4, .pointer (some ⟨b6, 0, none⟩)), (34, .bool (decide (r1.2.2 < (if (1 : Int) > (a0.size : Int) then (1 : Int) else (a0.size : Int)))))] (by kernel_rfl) ?_
            rcases Bool.eq_false_or_eq_true (decide (r1.2.2 < (if (1 : Int) > (a0.size : Int) then (1 : Int) else (a0.size : Int)))) with t13 | t13
            · have h := condT h t13
              refine K.weak (env' := [(0, .string a0), (4, .pointer (some ⟨b6, 0, none⟩)), (34, .bool true)]) ?_ ⟨rfl, rfl, congrArg (fun b => some (Value.bool b)) t13, trivial⟩
              refine kl_steps 1 [(0, .string a0), (34, .bool true), (35, .pointer (some ⟨b6, 1, none⟩))] (by kernel_rfl) ?_
              refine kl_load (v := .int .i64 r1.2.2) [.val (.int .i64 r1.2.2)] [.ld ⟨b6, 1, none⟩ (.int .i64 r1.2.2)] (by kernel_rfl) (by kernel_rfl) (by kernel_rfl) ⟨⟨0, _, _, _, rfl, rfl, rfl⟩, trivial⟩ ?_
              refine K.drop ?_
              refine kl_steps 7 [(2, .bool ((r1.2.2 == (-1 : Int)) == (decide ((a0.size : Int) > (20000 : Int)))))] (by kernel_rfl) ?_
              refine k_nil ?_
              refine k_then ?_
              exact k_meet1 ⟨congrArg (fun b => some (Value.bool b)) (Option.some.inj h), trivial⟩
            · have h := condF h t13
              refine K.weak (env' := [(0, .string a0), (4, .pointer (some ⟨b6, 0, none⟩)), (34, .bool false)]) ?_ ⟨rfl, rfl, congrArg (fun b => some (Value.bool b)) t13, trivial⟩
              refine kl_steps 9 [(2, .bool false)] (by kernel_rfl) ?_
              refine k_nil ?_
              refine k_then ?_
              refine K.drop ?_
              exact k_meet1 ⟨congrArg (fun b => some (Value.bool b)) (Option.some.inj h), trivial⟩
          · have h := condF h t12
            refine K.weak (env' := [(0, .string a0), (4, .pointer (some ⟨b6, 0, none⟩)), (26, .bool false)]) ?_ ⟨rfl, rfl, congrArg (fun b => some (Value.bool b)) t12, trivial⟩
            refine kl_steps 17 [(2, .bool false)] (by kernel_rfl) ?_
            refine k_nil ?_
            refine k_then ?_
            refine K.drop ?_
            exact k_meet1 ⟨congrArg (fun b => some (Value.bool b)) (Option.some.inj h), trivial⟩
        · have h := condF h t11
          refine K.weak (env' := [(0, .string a0), (4, .pointer (some ⟨b6, 0, none⟩)), (21, .bool false)]) ?_ ⟨rfl, rfl, congrArg (fun b => some (Value.bool b)) t11, trivial⟩
          refine kl_steps 22 [(2, .bool false)] (by kernel_rfl) ?_
          refine k_nil ?_
          refine k_then ?_
          refine K.drop ?_
          refine K.drop ?_
          exact k_meet1 ⟨congrArg (fun b => some (Value.bool b)) (Option.some.inj h), trivial⟩
    · have h := condF h t9
      refine k_skip ?_
      refine k_then ?_
      refine k_seq ?_
      refine k_region ?_
      refine kl_steps 1 [(0, .string a0), (3, .slice A3 r1.1.length k4), (5, .int .i64 (0 : Int))] (by kernel_rfl) ?_
      refine k_nil ?_
      refine k_then ?_
      obtain ⟨J14, hJ14, h⟩ := joinSplit h
      refine k_cut (τ := Unit) (fun t => []) (fun t => X) (fun t => J14 () = some r) ?_ ?_
      · rintro ⟨⟩ h
        subst hJ14
        refine k_seq ?_
        refine k_region ?_
        refine kl_steps 1 [(2, .bool false)] (by kernel_rfl) ?_
        refine k_nil ?_
        refine k_then ?_
        refine k_ret ?_
        obtain rfl := Option.some.inj h
        refine k_done (v := .bool false) [] [] [] (by kernel_rfl) (by kernel_rfl) trivial ?_
        exact k_end ⟨rfl, rfl⟩
      · skip
        refine k_seq ?_
        refine k_region ?_
        refine kl_steps 1 [(0, .string a0), (3, .slice A3 r1.1.length k4), (5, .int .i64 (0 : Int)), (6, .int .i64 (0 : Int))] (by kernel_rfl) ?_
        refine k_nil ?_
        refine k_then ?_
        refine k_block ?_
        refine K.drop ?_
        refine k_loop (τ := Int × Int) (fun t => [(0, .string a0), (3, .slice A3 r1.1.length k4), (5, .int .i64 t.1), (6, .int .i64 t.2)]) (fun t => h2 :: X) (fun m t => law11_LexPlaces.l0 m a0 r1 J14 t.1 t.2 = some r) k ((0 : Int), (0 : Int)) h ⟨rfl, rfl, rfl, rfl, trivial⟩ rfl ?_
        clear h
        rintro m17 ⟨x15, x16⟩ h
        cases m17 with
        | zero => simp [law11_LexPlaces.l0] at h
        | succ m17 =>
          simp only [law11_LexPlaces.l0] at h
          refine k_seq ?_
          refine k_seq ?_
          refine k_region ?_
          refine kl_steps 4 [(0, .string a0), (3, .slice A3 r1.1.length k4), (5, .int .i64 x15), (6, .int .i64 x16), (46, .bool (decide (x16 < ((r1.1.length : Nat) : Int))))] (by kernel_rfl) ?_
          refine k_nil ?_
          refine k_then ?_
          refine k_cond (t := decide (x16 < ((r1.1.length : Nat) : Int))) (by kernel_rfl) (fun t18 => ?_) (fun t18 => ?_)
          · have h := condT h t18
            refine k_skip ?_
            refine k_then ?_
            refine k_seq ?_
            refine k_block ?_
            refine k_seq ?_
            refine k_region ?_
            refine kl_steps 2 [(0, .string a0), (3, .slice A3 r1.1.length k4), (5, .int .i64 x15), (6, .int .i64 x16), (49, .slice A3 r1.1.length k4), (50, .int .i64 x16)] (by kernel_rfl) ?_
            obtain ⟨x19, hx19, h⟩ := bindSome h
            refine kl_elemP (T := 36) (kd := .i64) e36_ok rfl (by kernel_rfl) (by kernel_rfl) (by kernel_rfl) (by kernel_rfl) (by kernel_rfl) (by kernel_rfl) hx19 (OwnT.rd o5) fun p20 e21 y22 => ?_
            have e21 : Elem _ p20 [.int .i64 x19.1, .string x19.2.1, .int .i64 x19.2.2.1, .int .i64 x19.2.2.2] := e21
            refine kl_eloadN rfl (by kernel_rfl) (by kernel_rfl) (by kernel_rfl) (by kernel_rfl) (by kernel_rfl) e21 (.head _) ?_
            refine kl_new (.cells #[.int .i64 (0 : Int), .string (⟨#[]⟩ : ByteArray), .int .i64 (0 : Int), .int .i64 (0 : Int)] 36 (0, 0)) (fun b => .pointer (some ⟨b, 0, none⟩)) (by kernel_rfl) (by kernel_rfl) (fun _ => by kernel_rfl) fun b23 => ?_
            refine kl_store (cs' := #[.int .i64 x19.1, .string x19.2.1, .int .i64 x19.2.2.1, .int .i64 x19.2.2.2]) [.st ⟨b23, 0, none⟩ (.int .i64 x19.1), .st ⟨b23, 1, none⟩ (.string x19.2.1), .st ⟨b23, 2, none⟩ (.int .i64 x19.2.2.1), .st ⟨b23, 3, none⟩ (.int .i64 x19.2.2.2)] (by kernel_rfl) (by kernel_rfl) (by kernel_rfl) ⟨rfl, rfl, rfl, rfl, trivial⟩ (by kernel_rfl) ?_
            refine k_nil ?_
            refine k_then ?_
            refine k_seq ?_
            obtain ⟨q24, hq24, h⟩ := bindSome h
            refine k_cut1 [(0, .string a0), (3, .slice A3 r1.1.length k4), (6, .int .i64 x16), (7, .pointer (some ⟨b23, 0, none⟩)), (74, .bool q24)] (blk b23 (.cells #[.int .i64 x19.1, .string x19.2.1, .int .i64 x19.2.2.1, .int .i64 x19.2.2.2] 36 (0, 0)) :: h2 :: X) ?_ ?_
            · clear hq24
              refine k_cond (t := q24) (by kernel_rfl) (fun t25 => ?_) (fun t25 => ?_)
              · have h := condT h t25
                refine k_seq ?_
                refine k_region ?_
                refine kl_steps 1 [(2, .bool false)] (by kernel_rfl) ?_
                refine k_nil ?_
                refine k_then ?_
                refine k_ret ?_
                refine k_then_ret ?_
                refine k_blk_ret ?_
                refine k_then_ret ?_
                refine k_then_ret ?_
                refine k_blk_ret ?_
                refine k_then_ret ?_
                obtain rfl := Option.some.inj h
                refine k_done (v := .bool false) [] [] [] (by kernel_rfl) (by kernel_rfl) trivial ?_
                refine K.drop ?_
                refine K.drop ?_
                exact k_end ⟨rfl, rfl⟩
              · have h := condF h t25
                refine k_skip ?_
                refine k_then ?_
                refine k_seq ?_
                refine k_seq ?_
                refine k_region ?_
                refine kl_steps 1 [(0, .string a0), (3, .slice A3 r1.1.length k4), (6, .int .i64 x16), (7, .pointer (some ⟨b23, 0, none⟩)), (75, .pointer (some ⟨b23, 0, none⟩))] (by kernel_rfl) ?_
                refine kl_load (v := .int .i64 x19.1) [.val (.int .i64 x19.1)] [.ld ⟨b23, 0, none⟩ (.int .i64 x19.1)] (by kernel_rfl) (by kernel_rfl) (by kernel_rfl) ⟨⟨0, _, _, _, rfl, rfl, rfl⟩, trivial⟩ ?_
                refine kl_steps 1 [(0, .string a0), (3, .slice A3 r1.1.length k4), (6, .int .i64 x16), (7, .pointer (some ⟨b23, 0, none⟩)), (77, .bool (x19.1 == (6 : Int)))] (by kernel_rfl) ?_
                refine k_nil ?_
                refine k_then ?_
                refine k_cond (t := (x19.1 == (6 : Int))) (by kernel_rfl) (fun t26 => ?_) (fun t26 => ?_)
                · have h := condT h t26
                  obtain ⟨q27, hq27, h⟩ := bindSome h
                  refine k_cut1 [(2, .bool q27)] (X) ?_ ?_
                  · clear hq27
                    refine k_ret ?_
                    refine k_then_ret ?_
                    refine k_blk_ret ?_
                    refine k_then_ret ?_
                    refine k_then_ret ?_
                    refine k_blk_ret ?_
                    refine k_then_ret ?_
                    obtain rfl := Option.some.inj h
                    refine k_done (v := .bool q27) [] [] [] (by kernel_rfl) (by kernel_rfl) trivial ?_
                    exact k_end ⟨rfl, rfl⟩
                  · have h := hq27
                    clear hq27
                    refine k_region ?_
                    refine kl_steps 1 [(0, .string a0), (7, .pointer (some ⟨b23, 0, none⟩)), (78, .pointer (some ⟨b23, 3, none⟩))] (by kernel_rfl) ?_
                    refine kl_load (v := .int .i64 x19.2.2.2) [.val (.int .i64 x19.2.2.2)] [.ld ⟨b23, 3, none⟩ (.int .i64 x19.2.2.2)] (by kernel_rfl) (by kernel_rfl) (by kernel_rfl) ⟨⟨0, _, _, _, rfl, rfl, rfl⟩, trivial⟩ ?_
                    refine K.mv1 ?_
                    refine K.drop ?_
                    refine kl_steps 4 [(7, .pointer (some ⟨b23, 0, none⟩)), (83, .bool (x19.2.2.2 == (a0.size : Int)))] (by kernel_rfl) ?_
                    rcases Bool.eq_false_or_eq_true ((x19.2.2.2 == (a0.size : Int))) with t28 | t28
                    · have h := condT h t28
                      refine K.weak (env' := [(7, .pointer (some ⟨b23, 0, none⟩)), (83, .bool true)]) ?_ ⟨rfl, congrArg (fun b => some (Value.bool b)) t28, trivial⟩
                      refine kl_steps 1 [(83, .bool true), (84, .pointer (some ⟨b23, 1, none⟩))] (by kernel_rfl) ?_
                      refine kl_load (v := .string x19.2.1) [.val (.string x19.2.1)] [.ld ⟨b23, 1, none⟩ (.string x19.2.1)] (by kernel_rfl) (by kernel_rfl) (by kernel_rfl) ⟨⟨0, _, _, _, rfl, rfl, rfl⟩, trivial⟩ ?_
                      refine K.drop ?_
                      refine kl_steps 3 [(2, .bool (x19.2.1.toList == (⟨#[]⟩ : ByteArray).toList))] (by kernel_rfl) ?_
                      refine k_nil ?_
                      refine k_then ?_
                      exact k_meet1 ⟨congrArg (fun b => some (Value.bool b)) (Option.some.inj h), trivial⟩
                    · have h := condF h t28
                      refine K.weak (env' := [(7, .pointer (some ⟨b23, 0, none⟩)), (83, .bool false)]) ?_ ⟨rfl, congrArg (fun b => some (Value.bool b)) t28, trivial⟩
                      refine kl_steps 5 [(2, .bool false)] (by kernel_rfl) ?_
                      refine k_nil ?_
                      refine k_then ?_
                      refine K.drop ?_
                      exact k_meet1 ⟨congrArg (fun b => some (Value.bool b)) (Option.some.inj h), trivial⟩
                · have h := condF h t26
                  refine k_skip ?_
                  refine k_then ?_
                  refine k_seq ?_
                  refine k_region ?_
                  refine kl_steps 1 [(0, .string a0), (3, .slice A3 r1.1.length k4), (6, .int .i64 x16), (7, .pointer (some ⟨b23, 0, none⟩)), (88, .pointer (some ⟨b23, 3, none⟩))] (by kernel_rfl) ?_
                  refine kl_load (v := .int .i64 x19.2.2.2) [.val (.int .i64 x19.2.2.2)] [.ld ⟨b23, 3, none⟩ (.int .i64 x19.2.2.2)] (by kernel_rfl) (by kernel_rfl) (by kernel_rfl) ⟨⟨0, _, _, _, rfl, rfl, rfl⟩, trivial⟩ ?_
                  refine kl_steps 2 [(0, .string a0), (3, .slice A3 r1.1.length k4), (6, .int .i64 x16), (7, .pointer (some ⟨b23, 0, none⟩)), (5, .int .i64 (IntKind.i64.wrap (x19.2.2.2 + (1 : Int))))] (by kernel_rfl) ?_
                  refine k_nil ?_
                  refine k_then ?_
                  obtain ⟨J30, hJ30, h⟩ := joinSplit h
                  refine k_cut (τ := Int) (fun t => [(0, .string a0), (3, .slice A3 r1.1.length k4), (5, .int .i64 t), (6, .int .i64 x16), (7, .pointer (some ⟨b23, 0, none⟩))]) (fun t => blk b23 (.cells #[.int .i64 x19.1, .string x19.2.1, .int .i64 x19.2.2.1, .int .i64 x19.2.2.2] 36 (0, 0)) :: h2 :: X) (fun t => J30 t = some r) ?_ ?_
                  · rintro x29 h
                    subst hJ30
                    obtain ⟨q31, hq31, h⟩ := bindSome h
                    refine k_cut1 [(0, .string a0), (3, .slice A3 r1.1.length k4), (5, .int .i64 x29), (6, .int .i64 x16), (145, .bool q31)] (h2 :: X) ?_ ?_
                    · clear hq31
                      refine k_cond (t := q31) (by kernel_rfl) (fun t32 => ?_) (fun t32 => ?_)
                      · have h := condT h t32
                        refine k_seq ?_
                        refine k_region ?_
                        refine kl_steps 1 [(2, .bool false)] (by kernel_rfl) ?_
                        refine k_nil ?_
                        refine k_then ?_
                        refine k_ret ?_
                        refine k_blk_ret ?_
                        refine k_then_ret ?_
                        refine k_then_ret ?_
                        refine k_blk_ret ?_
                        refine k_then_ret ?_
                        obtain rfl := Option.some.inj h
                        refine k_done (v := .bool false) [] [] [] (by kernel_rfl) (by kernel_rfl) trivial ?_
                        refine K.drop ?_
                        exact k_end ⟨rfl, rfl⟩
                      · have h := condF h t32
                        refine k_skip ?_
                        refine k_blk ?_
                        refine k_then ?_
                        refine k_region ?_
                        refine kl_steps 3 [(0, .string a0), (3, .slice A3 r1.1.length k4), (5, .int .i64 x29), (6, .int .i64 (IntKind.i64.wrap (x16 + (1 : Int))))] (by kernel_rfl) ?_
                        refine k_nil ?_
                        refine k_then ?_
                        exact k_again m17 (x29, IntKind.i64.wrap (x16 + (1 : Int))) (Nat.lt_succ_self _) h ⟨rfl, rfl, rfl, rfl, trivial⟩ rfl
                    · have h := hq31
                      clear hq31
                      refine k_region ?_
                      refine kl_steps 1 [(0, .string a0), (3, .slice A3 r1.1.length k4), (5, .int .i64 x29), (6, .int .i64 x16), (7, .pointer (some ⟨b23, 0, none⟩)), (130, .pointer (some ⟨b23, 0, none⟩))] (by kernel_rfl) ?_
                      refine kl_load (v := .int .i64 x19.1) [.val (.int .i64 x19.1)] [.ld ⟨b23, 0, none⟩ (.int .i64 x19.1)] (by kernel_rfl) (by kernel_rfl) (by kernel_rfl) ⟨⟨0, _, _, _, rfl, rfl, rfl⟩, trivial⟩ ?_
                      refine kl_steps 2 [(0, .string a0), (3, .slice A3 r1.1.length k4), (5, .int .i64 x29), (6, .int .i64 x16), (7, .pointer (some ⟨b23, 0, none⟩)), (133, .bool (x19.1 == (1 : Int)))] (by kernel_rfl) ?_
                      rcases Bool.eq_false_or_eq_true ((x19.1 == (1 : Int))) with t33 | t33
                      · have h := condT h t33
                        refine K.weak (env' := [(0, .string a0), (3, .slice A3 r1.1.length k4), (5, .int .i64 x29), (6, .int .i64 x16), (7, .pointer (some ⟨b23, 0, none⟩)), (133, .bool true)]) ?_ ⟨rfl, rfl, rfl, rfl, rfl, congrArg (fun b => some (Value.bool b)) t33, trivial⟩
                        refine kl_steps 1 [(0, .string a0), (3, .slice A3 r1.1.length k4), (5, .int .i64 x29), (6, .int .i64 x16), (7, .pointer (some ⟨b23, 0, none⟩)), (133, .bool true), (134, .pointer (some ⟨b23, 1, none⟩))] (by kernel_rfl) ?_
                        refine kl_load (v := .string x19.2.1) [.val (.string x19.2.1)] [.ld ⟨b23, 1, none⟩ (.string x19.2.1)] (by kernel_rfl) (by kernel_rfl) (by kernel_rfl) ⟨⟨0, _, _, _, rfl, rfl, rfl⟩, trivial⟩ ?_
                        obtain ⟨r34, hr34, h⟩ := bindSome h
                        refine kl_callv (by kernel_rfl) (by kernel_rfl) (by kernel_rfl) (r01_At.ok hr34) trivial ?_
                        refine kl_steps 1 [(0, .string a0), (3, .slice A3 r1.1.length k4), (5, .int .i64 x29), (6, .int .i64 x16), (7, .pointer (some ⟨b23, 0, none⟩)), (133, .bool true), (137, .int .i64 r34.2.2)] (by kernel_rfl) ?_
                        obtain ⟨r35, hr35, h⟩ := bindSome h
                        refine kl_callv (by kernel_rfl) (by kernel_rfl) (by kernel_rfl) (r01_Letter.ok hr35) trivial ?_
                        refine kl_steps 2 [(0, .string a0), (3, .slice A3 r1.1.length k4), (5, .int .i64 x29), (6, .int .i64 x16), (7, .pointer (some ⟨b23, 0, none⟩)), (133, .bool true), (140, .bool (!r35))] (by kernel_rfl) ?_
                        rcases Bool.eq_false_or_eq_true (!r35) with t36 | t36
                        · have h := condT h t36
                          refine K.weak (env' := [(0, .string a0), (3, .slice A3 r1.1.length k4), (5, .int .i64 x29), (6, .int .i64 x16), (7, .pointer (some ⟨b23, 0, none⟩)), (133, .bool true), (140, .bool true)]) ?_ ⟨rfl, rfl, rfl, rfl, rfl, rfl, congrArg (fun b => some (Value.bool b)) t36, trivial⟩
                          refine kl_steps 5 [(0, .string a0), (3, .slice A3 r1.1.length k4), (5, .int .i64 x29), (6, .int .i64 x16), (145, .bool true)] (by kernel_rfl) ?_
                          refine k_nil ?_
                          refine k_then ?_
                          refine K.drop ?_
                          exact k_meet1 ⟨rfl, rfl, rfl, rfl, congrArg (fun b => some (Value.bool b)) (Option.some.inj h), trivial⟩
                        · have h := condF h t36
                          refine K.weak (env' := [(0, .string a0), (3, .slice A3 r1.1.length k4), (5, .int .i64 x29), (6, .int .i64 x16), (7, .pointer (some ⟨b23, 0, none⟩)), (133, .bool true), (140, .bool false)]) ?_ ⟨rfl, rfl, rfl, rfl, rfl, rfl, congrArg (fun b => some (Value.bool b)) t36, trivial⟩
                          refine kl_steps 1 [(0, .string a0), (3, .slice A3 r1.1.length k4), (5, .int .i64 x29), (6, .int .i64 x16), (133, .bool true), (140, .bool false), (141, .pointer (some ⟨b23, 1, none⟩))] (by kernel_rfl) ?_
                          refine kl_load (v := .string x19.2.1) [.val (.string x19.2.1)] [.ld ⟨b23, 1, none⟩ (.string x19.2.1)] (by kernel_rfl) (by kernel_rfl) (by kernel_rfl) ⟨⟨0, _, _, _, rfl, rfl, rfl⟩, trivial⟩ ?_
                          refine K.drop ?_
                          obtain ⟨r37, hr37, h⟩ := bindSome h
                          refine kl_callv (by kernel_rfl) (by kernel_rfl) (by kernel_rfl) (r11_IsWord.ok hr37) trivial ?_
                          refine kl_steps 2 [(0, .string a0), (3, .slice A3 r1.1.length k4), (5, .int .i64 x29), (6, .int .i64 x16), (145, .bool r37)] (by kernel_rfl) ?_
                          refine k_nil ?_
                          refine k_then ?_
                          exact k_meet1 ⟨rfl, rfl, rfl, rfl, congrArg (fun b => some (Value.bool b)) (Option.some.inj h), trivial⟩
                      · have h := condF h t33
                        refine K.weak (env' := [(0, .string a0), (3, .slice A3 r1.1.length k4), (5, .int .i64 x29), (6, .int .i64 x16), (7, .pointer (some ⟨b23, 0, none⟩)), (133, .bool false)]) ?_ ⟨rfl, rfl, rfl, rfl, rfl, congrArg (fun b => some (Value.bool b)) t33, trivial⟩
                        refine kl_steps 12 [(0, .string a0), (3, .slice A3 r1.1.length k4), (5, .int .i64 x29), (6, .int .i64 x16), (145, .bool false)] (by kernel_rfl) ?_
                        refine k_nil ?_
                        refine k_then ?_
                        refine K.drop ?_
                        exact k_meet1 ⟨rfl, rfl, rfl, rfl, congrArg (fun b => some (Value.bool b)) (Option.some.inj h), trivial⟩
                  · skip
                    refine k_seq ?_
                    refine k_region ?_
                    refine kl_steps 1 [(0, .string a0), (3, .slice A3 r1.1.length k4), (6, .int .i64 x16), (7, .pointer (some ⟨b23, 0, none⟩)), (5, .int .i64 (IntKind.i64.wrap (x19.2.2.2 + (1 : Int)))), (91, .pointer (some ⟨b23, 0, none⟩))] (by kernel_rfl) ?_
                    refine kl_load (v := .int .i64 x19.1) [.val (.int .i64 x19.1)] [.ld ⟨b23, 0, none⟩ (.int .i64 x19.1)] (by kernel_rfl) (by kernel_rfl) (by kernel_rfl) ⟨⟨0, _, _, _, rfl, rfl, rfl⟩, trivial⟩ ?_
                    refine kl_steps 1 [(0, .string a0), (3, .slice A3 r1.1.length k4), (6, .int .i64 x16), (7, .pointer (some ⟨b23, 0, none⟩)), (5, .int .i64 (IntKind.i64.wrap (x19.2.2.2 + (1 : Int)))), (93, .bool (x19.1 != (4 : Int)))] (by kernel_rfl) ?_
                    refine k_nil ?_
                    refine k_then ?_
                    refine k_cond (t := (x19.1 != (4 : Int))) (by kernel_rfl) (fun t38 => ?_) (fun t38 => ?_)
                    · have h := condT h t38
                      refine k_seq ?_
                      obtain ⟨q39, hq39, h⟩ := bindSome h
                      refine k_cut1 [(0, .string a0), (3, .slice A3 r1.1.length k4), (6, .int .i64 x16), (7, .pointer (some ⟨b23, 0, none⟩)), (123, .bool q39)] (blk b23 (.cells #[.int .i64 x19.1, .string x19.2.1, .int .i64 x19.2.2.1, .int .i64 x19.2.2.2] 36 (0, 0)) :: h2 :: X) ?_ ?_
                      · clear hq39
                        refine k_cond (t := q39) (by kernel_rfl) (fun t40 => ?_) (fun t40 => ?_)
                        · have h := condT h t40
                          refine k_seq ?_
                          refine k_region ?_
                          refine kl_steps 1 [(2, .bool false)] (by kernel_rfl) ?_
                          refine k_nil ?_
                          refine k_then ?_
                          refine k_ret ?_
                          refine k_then_ret ?_
                          refine k_then_ret ?_
                          refine k_blk_ret ?_
                          refine k_then_ret ?_
                          refine k_then_ret ?_
                          refine k_blk_ret ?_
                          refine k_then_ret ?_
                          obtain rfl := Option.some.inj h
                          refine k_done (v := .bool false) [] [] [] (by kernel_rfl) (by kernel_rfl) trivial ?_
                          refine K.drop ?_
                          refine K.drop ?_
                          exact k_end ⟨rfl, rfl⟩
                        · have h := condF h t40
                          refine k_skip ?_
                          refine k_then ?_
                          refine k_region ?_
                          refine kl_steps 1 [(0, .string a0), (3, .slice A3 r1.1.length k4), (6, .int .i64 x16), (7, .pointer (some ⟨b23, 0, none⟩)), (124, .pointer (some ⟨b23, 3, none⟩))] (by kernel_rfl) ?_
                          refine kl_load (v := .int .i64 x19.2.2.2) [.val (.int .i64 x19.2.2.2)] [.ld ⟨b23, 3, none⟩ (.int .i64 x19.2.2.2)] (by kernel_rfl) (by kernel_rfl) (by kernel_rfl) ⟨⟨0, _, _, _, rfl, rfl, rfl⟩, trivial⟩ ?_
                          refine kl_steps 1 [(0, .string a0), (3, .slice A3 r1.1.length k4), (6, .int .i64 x16), (7, .pointer (some ⟨b23, 0, none⟩)), (125, .int .i64 x19.2.2.2), (126, .pointer (some ⟨b23, 1, none⟩))] (by kernel_rfl) ?_
                          refine kl_load (v := .string x19.2.1) [.val (.string x19.2.1)] [.ld ⟨b23, 1, none⟩ (.string x19.2.1)] (by kernel_rfl) (by kernel_rfl) (by kernel_rfl) ⟨⟨0, _, _, _, rfl, rfl, rfl⟩, trivial⟩ ?_
                          refine kl_steps 3 [(0, .string a0), (3, .slice A3 r1.1.length k4), (6, .int .i64 x16), (7, .pointer (some ⟨b23, 0, none⟩)), (5, .int .i64 (IntKind.i64.wrap (x19.2.2.2 + (x19.2.1.size : Int))))] (by kernel_rfl) ?_
                          refine k_nil ?_
                          refine k_then ?_
                          exact k_meet (IntKind.i64.wrap (x19.2.2.2 + (x19.2.1.size : Int))) h ⟨rfl, rfl, rfl, rfl, rfl, trivial⟩ rfl
                      · have h := hq39
                        clear hq39
                        refine k_region_plan [(0, 0), (1, 3), (2, 0), (3, 0), (4, 0), (5, 0), (6, 3), (7, 0), (8, 0), (9, 0), (10, 0), (11, 3), (12, 0), (13, 0), (14, 0), (15, 0), (16, 0), (17, 0), (18, 3), (19, 0), (20, 3), (21, 0), (22, 3), (23, 0), (24, 0), (25, 0), (26, 0), (27, 3)] (fun w => OnAll [blk b23 (.cells #[.int .i64 x19.1, .string x19.2.1, .int .i64 x19.2.2.1, .int .i64 x19.2.2.2] 36 (0, 0)), h2] w) (by kernel_rfl) (by kernel_rfl) (fun _ _ d _ _ h => by cases d <;> exact h) (fun w h_ => ⟨h_.sat.on _ (.head _), h_.sat.on _ (.tail _ (.head _)), trivial⟩) ?_
                        simp only [planOps, List.filterMap_cons, List.filterMap_nil, List.getElem?_toArray, List.getElem?_cons_zero, List.getElem?_cons_succ, Option.map_some, List.drop_succ_cons, List.drop_zero, List.length_cons, List.length_nil]
                        refine kp_steps 1 [(0, .string a0), (3, .slice A3 r1.1.length k4), (6, .int .i64 x16), (7, .pointer (some ⟨b23, 0, none⟩)), (94, .pointer (some ⟨b23, 1, none⟩))] (by kernel_rfl) (by kernel_rfl) ?_
                        refine kp_loadS (v := .string x19.2.1) [blk b23 (.cells #[.int .i64 x19.1, .string x19.2.1, .int .i64 x19.2.2.1, .int .i64 x19.2.2.2] 36 (0, 0)), h2] [.val (.string x19.2.1)] [.ld ⟨b23, 1, none⟩ (.string x19.2.1)] (by kernel_rfl) (by kernel_rfl) (by kernel_rfl) (fun _ h => h) ⟨⟨0, _, _, _, rfl, rfl, rfl⟩, trivial⟩ ?_
                        refine kp_steps 3 [(0, .string a0), (3, .slice A3 r1.1.length k4), (6, .int .i64 x16), (7, .pointer (some ⟨b23, 0, none⟩)), (98, .bool ((x19.2.1.size : Int) == (0 : Int)))] (by kernel_rfl) (by kernel_rfl) ?_
                        rcases Bool.eq_false_or_eq_true (((x19.2.1.size : Int) == (0 : Int))) with t41 | t41
                        · have h := condT h t41
                          refine K.weak (env' := [(0, .string a0), (3, .slice A3 r1.1.length k4), (6, .int .i64 x16), (7, .pointer (some ⟨b23, 0, none⟩)), (98, .bool true)]) ?_ ⟨rfl, rfl, rfl, rfl, congrArg (fun b => some (Value.bool b)) t41, trivial⟩
                          refine kp_steps 1 [(0, .string a0), (3, .slice A3 r1.1.length k4), (6, .int .i64 x16), (7, .pointer (some ⟨b23, 0, none⟩)), (98, .bool true), (99, undef)] (by kernel_rfl) (by kernel_rfl) ?_
                          refine kp_skip3 (by kernel_rfl) (by kernel_rfl) ?_
                          refine kp_steps 4 [(0, .string a0), (3, .slice A3 r1.1.length k4), (6, .int .i64 x16), (7, .pointer (some ⟨b23, 0, none⟩)), (98, .bool true), (101, undef), (103, undef), (104, undef)] (by kernel_rfl) (by kernel_rfl) ?_
                          refine kp_skip3 (by kernel_rfl) (by kernel_rfl) ?_
                          refine kp_steps 6 [(0, .string a0), (3, .slice A3 r1.1.length k4), (6, .int .i64 x16), (7, .pointer (some ⟨b23, 0, none⟩)), (109, .bool true), (110, undef), (111, undef)] (by kernel_rfl) (by kernel_rfl) ?_
                          refine kp_skip3 (by kernel_rfl) (by kernel_rfl) ?_
                          refine kp_steps 1 [(0, .string a0), (3, .slice A3 r1.1.length k4), (6, .int .i64 x16), (7, .pointer (some ⟨b23, 0, none⟩)), (109, .bool true), (110, undef), (112, undef), (113, undef)] (by kernel_rfl) (by kernel_rfl) ?_
                          refine kp_skip3 (by kernel_rfl) (by kernel_rfl) ?_
                          refine kp_steps 1 [(0, .string a0), (3, .slice A3 r1.1.length k4), (6, .int .i64 x16), (7, .pointer (some ⟨b23, 0, none⟩)), (109, .bool true), (110, undef), (112, undef), (114, undef), (115, undef)] (by kernel_rfl) (by kernel_rfl) ?_
                          refine kp_skip3 (by kernel_rfl) (by kernel_rfl) ?_
                          refine kp_steps 4 [(0, .string a0), (3, .slice A3 r1.1.length k4), (6, .int .i64 x16), (7, .pointer (some ⟨b23, 0, none⟩)), (109, .bool true), (119, undef), (120, undef)] (by kernel_rfl) (by kernel_rfl) ?_
                          refine kp_skip3 (by kernel_rfl) (by kernel_rfl) ?_
                          refine kp_done ?_
                          refine kl_steps 2 [(0, .string a0), (3, .slice A3 r1.1.length k4), (6, .int .i64 x16), (7, .pointer (some ⟨b23, 0, none⟩)), (123, .bool true)] (by kernel_rfl) ?_
                          refine k_nil ?_
                          refine k_then ?_
                          exact k_meet1 ⟨rfl, rfl, rfl, rfl, congrArg (fun b => some (Value.bool b)) (Option.some.inj h), trivial⟩
                        · have h := condF h t41
                          refine K.weak (env' := [(0, .string a0), (3, .slice A3 r1.1.length k4), (6, .int .i64 x16), (7, .pointer (some ⟨b23, 0, none⟩)), (98, .bool false)]) ?_ ⟨rfl, rfl, rfl, rfl, congrArg (fun b => some (Value.bool b)) t41, trivial⟩
                          refine kp_steps 1 [(0, .string a0), (3, .slice A3 r1.1.length k4), (6, .int .i64 x16), (7, .pointer (some ⟨b23, 0, none⟩)), (98, .bool false), (99, .pointer (some ⟨b23, 1, none⟩))] (by kernel_rfl) (by kernel_rfl) ?_
                          refine kp_loadS (v := .string x19.2.1) [blk b23 (.cells #[.int .i64 x19.1, .string x19.2.1, .int .i64 x19.2.2.1, .int .i64 x19.2.2.2] 36 (0, 0)), h2] [.val (.string x19.2.1)] [.ld ⟨b23, 1, none⟩ (.string x19.2.1)] (by kernel_rfl) (by kernel_rfl) (by kernel_rfl) (fun _ h => h) ⟨⟨0, _, _, _, rfl, rfl, rfl⟩, trivial⟩ ?_
                          refine kp_steps 4 [(0, .string a0), (3, .slice A3 r1.1.length k4), (6, .int .i64 x16), (7, .pointer (some ⟨b23, 0, none⟩)), (98, .bool false), (101, .int .i64 (x19.2.1.size : Int)), (103, .int .i64 (a0.size : Int)), (104, .pointer (some ⟨b23, 3, none⟩))] (by kernel_rfl) (by kernel_rfl) ?_
                          refine kp_loadS (v := .int .i64 x19.2.2.2) [blk b23 (.cells #[.int .i64 x19.1, .string x19.2.1, .int .i64 x19.2.2.1, .int .i64 x19.2.2.2] 36 (0, 0)), h2] [.val (.int .i64 x19.2.2.2)] [.ld ⟨b23, 3, none⟩ (.int .i64 x19.2.2.2)] (by kernel_rfl) (by kernel_rfl) (by kernel_rfl) (fun _ h => h) ⟨⟨0, _, _, _, rfl, rfl, rfl⟩, trivial⟩ ?_
                          refine kp_steps 4 [(0, .string a0), (3, .slice A3 r1.1.length k4), (6, .int .i64 x16), (7, .pointer (some ⟨b23, 0, none⟩)), (109, .bool (decide ((x19.2.1.size : Int) > (IntKind.i64.wrap ((a0.size : Int) - x19.2.2.2)))))] (by kernel_rfl) (by kernel_rfl) ?_
                          rcases Bool.eq_false_or_eq_true (decide ((x19.2.1.size : Int) > (IntKind.i64.wrap ((a0.size : Int) - x19.2.2.2)))) with t42 | t42
                          · have h := condT h t42
                            refine K.weak (env' := [(0, .string a0), (3, .slice A3 r1.1.length k4), (6, .int .i64 x16), (7, .pointer (some ⟨b23, 0, none⟩)), (109, .bool true)]) ?_ ⟨rfl, rfl, rfl, rfl, congrArg (fun b => some (Value.bool b)) t42, trivial⟩
                            refine kp_steps 2 [(0, .string a0), (3, .slice A3 r1.1.length k4), (6, .int .i64 x16), (7, .pointer (some ⟨b23, 0, none⟩)), (109, .bool true), (110, undef), (111, undef)] (by kernel_rfl) (by kernel_rfl) ?_
                            refine kp_skip3 (by kernel_rfl) (by kernel_rfl) ?_
                            refine kp_steps 1 [(0, .string a0), (3, .slice A3 r1.1.length k4), (6, .int .i64 x16), (7, .pointer (some ⟨b23, 0, none⟩)), (109, .bool true), (110, undef), (112, undef), (113, undef)] (by kernel_rfl) (by kernel_rfl) ?_
                            refine kp_skip3 (by kernel_rfl) (by kernel_rfl) ?_
                            refine kp_steps 1 [(0, .string a0), (3, .slice A3 r1.1.length k4), (6, .int .i64 x16), (7, .pointer (some ⟨b23, 0, none⟩)), (109, .bool true), (110, undef), (112, undef), (114, undef), (115, undef)] (by kernel_rfl) (by kernel_rfl) ?_
                            refine kp_skip3 (by kernel_rfl) (by kernel_rfl) ?_
                            refine kp_steps 4 [(0, .string a0), (3, .slice A3 r1.1.length k4), (6, .int .i64 x16), (7, .pointer (some ⟨b23, 0, none⟩)), (109, .bool true), (119, undef), (120, undef)] (by kernel_rfl) (by kernel_rfl) ?_
                            refine kp_skip3 (by kernel_rfl) (by kernel_rfl) ?_
                            refine kp_done ?_
                            refine kl_steps 2 [(0, .string a0), (3, .slice A3 r1.1.length k4), (6, .int .i64 x16), (7, .pointer (some ⟨b23, 0, none⟩)), (123, .bool true)] (by kernel_rfl) ?_
                            refine k_nil ?_
                            refine k_then ?_
                            exact k_meet1 ⟨rfl, rfl, rfl, rfl, congrArg (fun b => some (Value.bool b)) (Option.some.inj h), trivial⟩
                          · have h := condF h t42
                            refine K.weak (env' := [(0, .string a0), (3, .slice A3 r1.1.length k4), (6, .int .i64 x16), (7, .pointer (some ⟨b23, 0, none⟩)), (109, .bool false)]) ?_ ⟨rfl, rfl, rfl, rfl, congrArg (fun b => some (Value.bool b)) t42, trivial⟩
                            refine kp_steps 2 [(0, .string a0), (3, .slice A3 r1.1.length k4), (6, .int .i64 x16), (7, .pointer (some ⟨b23, 0, none⟩)), (109, .bool false), (110, .string a0), (111, .pointer (some ⟨b23, 3, none⟩))] (by kernel_rfl) (by kernel_rfl) ?_
                            refine kp_loadS (v := .int .i64 x19.2.2.2) [blk b23 (.cells #[.int .i64 x19.1, .string x19.2.1, .int .i64 x19.2.2.1, .int .i64 x19.2.2.2] 36 (0, 0)), h2] [.val (.int .i64 x19.2.2.2)] [.ld ⟨b23, 3, none⟩ (.int .i64 x19.2.2.2)] (by kernel_rfl) (by kernel_rfl) (by kernel_rfl) (fun _ h => h) ⟨⟨0, _, _, _, rfl, rfl, rfl⟩, trivial⟩ ?_
                            refine kp_steps 1 [(0, .string a0), (3, .slice A3 r1.1.length k4), (6, .int .i64 x16), (7, .pointer (some ⟨b23, 0, none⟩)), (109, .bool false), (110, .string a0), (112, .int .i64 x19.2.2.2), (113, .pointer (some ⟨b23, 3, none⟩))] (by kernel_rfl) (by kernel_rfl) ?_
                            refine kp_loadS (v := .int .i64 x19.2.2.2) [blk b23 (.cells #[.int .i64 x19.1, .string x19.2.1, .int .i64 x19.2.2.1, .int .i64 x19.2.2.2] 36 (0, 0)), h2] [.val (.int .i64 x19.2.2.2)] [.ld ⟨b23, 3, none⟩ (.int .i64 x19.2.2.2)] (by kernel_rfl) (by kernel_rfl) (by kernel_rfl) (fun _ h => h) ⟨⟨0, _, _, _, rfl, rfl, rfl⟩, trivial⟩ ?_
                            refine kp_steps 1 [(0, .string a0), (3, .slice A3 r1.1.length k4), (6, .int .i64 x16), (7, .pointer (some ⟨b23, 0, none⟩)), (109, .bool false), (110, .string a0), (112, .int .i64 x19.2.2.2), (114, .int .i64 x19.2.2.2), (115, .pointer (some ⟨b23, 1, none⟩))] (by kernel_rfl) (by kernel_rfl) ?_
                            refine kp_loadS (v := .string x19.2.1) [blk b23 (.cells #[.int .i64 x19.1, .string x19.2.1, .int .i64 x19.2.2.1, .int .i64 x19.2.2.2] 36 (0, 0)), h2] [.val (.string x19.2.1)] [.ld ⟨b23, 1, none⟩ (.string x19.2.1)] (by kernel_rfl) (by kernel_rfl) (by kernel_rfl) (fun _ h => h) ⟨⟨0, _, _, _, rfl, rfl, rfl⟩, trivial⟩ ?_
                            refine kp_steps 2 [(0, .string a0), (3, .slice A3 r1.1.length k4), (6, .int .i64 x16), (7, .pointer (some ⟨b23, 0, none⟩)), (109, .bool false), (110, .string a0), (112, .int .i64 x19.2.2.2), (118, .int .i64 (IntKind.i64.wrap (x19.2.2.2 + (x19.2.1.size : Int))))] (by kernel_rfl) (by kernel_rfl) ?_
                            obtain ⟨s43, hs43, h⟩ := bindSome h
                            refine kp_sstr x19.2.2.2 (IntKind.i64.wrap (x19.2.2.2 + (x19.2.1.size : Int))) rfl (by kernel_rfl) (by kernel_rfl) (by kernel_rfl) (.inr ⟨_, .i64, rfl, (by kernel_rfl)⟩) (.inr ⟨_, .i64, rfl, (by kernel_rfl)⟩) (by kernel_rfl) hs43 ?_
                            refine kp_steps 1 [(0, .string a0), (3, .slice A3 r1.1.length k4), (6, .int .i64 x16), (7, .pointer (some ⟨b23, 0, none⟩)), (109, .bool false), (119, .string s43), (120, .pointer (some ⟨b23, 1, none⟩))] (by kernel_rfl) (by kernel_rfl) ?_
                            refine kp_loadS (v := .string x19.2.1) [blk b23 (.cells #[.int .i64 x19.1, .string x19.2.1, .int .i64 x19.2.2.1, .int .i64 x19.2.2.2] 36 (0, 0)), h2] [.val (.string x19.2.1)] [.ld ⟨b23, 1, none⟩ (.string x19.2.1)] (by kernel_rfl) (by kernel_rfl) (by kernel_rfl) (fun _ h => h) ⟨⟨0, _, _, _, rfl, rfl, rfl⟩, trivial⟩ ?_
                            refine kp_done ?_
                            refine kl_steps 2 [(0, .string a0), (3, .slice A3 r1.1.length k4), (6, .int .i64 x16), (7, .pointer (some ⟨b23, 0, none⟩)), (123, .bool (!(s43.toList == x19.2.1.toList)))] (by kernel_rfl) ?_
                            refine k_nil ?_
                            refine k_then ?_
                            exact k_meet1 ⟨rfl, rfl, rfl, rfl, congrArg (fun b => some (Value.bool b)) (Option.some.inj h), trivial⟩
                    · have h := condF h t38
                      refine k_skip ?_
                      refine k_then ?_
                      exact k_meet (IntKind.i64.wrap (x19.2.2.2 + (1 : Int))) h ⟨rfl, rfl, rfl, rfl, rfl, trivial⟩ rfl
            · have h := hq24
              clear hq24
              refine k_region ?_
              refine kl_steps 1 [(0, .string a0), (3, .slice A3 r1.1.length k4), (5, .int .i64 x15), (6, .int .i64 x16), (7, .pointer (some ⟨b23, 0, none⟩)), (53, .pointer (some ⟨b23, 3, none⟩))] (by kernel_rfl) ?_
              refine kl_load (v := .int .i64 x19.2.2.2) [.val (.int .i64 x19.2.2.2)] [.ld ⟨b23, 3, none⟩ (.int .i64 x19.2.2.2)] (by kernel_rfl) (by kernel_rfl) (by kernel_rfl) ⟨⟨0, _, _, _, rfl, rfl, rfl⟩, trivial⟩ ?_
              refine kl_steps 3 [(0, .string a0), (3, .slice A3 r1.1.length k4), (6, .int .i64 x16), (7, .pointer (some ⟨b23, 0, none⟩)), (57, .bool (decide (x19.2.2.2 < x15)))] (by kernel_rfl) ?_
              rcases Bool.eq_false_or_eq_true (decide (x19.2.2.2 < x15)) with t44 | t44
              · have h := condT h t44
                refine K.weak (env' := [(0, .string a0), (3, .slice A3 r1.1.length k4), (6, .int .i64 x16), (7, .pointer (some ⟨b23, 0, none⟩)), (57, .bool true)]) ?_ ⟨rfl, rfl, rfl, rfl, congrArg (fun b => some (Value.bool b)) t44, trivial⟩
                refine kl_steps 17 [(0, .string a0), (3, .slice A3 r1.1.length k4), (6, .int .i64 x16), (7, .pointer (some ⟨b23, 0, none⟩)), (74, .bool true)] (by kernel_rfl) ?_
                refine k_nil ?_
                refine k_then ?_
                exact k_meet1 ⟨rfl, rfl, rfl, rfl, congrArg (fun b => some (Value.bool b)) (Option.some.inj h), trivial⟩
              · have h := condF h t44
                refine K.weak (env' := [(0, .string a0), (3, .slice A3 r1.1.length k4), (6, .int .i64 x16), (7, .pointer (some ⟨b23, 0, none⟩)), (57, .bool false)]) ?_ ⟨rfl, rfl, rfl, rfl, congrArg (fun b => some (Value.bool b)) t44, trivial⟩
                refine kl_steps 1 [(0, .string a0), (3, .slice A3 r1.1.length k4), (6, .int .i64 x16), (7, .pointer (some ⟨b23, 0, none⟩)), (57, .bool false), (58, .pointer (some ⟨b23, 3, none⟩))] (by kernel_rfl) ?_
                refine kl_load (v := .int .i64 x19.2.2.2) [.val (.int .i64 x19.2.2.2)] [.ld ⟨b23, 3, none⟩ (.int .i64 x19.2.2.2)] (by kernel_rfl) (by kernel_rfl) (by kernel_rfl) ⟨⟨0, _, _, _, rfl, rfl, rfl⟩, trivial⟩ ?_
                refine kl_steps 5 [(0, .string a0), (3, .slice A3 r1.1.length k4), (6, .int .i64 x16), (7, .pointer (some ⟨b23, 0, none⟩)), (64, .bool (decide (x19.2.2.2 > (a0.size : Int))))] (by kernel_rfl) ?_
                rcases Bool.eq_false_or_eq_true (decide (x19.2.2.2 > (a0.size : Int))) with t45 | t45
                · have h := condT h t45
                  refine K.weak (env' := [(0, .string a0), (3, .slice A3 r1.1.length k4), (6, .int .i64 x16), (7, .pointer (some ⟨b23, 0, none⟩)), (64, .bool true)]) ?_ ⟨rfl, rfl, rfl, rfl, congrArg (fun b => some (Value.bool b)) t45, trivial⟩
                  refine kl_steps 10 [(0, .string a0), (3, .slice A3 r1.1.length k4), (6, .int .i64 x16), (7, .pointer (some ⟨b23, 0, none⟩)), (74, .bool true)] (by kernel_rfl) ?_
                  refine k_nil ?_
                  refine k_then ?_
                  exact k_meet1 ⟨rfl, rfl, rfl, rfl, congrArg (fun b => some (Value.bool b)) (Option.some.inj h), trivial⟩
                · have h := condF h t45
                  refine K.weak (env' := [(0, .string a0), (3, .slice A3 r1.1.length k4), (6, .int .i64 x16), (7, .pointer (some ⟨b23, 0, none⟩)), (64, .bool false)]) ?_ ⟨rfl, rfl, rfl, rfl, congrArg (fun b => some (Value.bool b)) t45, trivial⟩
                  refine kl_steps 1 [(0, .string a0), (3, .slice A3 r1.1.length k4), (6, .int .i64 x16), (7, .pointer (some ⟨b23, 0, none⟩)), (64, .bool false), (65, .pointer (some ⟨b23, 0, none⟩))] (by kernel_rfl) ?_
                  refine kl_load (v := .int .i64 x19.1) [.val (.int .i64 x19.1)] [.ld ⟨b23, 0, none⟩ (.int .i64 x19.1)] (by kernel_rfl) (by kernel_rfl) (by kernel_rfl) ⟨⟨0, _, _, _, rfl, rfl, rfl⟩, trivial⟩ ?_
                  refine kl_steps 8 [(0, .string a0), (3, .slice A3 r1.1.length k4), (6, .int .i64 x16), (7, .pointer (some ⟨b23, 0, none⟩)), (74, .bool ((x19.1 == (6 : Int)) != (x16 == (IntKind.i64.wrap (((r1.1.length : Nat) : Int) - (1 : Int))))))] (by kernel_rfl) ?_
                  refine k_nil ?_
                  refine k_then ?_
                  exact k_meet1 ⟨rfl, rfl, rfl, rfl, congrArg (fun b => some (Value.bool b)) (Option.some.inj h), trivial⟩
          · have h := condF h t18
            refine k_exit ?_
            refine k_then_exit ?_
            refine k_then_exit ?_
            refine k_here ?_
            refine k_then ?_
            refine K.drop ?_
            exact k_meet () h trivial rfl
end Go.Proofs.YtadenjlehhopmaaDoor
