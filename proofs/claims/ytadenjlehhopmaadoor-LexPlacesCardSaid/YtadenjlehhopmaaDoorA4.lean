/- The sorts of runes that the scanner asks for; 'plain'. -/
import Derived.Test.YtadenjlehhopmaaDoorA3
import Derived.Test.YtadenjlehhopmaaDoorShelf
namespace Go.Proofs.YtadenjlehhopmaaDoor
set_option linter.unusedSimpArgs false
set_option linter.unusedVariables false
open Go Go.RowKit Lx
theorem vr_eq (r : Int) : Lib.validRune r = Utf8.valid r := by
  simp only [Lib.validRune, Utf8.valid]
  by_cases h : (0 ≤ r ∧ r < 55296) ∨ (57343 < r ∧ r ≤ 1114111)
  · rw [decide_eq_true h]; rcases h with h | h <;> simp <;> omega
  · rw [decide_eq_false h]; simp; omega
theorem valid_any (r : Int) (w : World) : Calls Tryd.prog 76 #[.int .i32 r] w fun e w' => e = .returned (.bool (Utf8.valid r)) ∧ w = w' :=
  (Tryd.utf8_ValidRune r w).mono fun _ _ ⟨h1, h2⟩ => ⟨by rw [h1, vr_eq], h2.symm⟩
theorem digit_any (r : Int) (w : World) : Calls Tryd.prog 64 #[.int .i64 r] w fun e w' => e = .returned (.bool (decide (48 ≤ r ∧ r ≤ 57))) ∧ w = w' := by
  by_cases h1 : 48 ≤ r
  · go_enter Tryd.func64, Tryd.ntmps64
    go_wp2
    go_ret
    exact ⟨by simp [h1], rfl⟩
  · go_enter Tryd.func64, Tryd.ntmps64
    go_wp2
    go_ret
    exact ⟨by simp; omega, rfl⟩
/-- 'Letter' on whole numbers. -/
def letterZ (r : Int) : Bool := decide (97 ≤ r ∧ r ≤ 122 ∨ 65 ≤ r ∧ r ≤ 90 ∨ r = 95 ∨ (128 ≤ r ∧ r ≤ 1114111 ∧ r ≠ 65533 ∧ Utf8.valid r = true))
theorem ret_bool {a b : Bool} (h : a = b) : Ending.returned (.bool a) = .returned (.bool b) := by rw [h]
set_option maxHeartbeats 1000000 in
theorem letter_any (r : Int) (w : World) (h0 : 0 ≤ r) (h1 : r ≤ 2147483647) : Calls Tryd.prog 60 #[.int .i64 r] w fun e w' => e = .returned (.bool (letterZ r)) ∧ w = w' := by
  have hw : IntKind.i32.wrap r = r := by unfold IntKind.wrap; simp [IntKind.bits, IntKind.signed]; omega
  obtain ⟨lz, hlz⟩ : ∃ x, letterZ r = x := ⟨_, rfl⟩
  rw [hlz]
  have HL := Lib.hid hlz
  clear hlz
  obtain ⟨v, hv⟩ : ∃ v, Utf8.valid r = v := ⟨_, rfl⟩
  have hva := valid_any r
  rw [hv] at hva
  have HV := Lib.hid hv
  have HVA := Lib.hid hva
  clear hv hva
  have HW := Lib.hid hw
  go_enter Tryd.func60, Tryd.ntmps60
  go_wp2_with ((go_at_call 76; refine (HVA.out _).mono ?_; rintro e w' ⟨rfl, rfl⟩))
  all_goals go_ret
  all_goals refine ⟨ret_bool ?_, rfl⟩
  all_goals have hl := HL.out
  all_goals have hv := HV.out
  all_goals clear HL HV HVA HW hw
  all_goals subst hl
  all_goals unfold letterZ
  all_goals simp only [hv]
  all_goals try simp only [beq_iff_eq, beq_eq_false_iff_ne, ne_eq] at *
  all_goals first
    | exact (decide_eq_true (by omega)).symm
    | exact (decide_eq_false (by omega)).symm
    | (cases v
       · rw [Bool.and_false]; exact (decide_eq_false (by simp; omega)).symm
       · rw [Bool.and_true]; by_cases h : r = 65533
         · subst h; rfl
         · rw [show (r != 65533) = true from bne_iff_ne.2 h]; exact (decide_eq_true (by simp; omega)).symm)
theorem letterZ_eq (r : Nat) : letterZ r = letterR r := by
  unfold letterZ letterR
  generalize Utf8.valid (r : Int) = v
  rw [Bool.eq_iff_iff]
  simp only [decide_eq_true_eq, Bool.or_eq_true, Bool.and_eq_true, beq_iff_eq, bne_iff_ne]
  constructor
  · rintro (h | h | h | ⟨h1, h2, h3, h4⟩)
    · exact .inl (.inl (.inl ⟨by omega, by omega⟩))
    · exact .inl (.inl (.inr ⟨by omega, by omega⟩))
    · exact .inl (.inr (by omega))
    · exact .inr ⟨⟨⟨by omega, by omega⟩, by omega⟩, h4⟩
  · rintro (((⟨h1, h2⟩ | ⟨h1, h2⟩) | h) | ⟨⟨⟨h1, h2⟩, h3⟩, h4⟩)
    · exact .inl ⟨by omega, by omega⟩
    · exact .inr (.inl ⟨by omega, by omega⟩)
    · exact .inr (.inr (.inl (by omega)))
    · exact .inr (.inr (.inr ⟨by omega, by omega, by omega, h4⟩))
theorem digitZ_eq (r : Nat) : decide (48 ≤ (r : Int) ∧ (r : Int) ≤ 57) = digitR r := by
  unfold digitR
  rw [Bool.eq_iff_iff]
  simp only [decide_eq_true_eq, Bool.and_eq_true]
  omega
theorem sort_letter : IsSort 43 letterR := by
  refine ⟨fun args w => enters_of Tryd.func43 (by kernel_rfl) rfl args w, fun r w hr => ?_⟩
  have hc := letter_any r
  rw [letterZ_eq] at hc
  have HC := Lib.hid hc
  clear hc
  have h1 : (0 : Int) ≤ r := by omega
  have h2 : (r : Int) ≤ 2147483647 := by omega
  go_enter Tryd.func43, Tryd.ntmps43
  go_wp2_with ((go_at_call 60; refine (HC.out _ h1 h2).mono ?_; rintro e w' ⟨rfl, rfl⟩))
  go_ret
  exact ⟨rfl, rfl⟩
theorem sort_digit : IsSort 45 digitR := by
  refine ⟨fun args w => enters_of Tryd.func45 (by kernel_rfl) rfl args w, fun r w hr => ?_⟩
  have hc := digit_any r
  rw [digitZ_eq] at hc
  have HC := Lib.hid hc
  clear hc
  have h2 : (r : Int) ≤ 2147483647 := by omega
  go_enter Tryd.func45, Tryd.ntmps45
  go_wp2_with ((go_at_call 64; refine (HC.out _).mono ?_; rintro e w' ⟨rfl, rfl⟩))
  go_ret
  exact ⟨rfl, rfl⟩
theorem sort_part : IsSort 61 partR := by
  refine ⟨fun args w => enters_of Tryd.func61 (by kernel_rfl) rfl args w, fun r w hr => ?_⟩
  have H1 := Lib.hid (fun w => sort_letter.2 r w hr)
  have H2 := Lib.hid (fun w => sort_digit.2 r w hr)
  obtain ⟨pr, hpr⟩ : ∃ x, partR r = x := ⟨_, rfl⟩
  have HP := Lib.hid hpr
  rw [hpr]
  clear hpr
  generalize hl : letterR r = lr at *
  generalize hd : digitR r = dr at *
  have HL := Lib.hid hl
  have HD := Lib.hid hd
  clear hl hd
  cases lr
  · go_enter Tryd.func61, Tryd.ntmps61
    go_wp2_with (first | ((go_at_call 43; refine (H1.out _).mono ?_; rintro e w' ⟨rfl, rfl⟩)) | ((go_at_call 45; refine (H2.out _).mono ?_; rintro e w' ⟨rfl, rfl⟩)))
    go_ret
    refine ⟨ret_bool ?_, rfl⟩
    rw [← HP.out, partR, HL.out, HD.out]; rfl
  · go_enter Tryd.func61, Tryd.ntmps61
    go_wp2_with (first | ((go_at_call 43; refine (H1.out _).mono ?_; rintro e w' ⟨rfl, rfl⟩)) | ((go_at_call 45; refine (H2.out _).mono ?_; rintro e w' ⟨rfl, rfl⟩)))
    go_ret
    refine ⟨ret_bool ?_, rfl⟩
    rw [← HP.out, partR, HL.out]; rfl
theorem sort_blank : IsSort 39 blankR := by
  refine ⟨fun args w => enters_of Tryd.func39 (by kernel_rfl) rfl args w, fun r w hr => ?_⟩
  obtain ⟨pr, hpr⟩ : ∃ x, blankR r = x := ⟨_, rfl⟩
  have HP := Lib.hid hpr
  rw [hpr]
  clear hpr
  go_enter Tryd.func39, Tryd.ntmps39
  go_wp2
  all_goals go_ret
  all_goals refine ⟨ret_bool ?_, rfl⟩
  all_goals rw [← HP.out]; clear HP
  all_goals unfold blankR
  all_goals rw [Bool.eq_iff_iff]
  all_goals simp only [Bool.or_eq_true, beq_iff_eq, beq_eq_false_iff_ne, Bool.true_eq_false, Bool.false_eq_true, true_iff, false_iff, not_or] at *
  all_goals omega
theorem sort_inLine : IsSort 42 inLineR := by
  refine ⟨fun args w => enters_of Tryd.func42 (by kernel_rfl) rfl args w, fun r w hr => ?_⟩
  obtain ⟨pr, hpr⟩ : ∃ x, inLineR r = x := ⟨_, rfl⟩
  have HP := Lib.hid hpr
  rw [hpr]
  clear hpr
  go_enter Tryd.func42, Tryd.ntmps42
  go_wp2
  go_ret
  refine ⟨ret_bool ?_, rfl⟩
  rw [← HP.out]
  unfold inLineR
  rw [Bool.eq_iff_iff]
  simp only [bne_iff_ne]
  omega
end Go.Proofs.YtadenjlehhopmaaDoor
