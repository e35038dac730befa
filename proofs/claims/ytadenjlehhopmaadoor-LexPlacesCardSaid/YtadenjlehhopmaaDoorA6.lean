/- Numerals: 'digit', 'size'. -/
import Derived.Test.YtadenjlehhopmaaDoorA5
import Derived.Laws.MathBits
namespace Go.Proofs.YtadenjlehhopmaaDoor
set_option linter.unusedSimpArgs false
set_option linter.unusedVariables false
open Go Go.RowKit Lx
def digI (r : Nat) : Int := match digR r with | some d => d | none => -1
theorem digI_cases (r : Nat) : digI r = if 48 ≤ r ∧ r ≤ 57 then (r : Int) - 48 else if 97 ≤ r ∧ r ≤ 102 then (r : Int) - 87 else if 65 ≤ r ∧ r ≤ 70 then (r : Int) - 55 else -1 := by
  unfold digI digR
  (repeat' split) <;> simp_all <;> omega
set_option maxHeartbeats 1000000 in
theorem wdigit_any (r : Nat) (w : World) (hr : r ≤ 1114111) : Calls Tryd.prog 101 #[.int .i32 r] w fun e w' => e = .returned (.int .i64 (digI r)) ∧ w = w' := by
  obtain ⟨x, hx⟩ : ∃ x, digI r = x := ⟨_, rfl⟩
  rw [hx]
  rw [digI_cases] at hx
  have HX := Lib.hid hx
  clear hx
  have hr' : (r : Int) ≤ 1114111 := by omega
  go_enter Tryd.func101, Tryd.ntmps101
  go_wp2
  all_goals go_ret
  all_goals refine ⟨ret_int ?_, rfl⟩
  all_goals rw [← HX.out]; clear HX
  all_goals (repeat' split)
  all_goals (first | omega | (unfold wrap32 wrap64; omega) | (exfalso; omega) | (simp_all; omega))
theorem sizeG_fuel (hex : Bool) : ∀ (f g n : Nat) (l : Bs), l.length ≤ f → l.length ≤ g → sizeG hex f n l = sizeG hex g n l
  | 0, 0, _, _, _, _ => rfl
  | 0, g + 1, n, l, h, _ => by
    have : l = [] := List.eq_nil_of_length_eq_zero (by omega)
    subst this; rfl
  | f + 1, 0, n, l, _, h => by
    have : l = [] := List.eq_nil_of_length_eq_zero (by omega)
    subst this; rfl
  | f + 1, g + 1, n, [], _, _ => rfl
  | f + 1, g + 1, n, b :: t, h, h' => by
    simp only [sizeG]
    have hw := (decL_width (b :: t)).1
    split
    · rfl
    · split
      · rfl
      · exact sizeG_fuel hex f g _ _ (by rw [List.length_drop]; simp only [List.length_cons] at *; omega) (by rw [List.length_drop]; simp only [List.length_cons] at *; omega)
theorem sizeL_step (hex : Bool) (n : Nat) (l : Bs) (h : l ≠ []) : sizeL hex n l =
    match digR (decL l).1 with
    | none => none
    | some d => if d > 9 && !hex then none else
        sizeL hex (if hex then (n * 16 + d) % 18446744073709551616 else min (10 * n + d) 18446744073709551615) (l.drop (decL l).2) := by
  cases l with
  | nil => exact absurd rfl h
  | cons b t =>
    have hw := (decL_width (b :: t)).1
    unfold sizeL
    simp only [List.length_cons, sizeG]
    cases hd : digR (decL (b :: t)).1 with
    | none => rfl
    | some d =>
      simp only []
      split
      · rfl
      · rw [sizeG_fuel hex t.length ((b :: t).drop (decL (b :: t)).2).length _ ((b :: t).drop (decL (b :: t)).2) (by rw [List.length_drop]; simp only [List.length_cons]; omega) (Nat.le_refl _)]
theorem sizeL_nil (hex : Bool) (n : Nat) : sizeL hex n [] = some n := rfl
theorem or_low (N d : Nat) (hd : d < 16) : bits .or .u64 (IntKind.u64.wrap ((N : Int) * 16)) (d : Int) = (((N * 16 + d) % 18446744073709551616 : Nat) : Int) := by
  have hw : IntKind.u64.wrap ((N : Int) * 16) = ((2 ^ 4 * (N % 1152921504606846976) : Nat) : Int) := by
    unfold IntKind.wrap
    simp [IntKind.bits, IntKind.signed]
    omega
  rw [hw, bits_or_u64_nat _ _ (by omega) (by omega), ← Nat.two_pow_add_eq_or_of_lt (by omega : d < 2 ^ 4)]
  congr 1
  omega
theorem add64_run (x y : Int) (w : World) (hx : 0 ≤ x) (hy : 0 ≤ y) : (callFunc 102 #[.int .u64 x, .int .u64 y, .int .u64 0]).run Tryd.prog w =
    .ok (.value (.tuple #[.int .u64 ((x + y) % 18446744073709551616), .int .u64 ((x + y) / 18446744073709551616)])) w := by
  rw [run_callFunc_extern Tryd.func102 (by kernel_rfl) (by kernel_rfl) (by kernel_rfl) (e := add64Entry) (by kernel_rfl), run_add64 x y 0 hx hy (by omega) (by omega)]
  simp [Result.andThen]
theorem mul10_any (N : Nat) (hN : N < 18446744073709551616) (w : World) : Calls Tryd.prog 74 #[.int .u64 N, .int .u64 10] w fun e w' =>
    e = .returned (.tuple #[.int .u64 ((N * 10 / 18446744073709551616 : Nat)), .int .u64 ((N * 10 % 18446744073709551616 : Nat))]) ∧ w = w' :=
  (Tryd.bits_Mul64 N 10 hN (by omega) w).mono fun _ _ ⟨h1, h2⟩ => ⟨h1, h2.symm⟩
theorem dec_step (N d hi lo sm cy : Nat) (hN : N < 18446744073709551616) (hd : d < 16) (hhi : N * 10 / 18446744073709551616 = hi) (hlo : N * 10 % 18446744073709551616 = lo)
    (hsm : (lo + d) % 18446744073709551616 = sm) (hcy : (lo + d) / 18446744073709551616 = cy) :
    (hi + cy = 0 → sm = 10 * N + d ∧ N ≤ sm ∧ sm < 18446744073709551616) ∧ (hi + cy ≠ 0 → 18446744073709551616 ≤ 10 * N + d) ∧ hi ≤ 9 ∧ cy ≤ 1 := by
  omega
/-- What a numeral's reader gives up with. -/
abbrev badEnd (c : Int) : Ending := .panicked [{ v := .iface 114 (.agg #[.int .i64 c]), recovered := false }]
/-- What 'size' comes to. -/
def SizeEnd (r : Option Nat) (hex : Bool) (w : World) (e : Ending) (w' : World) : Prop :=
  (match r with | none => e = badEnd 4 | some u => e = .returned (.tuple #[.int .u64 u, .bool hex])) ∧ Below w.heap.size w w'
set_option maxHeartbeats 1000000 in
theorem size_hex (s A1 : ByteArray) (w : World) (hs : s.size ≤ 1000000) (hsz : A1.size ≤ 1000000) (hne : bs A1 ≠ [])
    (hc : ∀ w, Calls Tryd.prog 100 #[.string s, .string ⟨#[48, 120]⟩] w fun e w' => e = .returned (.tuple #[.string A1, .bool true]) ∧ w = w') :
    Calls Tryd.prog 89 #[.string s] w (SizeEnd (sizeL true 0 (bs A1)) true w) := by
  have HC := Lib.hid hc
  clear hc
  have HNE := Lib.hid hne
  have he : A1.toList.isEmpty = false := by
    rw [Lib.toList_data]; cases h : A1.data.toList with
    | nil => exact absurd h hne
    | cons _ _ => rfl
  clear hne
  go_enter Tryd.func89, Tryd.ntmps89
  go_wp2_with ((go_at_call 100; refine (HC.out _).mono ?_; rintro e w' ⟨rfl, rfl⟩))
  have Hsz := Lib.hid hsz
  generalize hM : A1.size = M at *
  have HM := Lib.hid hM
  clear hM
  go_loopw [2] (fun n wr => ∃ pos N : Nat, pos ≤ M ∧ Hid (N < 18446744073709551616) ∧ n = .int .u64 N ∧ Hid (sizeL true 0 (bs A1) = sizeL true N ((bs A1).drop pos)) ∧ wr = w.iter A1 pos) (fun _ wr => M - wr.iterPos w.heap.size)
  case atStart => exact ⟨0, 0, Nat.zero_le _, by unfold Hid; omega, rfl, by unfold Hid; simp, rfl⟩
  case round =>
    obtain ⟨pos, N, hpos, hN, rfl, hG, rfl⟩ := hrel
    by_cases hlt : pos < M
    · have hnext := run_next_any (P := Tryd.prog) w A1 pos
      have hd := decL_le ((bs A1).drop pos)
      have hnx : ∀ ty, (Instr.next (.pointer (some ⟨w.heap.size, 0, none⟩)) true ty).run Tryd.prog (w.iter A1 pos) = .ok (.tuple #[.bool true, .int .i64 pos, .int .i32 (decL ((bs A1).drop pos)).1]) (w.iter A1 (pos + (decL ((bs A1).drop pos)).2)) := fun ty => by
        have := hnext ty (by rw [HM.out]; exact hlt)
        rw [decode_eq A1 pos] at this
        exact this
      clear hnext
      have hne : (bs A1).drop pos ≠ [] := fun h => by
        have := congrArg List.length h
        rw [List.length_drop, bs_length, HM.out] at this
        simp at this; omega
      have HS := Lib.hid (sizeL_step true N ((bs A1).drop pos) hne)
      have HW := Lib.hid (decL_width ((bs A1).drop pos))
      have HLL := Lib.hid (show ((bs A1).drop pos).length = M - pos by rw [List.length_drop, bs_length, HM.out])
      have HNE2 := Lib.hid hne
      clear hne
      generalize hr : (decL ((bs A1).drop pos)).1 = r at *
      generalize hk : (decL ((bs A1).drop pos)).2 = k at *
      have HR := Lib.hid hr
      have HK := Lib.hid hk
      clear hr hk
      have HDG := Lib.hid (fun w => wdigit_any r w hd)
      go_wp2_with fail
      refine (HDG.out _).mono ?_
      rintro e w' ⟨rfl, rfl⟩
      cases hdg : digR r with
      | none =>
        have hD : digI r = -1 := by unfold digI; rw [hdg]
        rw [hD]
        clear hD
        have HDN := Lib.hid hdg
        clear hdg
        go_wp2_with fail
        refine ⟨rfl, ?_⟩
        have hres : sizeL true 0 (bs A1) = none := by rw [hG.out, HS.out, HDN.out]
        rw [hres]
        exact ⟨rfl, (Below.refl _ w).alloc (Nat.le_refl _) _⟩
      | some d =>
        have hD : digI r = d := by unfold digI; rw [hdg]
        have hd16 : d < 16 := by unfold digR at hdg; revert hdg; (repeat' split) <;> intro h <;> (try cases h) <;> omega
        rw [hD]
        clear hD
        have HDN := Lib.hid hdg
        clear hdg
        have hdz : (d : Int) < 16 := by omega
        go_wp2_with fail
        all_goals
          go_roundw
          case rel =>
            have hN' := hN.out
            refine ⟨pos + k, (N * 16 + d) % 18446744073709551616, ?_, ?_, ?_, ?_, rfl⟩
            · have := HW.out.2.2 HNE2.out; rw [HLL.out] at this; omega
            · unfold Hid; omega
            · rw [or_low N d hd16]
            · unfold Hid
              rw [hG.out, HS.out, HDN.out, List.drop_drop]
              simp
          case measure =>
            have hk1 := HW.out.1
            have e : ∀ q, (w.iter A1 q).iterPos w.heap.size = q := fun q => World.iterPos_iter w A1 q
            simp only [e]
            omega
    · have hnx := fun ty => run_next_end (P := Tryd.prog) w A1 pos ty (by rw [HM.out]; exact hlt)
      have hnx' : ∀ ty, (Instr.next (.pointer (some ⟨w.heap.size, 0, none⟩)) true ty).run Tryd.prog (w.iter A1 pos) = .ok (.tuple #[.bool false]) (w.iter A1 pos) := hnx
      clear hnx
      go_wp2_with fail
      go_ret2
      have hres : sizeL true 0 (bs A1) = some N := by
        rw [hG.out, List.drop_of_length_le (by rw [bs_length, HM.out]; omega), sizeL_nil]
      rw [hres]
      exact ⟨rfl, (Below.refl _ w).alloc (Nat.le_refl _) _⟩
set_option maxHeartbeats 1000000 in
theorem size_hex2 (s A0 A1 : ByteArray) (w : World) (hs : s.size ≤ 1000000) (hsz : A1.size ≤ 1000000) (hne : bs A1 ≠ [])
    (hc0 : ∀ w, Calls Tryd.prog 100 #[.string s, .string ⟨#[48, 120]⟩] w fun e w' => e = .returned (.tuple #[.string A0, .bool false]) ∧ w = w')
    (hc : ∀ w, Calls Tryd.prog 100 #[.string s, .string ⟨#[48, 88]⟩] w fun e w' => e = .returned (.tuple #[.string A1, .bool true]) ∧ w = w') :
    Calls Tryd.prog 89 #[.string s] w (SizeEnd (sizeL true 0 (bs A1)) true w) := by
  have HC := Lib.hid hc
  have HC0 := Lib.hid hc0
  clear hc hc0
  have HNE := Lib.hid hne
  have he : A1.toList.isEmpty = false := by
    rw [Lib.toList_data]; cases h : A1.data.toList with
    | nil => exact absurd h hne
    | cons _ _ => rfl
  clear hne
  go_enter Tryd.func89, Tryd.ntmps89
  go_wp2_with fail
  refine (HC0.out _).mono ?_
  rintro e w' ⟨rfl, rfl⟩
  go_wp2_with fail
  refine (HC.out _).mono ?_
  rintro e w' ⟨rfl, rfl⟩
  go_wp2_with fail
  have Hsz := Lib.hid hsz
  generalize hM : A1.size = M at *
  have HM := Lib.hid hM
  clear hM
  go_loopw [2] (fun n wr => ∃ pos N : Nat, pos ≤ M ∧ Hid (N < 18446744073709551616) ∧ n = .int .u64 N ∧ Hid (sizeL true 0 (bs A1) = sizeL true N ((bs A1).drop pos)) ∧ wr = w.iter A1 pos) (fun _ wr => M - wr.iterPos w.heap.size)
  case atStart => exact ⟨0, 0, Nat.zero_le _, by unfold Hid; omega, rfl, by unfold Hid; simp, rfl⟩
  case round =>
    obtain ⟨pos, N, hpos, hN, rfl, hG, rfl⟩ := hrel
    by_cases hlt : pos < M
    · have hnext := run_next_any (P := Tryd.prog) w A1 pos
      have hd := decL_le ((bs A1).drop pos)
      have hnx : ∀ ty, (Instr.next (.pointer (some ⟨w.heap.size, 0, none⟩)) true ty).run Tryd.prog (w.iter A1 pos) = .ok (.tuple #[.bool true, .int .i64 pos, .int .i32 (decL ((bs A1).drop pos)).1]) (w.iter A1 (pos + (decL ((bs A1).drop pos)).2)) := fun ty => by
        have := hnext ty (by rw [HM.out]; exact hlt)
        rw [decode_eq A1 pos] at this
        exact this
      clear hnext
      have hne : (bs A1).drop pos ≠ [] := fun h => by
        have := congrArg List.length h
        rw [List.length_drop, bs_length, HM.out] at this
        simp at this; omega
      have HS := Lib.hid (sizeL_step true N ((bs A1).drop pos) hne)
      have HW := Lib.hid (decL_width ((bs A1).drop pos))
      have HLL := Lib.hid (show ((bs A1).drop pos).length = M - pos by rw [List.length_drop, bs_length, HM.out])
      have HNE2 := Lib.hid hne
      clear hne
      generalize hr : (decL ((bs A1).drop pos)).1 = r at *
      generalize hk : (decL ((bs A1).drop pos)).2 = k at *
      have HR := Lib.hid hr
      have HK := Lib.hid hk
      clear hr hk
      have HDG := Lib.hid (fun w => wdigit_any r w hd)
      go_wp2_with fail
      refine (HDG.out _).mono ?_
      rintro e w' ⟨rfl, rfl⟩
      cases hdg : digR r with
      | none =>
        have hD : digI r = -1 := by unfold digI; rw [hdg]
        rw [hD]
        clear hD
        have HDN := Lib.hid hdg
        clear hdg
        go_wp2_with fail
        refine ⟨rfl, ?_⟩
        have hres : sizeL true 0 (bs A1) = none := by rw [hG.out, HS.out, HDN.out]
        rw [hres]
        exact ⟨rfl, (Below.refl _ w).alloc (Nat.le_refl _) _⟩
      | some d =>
        have hD : digI r = d := by unfold digI; rw [hdg]
        have hd16 : d < 16 := by unfold digR at hdg; revert hdg; (repeat' split) <;> intro h <;> (try cases h) <;> omega
        rw [hD]
        clear hD
        have HDN := Lib.hid hdg
        clear hdg
        have hdz : (d : Int) < 16 := by omega
        go_wp2_with fail
        all_goals
          go_roundw
          case rel =>
            have hN' := hN.out
            refine ⟨pos + k, (N * 16 + d) % 18446744073709551616, ?_, ?_, ?_, ?_, rfl⟩
            · have := HW.out.2.2 HNE2.out; rw [HLL.out] at this; omega
            · unfold Hid; omega
            · rw [or_low N d hd16]
            · unfold Hid
              rw [hG.out, HS.out, HDN.out, List.drop_drop]
              simp
          case measure =>
            have hk1 := HW.out.1
            have e : ∀ q, (w.iter A1 q).iterPos w.heap.size = q := fun q => World.iterPos_iter w A1 q
            simp only [e]
            omega
    · have hnx := fun ty => run_next_end (P := Tryd.prog) w A1 pos ty (by rw [HM.out]; exact hlt)
      have hnx' : ∀ ty, (Instr.next (.pointer (some ⟨w.heap.size, 0, none⟩)) true ty).run Tryd.prog (w.iter A1 pos) = .ok (.tuple #[.bool false]) (w.iter A1 pos) := hnx
      clear hnx
      go_wp2_with fail
      go_ret2
      have hres : sizeL true 0 (bs A1) = some N := by
        rw [hG.out, List.drop_of_length_le (by rw [bs_length, HM.out]; omega), sizeL_nil]
      rw [hres]
      exact ⟨rfl, (Below.refl _ w).alloc (Nat.le_refl _) _⟩
end Go.Proofs.YtadenjlehhopmaaDoor
