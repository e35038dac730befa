/- Numerals: 'size' at a decimal one; an empty one; all of it. -/
import Derived.Test.YtadenjlehhopmaaDoorA6
namespace Go.Proofs.YtadenjlehhopmaaDoor
set_option linter.unusedSimpArgs false
set_option linter.unusedVariables false
open Go Go.RowKit Lx
set_option maxHeartbeats 1000000 in
theorem size_dec (s A0 A1 : ByteArray) (w : World) (hs : s.size ≤ 1000000) (hsz : A1.size ≤ 1000000) (hne : bs A1 ≠ [])
    (hc0 : ∀ w, Calls Tryd.prog 100 #[.string s, .string ⟨#[48, 120]⟩] w fun e w' => e = .returned (.tuple #[.string A0, .bool false]) ∧ w = w')
    (hc : ∀ w, Calls Tryd.prog 100 #[.string s, .string ⟨#[48, 88]⟩] w fun e w' => e = .returned (.tuple #[.string A1, .bool false]) ∧ w = w') :
    Calls Tryd.prog 89 #[.string s] w (SizeEnd (sizeL false 0 (bs A1)) false w) := by
  have HC := Lib.hid hc
  have HC0 := Lib.hid hc0
  clear hc hc0
  have HNE := Lib.hid hne
  have he : A1.toList.isEmpty = false := by
    rw [Lib.toList_data]; cases h : A1.data.toList with
    | nil => exact absurd h hne
    | cons _ _ => rfl
  clear hne
  go_enter Tryd.func89, Tryd.ntmps89
  go_wp2_with fail
  refine (HC0.out _).mono ?_
  rintro e w' ⟨rfl, rfl⟩
  go_wp2_with fail
  refine (HC.out _).mono ?_
  rintro e w' ⟨rfl, rfl⟩
  go_wp2_with fail
  have Hsz := Lib.hid hsz
  generalize hM : A1.size = M at *
  have HM := Lib.hid hM
  clear hM
  go_loopw [2] (fun n wr => ∃ pos N : Nat, pos ≤ M ∧ Hid (N < 18446744073709551616) ∧ n = .int .u64 N ∧ Hid (sizeL false 0 (bs A1) = sizeL false N ((bs A1).drop pos)) ∧ wr = w.iter A1 pos) (fun _ wr => M - wr.iterPos w.heap.size)
  case atStart => exact ⟨0, 0, Nat.zero_le _, by unfold Hid; omega, rfl, by unfold Hid; simp, rfl⟩
  case round =>
    obtain ⟨pos, N, hpos, hN, rfl, hG, rfl⟩ := hrel
    by_cases hlt : pos < M
    · have hnext := run_next_any (P := Tryd.prog) w A1 pos
      have hd := decL_le ((bs A1).drop pos)
      have hnx : ∀ ty, (Instr.next (.pointer (some ⟨w.heap.size, 0, none⟩)) true ty).run Tryd.prog (w.iter A1 pos) = .ok (.tuple #[.bool true, .int .i64 pos, .int .i32 (decL ((bs A1).drop pos)).1]) (w.iter A1 (pos + (decL ((bs A1).drop pos)).2)) := fun ty => by
        have := hnext ty (by rw [HM.out]; exact hlt)
        rw [decode_eq A1 pos] at this
        exact this
      clear hnext
      have hne : (bs A1).drop pos ≠ [] := fun h => by
        have := congrArg List.length h
        rw [List.length_drop, bs_length, HM.out] at this
        simp at this; omega
      have HS := Lib.hid (sizeL_step false N ((bs A1).drop pos) hne)
      have HW := Lib.hid (decL_width ((bs A1).drop pos))
      have HLL := Lib.hid (show ((bs A1).drop pos).length = M - pos by rw [List.length_drop, bs_length, HM.out])
      have HNE2 := Lib.hid hne
      clear hne
      generalize hr : (decL ((bs A1).drop pos)).1 = r at *
      generalize hk : (decL ((bs A1).drop pos)).2 = k at *
      have HR := Lib.hid hr
      have HK := Lib.hid hk
      clear hr hk
      have HDG := Lib.hid (fun w => wdigit_any r w hd)
      go_wp2_with fail
      refine (HDG.out _).mono ?_
      rintro e w' ⟨rfl, rfl⟩
      cases hdg : digR r with
      | none =>
        have hD : digI r = -1 := by unfold digI; rw [hdg]
        rw [hD]
        clear hD
        have HDN := Lib.hid hdg
        clear hdg
        go_wp2_with fail
        refine ⟨rfl, ?_⟩
        have hres : sizeL false 0 (bs A1) = none := by rw [hG.out, HS.out, HDN.out]
        rw [hres]
        exact ⟨rfl, (Below.refl _ w).alloc (Nat.le_refl _) _⟩
      | some d =>
        have hD : digI r = d := by unfold digI; rw [hdg]
        have hd16 : d < 16 := by unfold digR at hdg; revert hdg; (repeat' split) <;> intro h <;> (try cases h) <;> omega
        rw [hD]
        clear hD
        have HDN := Lib.hid hdg
        clear hdg
        have hdz : (d : Int) < 16 := by omega
        by_cases h9 : d ≤ 9
        · have h9z : (d : Int) ≤ 9 := by omega
          have H9 := Lib.hid h9
          clear h9
          have HM64 := Lib.hid (mul10_any N hN.out)
          have hdw : IntKind.u64.wrap (d : Int) = d := by unfold IntKind.wrap; simp [IntKind.bits, IntKind.signed]; omega
          obtain ⟨hi, hhi⟩ : ∃ hi, N * 10 / 18446744073709551616 = hi := ⟨_, rfl⟩
          obtain ⟨lo, hlo⟩ : ∃ lo, N * 10 % 18446744073709551616 = lo := ⟨_, rfl⟩
          rw [hhi, hlo] at HM64
          obtain ⟨sm, hsm⟩ : ∃ sm, (lo + d) % 18446744073709551616 = sm := ⟨_, rfl⟩
          obtain ⟨cy, hcy⟩ : ∃ cy, (lo + d) / 18446744073709551616 = cy := ⟨_, rfl⟩
          have hadd : ∀ w, (callFunc 102 #[.int .u64 lo, .int .u64 d, .int .u64 0]).run Tryd.prog w = .ok (.value (.tuple #[.int .u64 sm, .int .u64 cy])) w := fun w => by
            rw [add64_run lo d w (by omega) (by omega), ← hsm, ← hcy]
            rfl
          have hNN := hN.out
          have HARI := Lib.hid (dec_step N d hi lo sm cy hNN hd16 hhi hlo hsm hcy)
          have hz1 : (hi : Int) ≤ 9 := by have := HARI.out.2.2.1; omega
          have hz2 : (cy : Int) ≤ 1 := by have := HARI.out.2.2.2; omega
          have hz0 : (0 : Int) ≤ hi := by omega
          have hz3 : (0 : Int) ≤ cy := by omega
          clear hhi hlo hsm hcy hNN
          go_wp2_with fail
          refine (HM64.out _).mono ?_
          rintro e w1 ⟨rfl, rfl⟩
          go_wp2_with fail
          · go_roundw
            case rel =>
              have hc : hi + cy ≠ 0 := by
                have h : ((hi : Int) + cy != 0) = true := by assumption
                rw [bne_iff_ne] at h; omega
              have ha := HARI.out.2.1 hc
              have hN' := hN.out
              refine ⟨pos + k, 18446744073709551615, ?_, ?_, ?_, ?_, rfl⟩
              · have := HW.out.2.2 HNE2.out; rw [HLL.out] at this; omega
              · unfold Hid; omega
              · congr 1; omega
              · unfold Hid
                rw [hG.out, HS.out, HDN.out, List.drop_drop]
                have h9' : (decide (d > 9) && !false) = false := by simp; exact H9.out
                simp only [h9', Bool.false_eq_true, if_false]
                rw [Nat.min_eq_right (by omega)]
            case measure =>
              have hk1 := HW.out.1
              have e : ∀ q, (w.iter A1 q).iterPos w.heap.size = q := fun q => World.iterPos_iter w A1 q
              simp only [e]
              omega
          · go_roundw
            case rel =>
              have hc : hi + cy = 0 := by
                have h : ((hi : Int) + cy != 0) = false := by assumption
                simp at h; omega
              have ha := HARI.out.1 hc
              have hN' := hN.out
              refine ⟨pos + k, sm, ?_, ?_, ?_, ?_, rfl⟩
              · have := HW.out.2.2 HNE2.out; rw [HLL.out] at this; omega
              · unfold Hid; omega
              · congr 1; omega
              · unfold Hid
                rw [hG.out, HS.out, HDN.out, List.drop_drop]
                have h9' : (decide (d > 9) && !false) = false := by simp; exact H9.out
                simp only [h9', Bool.false_eq_true, if_false]
                rw [Nat.min_eq_left (by omega), ← ha.1]
            case measure =>
              have hk1 := HW.out.1
              have e : ∀ q, (w.iter A1 q).iterPos w.heap.size = q := fun q => World.iterPos_iter w A1 q
              simp only [e]
              omega
        · have h9z : (9 : Int) < d := by omega
          have H9 := Lib.hid h9
          clear h9
          go_wp2_with fail
          refine ⟨rfl, ?_⟩
          have hres : sizeL false 0 (bs A1) = none := by
            rw [hG.out, HS.out, HDN.out]
            have h9' : (decide (d > 9) && !false) = true := by simp; have := H9.out; omega
            simp only [h9', if_true]
          rw [hres]
          exact ⟨rfl, (Below.refl _ w).alloc (Nat.le_refl _) _⟩
    · have hnx := fun ty => run_next_end (P := Tryd.prog) w A1 pos ty (by rw [HM.out]; exact hlt)
      have hnx' : ∀ ty, (Instr.next (.pointer (some ⟨w.heap.size, 0, none⟩)) true ty).run Tryd.prog (w.iter A1 pos) = .ok (.tuple #[.bool false]) (w.iter A1 pos) := hnx
      clear hnx
      go_wp2_with fail
      go_ret2
      have hres : sizeL false 0 (bs A1) = some N := by
        rw [hG.out, List.drop_of_length_le (by rw [bs_length, HM.out]; omega), sizeL_nil]
      rw [hres]
      exact ⟨rfl, (Below.refl _ w).alloc (Nat.le_refl _) _⟩
end Go.Proofs.YtadenjlehhopmaaDoor
