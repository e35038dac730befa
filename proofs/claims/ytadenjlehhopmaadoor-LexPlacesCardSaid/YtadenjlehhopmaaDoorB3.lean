/- 'escape': a code point. -/
import Derived.Test.YtadenjlehhopmaaDoorB2
namespace Go.Proofs.YtadenjlehhopmaaDoor
set_option linter.unusedSimpArgs false
set_option linter.unusedVariables false
open Go Go.RowKit Lx
theorem head_prefix (l : Bs) (c : UInt8) : [c].isPrefixOf l = decide (l.head? = some c) := by
  cases l with
  | nil => simp
  | cons b t =>
    show (c == b && ([] : Bs).isPrefixOf t) = decide (some b = some c)
    have : ([] : Bs).isPrefixOf t = true := by cases t <;> rfl
    rw [this, Bool.and_true]
    by_cases h : b = c
    · subst h; simp
    · simp [h]; exact fun e => h e.symm
theorem encode_size (r : Int) : (Utf8.encode r).size ≤ 4 := by
  unfold Utf8.encode
  simp only []
  generalize (if Utf8.valid r then r.toNat else Utf8.runeError) = c
  by_cases h1 : c < 128
  · rw [if_pos h1]; show 1 ≤ 4; omega
  · rw [if_neg h1]
    by_cases h2 : c < 2048
    · rw [if_pos h2]; show 2 ≤ 4; omega
    · rw [if_neg h2]
      by_cases h3 : c < 65536
      · rw [if_pos h3]; show 3 ≤ 4; omega
      · rw [if_neg h3]; show 4 ≤ 4; omega
section
variable (sb at_ i C bb : Nat) (src : ByteArray) (acc : Bs) (w : World)
set_option maxHeartbeats 1000000 in
set_option maxRecDepth 100000 in
theorem esc_u (t : Bs) (hb : sb < w.heap.size) (c0 : w.cell? ⟨sb, 0, none⟩ = some (.string src)) (hi : i + 1 ≤ src.size) (hs : src.size ≤ 1000000)
    (hl : (bs src).drop (i + 1) = 117 :: 123 :: t) (hB : Bd C bb acc w) (hacc : acc.length ≤ 1000000) (hC : C ≤ w.heap.size) :
    Calls Tryd.prog 66 #[.pointer (some ⟨sb, 0, none⟩), .pointer (some ⟨bb, 0, none⟩), .int .i64 i] w
      (EscEnd (if (hexG 8 t 0 0).2 = 0 ∨ Utf8.valid (hexG 8 t 0 0).1 = false ∨ (t.drop (hexG 8 t 0 0).2).head? ≠ some 125 then .unfit
        else .ok (bs (Utf8.encode (hexG 8 t 0 0).1)) (4 + (hexG 8 t 0 0).2)) at_ i C bb acc w) := by
  have h1 : (i : Int) + 1 ≤ src.size := by omega
  have h2 : ((i : Int) + 1).toNat = i + 1 := by omega
  have h3 : (i : Int) ≤ 1000000 := by omega
  have hR := bs_tail src (i + 1)
  rw [hl] at hR
  have HR0 := Lib.hid (at_zero _ _ _ hR)
  have he := nonempty_of _ _ _ hR
  have h0 := HR0.out.1
  have hc0 := HR0.out.2
  have hlen := congrArg List.length hl
  rw [List.length_drop, bs_length] at hlen
  simp only [List.length_cons] at hlen
  have hq : 0 < src.size - (i + 1) := by omega
  have hq2 : 2 ≤ src.size - (i + 1) := by omega
  have HP := Lib.hid (fun w => plain_zero 117 (by rfl) w)
  have hc1 : ((src.extract (i + 1) src.size)[0]'h0).toNat = 117 := by rw [hc0]; rfl
  clear hc0
  have hts : (src.extract (i + 1) src.size).size = src.size - (i + 1) := by rw [← bs_length, bs_tail, List.length_drop, bs_length]
  have hb2 : bs ((src.extract (i + 1) src.size).extract 2 (src.size - (i + 1))) = t := by
    rw [← hts, bs_tail, hR]; rfl
  have HPU := Lib.hid (fun w => prefix_any (src.extract (i + 1) src.size) [117, 123] w)
  rw [hR, show ([117, 123] : Bs).isPrefixOf (117 :: 123 :: t) = true by simp] at HPU
  have HH := Lib.hid (fun w => hex_any ((src.extract (i + 1) src.size).extract 2 (src.size - (i + 1))) 8 w (by omega) (by rw [← bs_length, hb2]; omega))
  rw [hb2] at HH
  have hle := hexG_le 8 t 0 0 (by omega)
  have hpw := pow16_le (show (hexG 8 t 0 0).2 ≤ 8 by omega)
  have hn1 : (hexG 8 t 0 0).1 ≤ 4294967296 := by omega
  have hk1 : (hexG 8 t 0 0).2 ≤ t.length := by omega
  have hk8 : (hexG 8 t 0 0).2 ≤ 8 := by omega
  have hb3 : bs ((src.extract (i + 1) src.size).extract (2 + (hexG 8 t 0 0).2) (src.size - (i + 1))) = t.drop (hexG 8 t 0 0).2 := by
    rw [← hts, bs_tail, hR, Nat.add_comm 2]; rfl
  have HPB := Lib.hid (fun w => prefix_any ((src.extract (i + 1) src.size).extract (2 + (hexG 8 t 0 0).2) (src.size - (i + 1))) [125] w)
  rw [hb3, head_prefix] at HPB
  clear hle hpw hb3 hb2
  generalize hexG 8 t 0 0 = G at *
  obtain ⟨N, K⟩ := G
  simp only at hn1 hk1 hk8 HPB HH ⊢
  have HE := Lib.hid (fun w => encode_any N w (by omega) (by omega))
  have HW := Lib.hid (fun w hB' hC' => wstring_any C bb acc (Utf8.encode N) w hB' (by omega) (by have := encode_size N; omega) hC')
  have HBD := Lib.hid hB
  have hkz1 : (K : Int) + 2 ≤ ((src.size - (i + 1) : Nat) : Int) := by omega
  have hkz8 : (K : Int) ≤ 8 := by omega
  clear hl hR hlen hB hk1 hts
  by_cases hK : K = 0
  · have hK' : ((K : Int) == 0) = true := by rw [beq_iff_eq]; omega
    rw [if_pos (.inl hK)]
    clear hK
    obtain ⟨T, E, HE⟩ : ∃ T E, Hid (∀ w, Calls Tryd.prog 82 #[.int .i64 N] w fun e w' => e = .returned (.tuple #[.string T, .int .i64 E]) ∧ w = w') := ⟨_, _, HE⟩
    go_enter Tryd.func66, Tryd.ntmps66
    go_wp2_with fail
    refine (HP.out _).mono ?_
    rintro e w' ⟨rfl, rfl⟩
    go_wp2_with fail
    refine (HPU.out _).mono ?_
    rintro e w' ⟨rfl, rfl⟩
    go_wp2_with fail
    refine (HH.out _).mono ?_
    rintro e w' ⟨rfl, rfl⟩
    go_wp2_with fail
    refine (HE.out _).mono ?_
    rintro e w' ⟨rfl, rfl⟩
    go_wp2_with fail
    refine (unfit_any _ _ _).mono ?_
    rintro e w' ⟨rfl, rfl⟩
    go_wp2_with fail
    exact ⟨rfl, rfl, by first | exact Below.refl _ _ | exact (Below.refl _ _).drew⟩
  · have hK' : ((K : Int) == 0) = false := by rw [beq_eq_false_iff_ne]; omega
    cases hv : Utf8.valid (N : Int) with
    | false =>
      rw [if_pos (.inr (.inl rfl))]
      rw [hv] at HE
      simp only [Bool.false_eq_true, if_false] at HE
      clear hv
      go_enter Tryd.func66, Tryd.ntmps66
      go_wp2_with fail
      refine (HP.out _).mono ?_
      rintro e w' ⟨rfl, rfl⟩
      go_wp2_with fail
      refine (HPU.out _).mono ?_
      rintro e w' ⟨rfl, rfl⟩
      go_wp2_with fail
      refine (HH.out _).mono ?_
      rintro e w' ⟨rfl, rfl⟩
      go_wp2_with fail
      refine (HE.out _).mono ?_
      rintro e w' ⟨rfl, rfl⟩
      go_wp2_with fail
      refine (unfit_any _ _ _).mono ?_
      rintro e w' ⟨rfl, rfl⟩
      go_wp2_with fail
      exact ⟨rfl, rfl, by first | exact Below.refl _ _ | exact (Below.refl _ _).drew⟩
    | true =>
      rw [hv] at HE
      simp only [if_true] at HE
      clear hv
      by_cases hd : (t.drop K).head? = some 125
      · rw [decide_eq_true hd] at HPB
        rw [if_neg (by rintro (h | h | h); exact hK h; cases h; exact h hd)]
        clear hd
        go_enter Tryd.func66, Tryd.ntmps66
        go_wp2_with fail
        refine (HP.out _).mono ?_
        rintro e w' ⟨rfl, rfl⟩
        go_wp2_with fail
        refine (HPU.out _).mono ?_
        rintro e w' ⟨rfl, rfl⟩
        go_wp2_with fail
        refine (HH.out _).mono ?_
        rintro e w' ⟨rfl, rfl⟩
        go_wp2_with fail
        refine (HE.out _).mono ?_
        rintro e w' ⟨rfl, rfl⟩
        go_wp2_with fail
        refine (HPB.out _).mono ?_
        rintro e w' ⟨rfl, rfl⟩
        go_wp2_with fail
        refine (HW.out _ HBD.out hC).mono ?_
        rintro e w' ⟨rfl, hb', hbel⟩
        go_wp2_with fail
        go_ret
        exact ⟨ret_int (by omega), hb', hbel⟩
      · rw [decide_eq_false hd] at HPB
        rw [if_pos (.inr (.inr hd))]
        clear hd
        go_enter Tryd.func66, Tryd.ntmps66
        go_wp2_with fail
        refine (HP.out _).mono ?_
        rintro e w' ⟨rfl, rfl⟩
        go_wp2_with fail
        refine (HPU.out _).mono ?_
        rintro e w' ⟨rfl, rfl⟩
        go_wp2_with fail
        refine (HH.out _).mono ?_
        rintro e w' ⟨rfl, rfl⟩
        go_wp2_with fail
        refine (HE.out _).mono ?_
        rintro e w' ⟨rfl, rfl⟩
        go_wp2_with fail
        refine (HPB.out _).mono ?_
        rintro e w' ⟨rfl, rfl⟩
        go_wp2_with fail
        refine (unfit_any _ _ _).mono ?_
        rintro e w' ⟨rfl, rfl⟩
        go_wp2_with fail
        exact ⟨rfl, rfl, by first | exact Below.refl _ _ | exact (Below.refl _ _).drew⟩
end
end Go.Proofs.YtadenjlehhopmaaDoor
