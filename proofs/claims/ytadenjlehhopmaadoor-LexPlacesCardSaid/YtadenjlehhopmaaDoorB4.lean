/- 'escape': decimal digits; all of it. -/
import Derived.Test.YtadenjlehhopmaaDoorB3
namespace Go.Proofs.YtadenjlehhopmaaDoor
set_option linter.unusedSimpArgs false
set_option linter.unusedVariables false
open Go Go.RowKit Lx
theorem decG_step (m : Nat) (b : UInt8) (t : Bs) (n k : Nat) : decG (m + 1) (b :: t) n k = if 48 ≤ b.toNat ∧ b.toNat ≤ 57 then decG m t (10 * n + (b.toNat - 48)) (k + 1) else (n, k) := rfl
def decEsc (r : Nat × Nat) : Esc := if r.2 = 0 ∨ r.1 > 255 then .unfit else .ok [UInt8.ofNat r.1] (1 + r.2)
section
variable (sb at_ i C bb : Nat) (src : ByteArray) (acc : Bs) (w : World)
set_option maxHeartbeats 4000000 in
set_option maxRecDepth 100000 in
theorem esc_dec (c : UInt8) (t : Bs) (hb : sb < w.heap.size) (c0 : w.cell? ⟨sb, 0, none⟩ = some (.string src)) (hi : i + 1 ≤ src.size) (hs : src.size ≤ 1000000)
    (hl : (bs src).drop (i + 1) = c :: t) (hp0 : plainB c = 0) (hx : c ≠ 120) (hu : ¬ (c = 117 ∧ t.head? = some 123)) (hB : Bd C bb acc w) (hacc : acc.length ≤ 1000000) (hC : C ≤ w.heap.size) :
    Calls Tryd.prog 66 #[.pointer (some ⟨sb, 0, none⟩), .pointer (some ⟨bb, 0, none⟩), .int .i64 i] w
      (EscEnd (decEsc (decG 3 (c :: t) 0 0)) at_ i C bb acc w) := by
  have h1 : (i : Int) + 1 ≤ src.size := by omega
  have h2 : ((i : Int) + 1).toNat = i + 1 := by omega
  have h3 : (i : Int) ≤ 1000000 := by omega
  have hR := bs_tail src (i + 1)
  rw [hl] at hR
  have HR0 := Lib.hid (at_zero _ _ _ hR)
  have he := nonempty_of _ _ _ hR
  have h0 := HR0.out.1
  have hc0 := HR0.out.2
  have hlen := congrArg List.length hl
  rw [List.length_drop, bs_length] at hlen
  simp only [List.length_cons] at hlen
  have hq : 0 < src.size - (i + 1) := by omega
  have HP := Lib.hid (fun w => plain_zero c hp0 w)
  have hx1 : ((c.toNat : Int) == 120) = false := by
    rw [beq_eq_false_iff_ne]; intro h; exact hx (by apply UInt8.toNat_inj.1; rw [show (120 : UInt8).toNat = 120 from rfl]; omega)
  have HPU := Lib.hid (fun w => prefix_any (src.extract (i + 1) src.size) [117, 123] w)
  have hpf : ([117, 123] : Bs).isPrefixOf (c :: t) = false := by
    rw [Bool.eq_false_iff]
    intro h
    rw [List.isPrefixOf_iff_prefix] at h
    obtain ⟨r, hr⟩ := h
    simp only [List.cons_append, List.nil_append, List.cons.injEq] at hr
    exact hu ⟨hr.1.symm, by rw [← hr.2]; rfl⟩
  rw [hR, hpf] at HPU
  have hts : (src.extract (i + 1) src.size).size = src.size - (i + 1) := by rw [← bs_length, bs_tail, List.length_drop, bs_length]
  obtain ⟨R9, hR9⟩ : ∃ R9, decG 3 (c :: t) 0 0 = R9 := ⟨_, rfl⟩
  rw [hR9]
  have HR9 := Lib.hid hR9
  have HRR := Lib.hid hR
  have HBD := Lib.hid hB
  have HTS := Lib.hid hts
  clear hl hR hlen hB hR9 hpf hp0 hx hts hu
  go_enter Tryd.func66, Tryd.ntmps66
  go_wp2_with fail
  refine (HP.out _).mono ?_
  rintro e w' ⟨rfl, rfl⟩
  go_wp2_with fail
  refine (HPU.out _).mono ?_
  rintro e w' ⟨rfl, rfl⟩
  go_wp2_with fail
  have HSB := Lib.hid (show (src.extract (i + 1) src.size).size ≤ 1000000 by rw [HTS.out]; omega)
  clear he h0 hc0 hq hx1 HR0 HP HPU HTS h1 h2 c0 hb
  generalize src.extract (i + 1) src.size = R at *
  have hsb := HSB.out
  go_loop [14, 15] (fun n k => ∃ N K : Nat, K ≤ 3 ∧ K ≤ R.size ∧ N < 10 ^ K ∧ n = .int .i64 N ∧ k = .int .i64 K ∧ Hid (decG (3 - K) ((bs R).drop K) N K = R9)) (fun _ k => 3 - (intOf k).toNat)
  case atStart => exact ⟨0, 0, by omega, by omega, by simp, rfl, rfl, by unfold Hid; rw [HRR.out]; exact HR9.out⟩
  case round =>
    obtain ⟨N, K, hK, hKs, hN, rfl, rfl, hG⟩ := hrel
    have hN2 : N < 1000 := by have := Nat.pow_le_pow_right (n := 10) (by omega) hK; omega
    have HN := Lib.hid hN
    clear hN
    by_cases hlt : K < 3
    · by_cases hls : K < R.size
      · have hdg := fun w => sort_digit.2 (R[K]).toNat w (by have := (R[K]).toNat_lt; omega)
        obtain ⟨D, hD⟩ : ∃ D, digitR (R[K]).toNat = D := ⟨_, rfl⟩
        rw [hD] at hdg
        have HDG := Lib.hid hdg
        have HD := Lib.hid hD
        clear hdg hD
        have hblt := (R[K]).toNat_lt
        have hbw : wrap32 ((R[K]).toNat : Int) = (R[K]).toNat := by unfold wrap32; omega
        have hkz1 : (K : Int) < 3 := by omega
        have hkz2 : (K : Int) < R.size := by omega
        cases D with
        | true =>
          have hdig : 48 ≤ (R[K]).toNat ∧ (R[K]).toNat ≤ 57 := by have := HD.out; simpa [digitR] using this
          have hd1 : (48 : Int) ≤ (R[K]).toNat := by omega
          have hd2 : ((R[K]).toNat : Int) ≤ 57 := by omega
          have hbw2 : IntKind.u8.wrap (((R[K]).toNat : Int) - 48) = (R[K]).toNat - 48 := by unfold IntKind.wrap; simp [IntKind.bits, IntKind.signed]; omega
          clear hdig
          go_wp2_with fail
          refine (HDG.out _).mono ?_
          rintro e w' ⟨rfl, rfl⟩
          go_wp2_with fail
          go_round
          case rel =>
            have hN' := HN.out
            refine ⟨10 * N + ((R[K]).toNat - 48), K + 1, by omega, by omega, by rw [Nat.pow_succ]; omega, ?_, by go_num, ?_⟩
            · congr 1; omega
            · have h := hG
              unfold Hid at h ⊢
              rw [show 3 - K = (3 - (K + 1)) + 1 by omega, drop_at R K hls, decG_step, if_pos ⟨by omega, by omega⟩] at h
              exact h
          case measure => simp [intOf]; omega
        | false =>
          have hdig : ¬ (48 ≤ (R[K]).toNat ∧ (R[K]).toNat ≤ 57) := by have := HD.out; simpa [digitR] using this
          have hres : (N, K) = R9 := by
            have h := hG
            unfold Hid at h
            rw [show 3 - K = (3 - K - 1) + 1 by omega, drop_at R K hls, decG_step, if_neg hdig] at h
            exact h
          clear hdig hblt
          have hcv := fun w => byte_conv N (by omega) w
          have HW := Lib.hid (wbyte_any C bb acc (UInt8.ofNat N) w HBD.out hacc hC)
          by_cases hk0 : K = 0
          · have hkz : ((K : Int) == 0) = true := by rw [beq_iff_eq]; omega
            have hd : decEsc R9 = .unfit := by rw [← hres]; exact if_pos (.inl hk0)
            have HDD := Lib.hid hd
            clear hd hk0 hres
            go_wp2_with fail
            refine (HDG.out _).mono ?_
            rintro e w' ⟨rfl, rfl⟩
            go_wp2_with fail
            skip
            refine (unfit_any _ _ _).mono ?_
            rintro e w' ⟨rfl, rfl⟩
            go_wp2_with fail
            refine ⟨rfl, ?_⟩
            rw [HDD.out]
            exact ⟨rfl, by first | exact Below.refl _ _ | exact (Below.refl _ _).drew⟩
          · have hkz : ((K : Int) == 0) = false := by rw [beq_eq_false_iff_ne]; omega
            by_cases hn5 : N > 255
            · have hnz : (255 : Int) < N := by omega
              have hd : decEsc R9 = .unfit := by rw [← hres]; exact if_pos (.inr hn5)
              have HDD := Lib.hid hd
              clear hd hk0 hres hn5
              go_wp2_with fail
              refine (HDG.out _).mono ?_
              rintro e w' ⟨rfl, rfl⟩
              go_wp2_with fail
              skip
              refine (unfit_any _ _ _).mono ?_
              rintro e w' ⟨rfl, rfl⟩
              go_wp2_with fail
              refine ⟨rfl, ?_⟩
              rw [HDD.out]
              exact ⟨rfl, by first | exact Below.refl _ _ | exact (Below.refl _ _).drew⟩
            · have hnz : ¬ (255 : Int) < N := by omega
              have hd : decEsc R9 = .ok [UInt8.ofNat N] (1 + K) := by rw [← hres]; exact if_neg (by simp only; omega)
              have HDD := Lib.hid hd
              clear hd hk0 hres hn5
              generalize UInt8.ofNat N = U at *
              go_wp2_with fail
              refine (HDG.out _).mono ?_
              rintro e w' ⟨rfl, rfl⟩
              go_wp2_with fail
              skip
              refine HW.out.mono ?_
              rintro e w' ⟨rfl, hb', hbel⟩
              go_wp2_with fail
              go_ret
              rw [HDD.out]
              exact ⟨ret_int (by omega), hb', hbel⟩
      · have hkz2 : ¬ (K : Int) < R.size := by omega
        have hres : (N, K) = R9 := by
          have h := hG
          unfold Hid at h
          rw [show 3 - K = (3 - K - 1) + 1 by omega, List.drop_of_length_le (by rw [bs_length]; omega)] at h
          exact h
        have hcv := fun w => byte_conv N (by omega) w
        have HW := Lib.hid (wbyte_any C bb acc (UInt8.ofNat N) w HBD.out hacc hC)
        by_cases hk0 : K = 0
        · have hkz : ((K : Int) == 0) = true := by rw [beq_iff_eq]; omega
          have hd : decEsc R9 = .unfit := by rw [← hres]; exact if_pos (.inl hk0)
          have HDD := Lib.hid hd
          clear hd hk0 hres
          skip
          go_wp2_with fail
          skip
          refine (unfit_any _ _ _).mono ?_
          rintro e w' ⟨rfl, rfl⟩
          go_wp2_with fail
          refine ⟨rfl, ?_⟩
          rw [HDD.out]
          exact ⟨rfl, by first | exact Below.refl _ _ | exact (Below.refl _ _).drew⟩
        · have hkz : ((K : Int) == 0) = false := by rw [beq_eq_false_iff_ne]; omega
          by_cases hn5 : N > 255
          · have hnz : (255 : Int) < N := by omega
            have hd : decEsc R9 = .unfit := by rw [← hres]; exact if_pos (.inr hn5)
            have HDD := Lib.hid hd
            clear hd hk0 hres hn5
            skip
            go_wp2_with fail
            skip
            refine (unfit_any _ _ _).mono ?_
            rintro e w' ⟨rfl, rfl⟩
            go_wp2_with fail
            refine ⟨rfl, ?_⟩
            rw [HDD.out]
            exact ⟨rfl, by first | exact Below.refl _ _ | exact (Below.refl _ _).drew⟩
          · have hnz : ¬ (255 : Int) < N := by omega
            have hd : decEsc R9 = .ok [UInt8.ofNat N] (1 + K) := by rw [← hres]; exact if_neg (by simp only; omega)
            have HDD := Lib.hid hd
            clear hd hk0 hres hn5
            generalize UInt8.ofNat N = U at *
            skip
            go_wp2_with fail
            skip
            refine HW.out.mono ?_
            rintro e w' ⟨rfl, hb', hbel⟩
            go_wp2_with fail
            go_ret
            rw [HDD.out]
            exact ⟨ret_int (by omega), hb', hbel⟩
    · have hkz1 : ¬ (K : Int) < 3 := by omega
      have hres : (N, K) = R9 := by
        have h := hG
        unfold Hid at h
        rw [show 3 - K = 0 by omega] at h
        exact h
      have hcv := fun w => byte_conv N (by omega) w
      have HW := Lib.hid (wbyte_any C bb acc (UInt8.ofNat N) w HBD.out hacc hC)
      by_cases hk0 : K = 0
      · have hkz : ((K : Int) == 0) = true := by rw [beq_iff_eq]; omega
        have hd : decEsc R9 = .unfit := by rw [← hres]; exact if_pos (.inl hk0)
        have HDD := Lib.hid hd
        clear hd hk0 hres
        skip
        go_wp2_with fail
        skip
        refine (unfit_any _ _ _).mono ?_
        rintro e w' ⟨rfl, rfl⟩
        go_wp2_with fail
        refine ⟨rfl, ?_⟩
        rw [HDD.out]
        exact ⟨rfl, by first | exact Below.refl _ _ | exact (Below.refl _ _).drew⟩
      · have hkz : ((K : Int) == 0) = false := by rw [beq_eq_false_iff_ne]; omega
        by_cases hn5 : N > 255
        · have hnz : (255 : Int) < N := by omega
          have hd : decEsc R9 = .unfit := by rw [← hres]; exact if_pos (.inr hn5)
          have HDD := Lib.hid hd
          clear hd hk0 hres hn5
          skip
          go_wp2_with fail
          skip
          refine (unfit_any _ _ _).mono ?_
          rintro e w' ⟨rfl, rfl⟩
          go_wp2_with fail
          refine ⟨rfl, ?_⟩
          rw [HDD.out]
          exact ⟨rfl, by first | exact Below.refl _ _ | exact (Below.refl _ _).drew⟩
        · have hnz : ¬ (255 : Int) < N := by omega
          have hd : decEsc R9 = .ok [UInt8.ofNat N] (1 + K) := by rw [← hres]; exact if_neg (by simp only; omega)
          have HDD := Lib.hid hd
          clear hd hk0 hres hn5
          generalize UInt8.ofNat N = U at *
          skip
          go_wp2_with fail
          skip
          refine HW.out.mono ?_
          rintro e w' ⟨rfl, hb', hbel⟩
          go_wp2_with fail
          go_ret
          rw [HDD.out]
          exact ⟨ret_int (by omega), hb', hbel⟩
theorem escF_cons (c : UInt8) (t : Bs) : escF (c :: t) =
    if plainB c ≠ 0 then .ok [plainB c] 2
    else if c = 120 then
      if (hexG 2 t 0 0).2 < 2 then .unfit else .ok [UInt8.ofNat (hexG 2 t 0 0).1] 4
    else if c = 117 ∧ t.head? = some 123 then
      if (hexG 8 t.tail 0 0).2 = 0 ∨ Utf8.valid (hexG 8 t.tail 0 0).1 = false ∨ (t.tail.drop (hexG 8 t.tail 0 0).2).head? ≠ some 125 then .unfit
      else .ok (bs (Utf8.encode (hexG 8 t.tail 0 0).1)) (4 + (hexG 8 t.tail 0 0).2)
    else if (decG 3 (c :: t) 0 0).2 = 0 ∨ (decG 3 (c :: t) 0 0).1 > 255 then .unfit
    else .ok [UInt8.ofNat (decG 3 (c :: t) 0 0).1] (1 + (decG 3 (c :: t) 0 0).2) := rfl
theorem esc_any (hb : sb < w.heap.size) (c0 : w.cell? ⟨sb, 0, none⟩ = some (.string src)) (c1 : w.cell? ⟨sb, 1, none⟩ = some (.int .i64 at_)) (hi : i + 1 ≤ src.size) (hs : src.size ≤ 1000000)
    (hB : Bd C bb acc w) (hacc : acc.length ≤ 1000000) (hC : C ≤ w.heap.size) :
    Calls Tryd.prog 66 #[.pointer (some ⟨sb, 0, none⟩), .pointer (some ⟨bb, 0, none⟩), .int .i64 i] w
      (EscEnd (escF ((bs src).drop (i + 1))) at_ i C bb acc w) := by
  cases hl : (bs src).drop (i + 1) with
  | nil =>
    have := congrArg List.length hl
    rw [List.length_drop, bs_length] at this
    simp at this
    exact esc_ended sb at_ i C bb src acc w hb c0 c1 (by omega) hs
  | cons c t =>
    rw [escF_cons]
    by_cases hp : plainB c ≠ 0
    · rw [if_pos hp]
      exact esc_plain sb at_ i C bb src acc w c t hb c0 hi hs hl hp hB hacc hC
    · rw [if_neg hp]
      have hp0 : plainB c = 0 := Classical.not_not.1 hp
      by_cases hx : c = 120
      · rw [if_pos hx]
        subst hx
        exact esc_x sb at_ i C bb src acc w t hb c0 hi hs hl hB hacc hC
      · rw [if_neg hx]
        by_cases hu : c = 117 ∧ t.head? = some 123
        · rw [if_pos hu]
          obtain ⟨rfl, ht⟩ := hu
          cases t with
          | nil => cases ht
          | cons d t =>
            simp only [List.head?_cons, Option.some.injEq] at ht
            subst ht
            exact esc_u sb at_ i C bb src acc w t hb c0 hi hs hl hB hacc hC
        · rw [if_neg hu]
          exact esc_dec sb at_ i C bb src acc w c t hb c0 hi hs hl hp0 hx hu hB hacc hC
end
end Go.Proofs.YtadenjlehhopmaaDoor
