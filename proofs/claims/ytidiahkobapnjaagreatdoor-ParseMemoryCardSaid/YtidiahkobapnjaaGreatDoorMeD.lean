/- Texts of mine for parseMemory_card, part 4. -/
import Derived.Lib.IndexMore
import Derived.Defers
import Derived.Test.YtidiahkobapnjaaGreatDoorMeC
set_option linter.unusedSimpArgs false
set_option linter.unusedVariables false
set_option linter.unusedSectionVars false
namespace Go.Proofs.YtidiahkobapnjaaGreatDoor
open Go Go.RowKit Lx
theorem decG_step (m : Nat) (b : UInt8) (t : Bs) (n k : Nat) : decG (m + 1) (b :: t) n k = if 48 ≤ b.toNat ∧ b.toNat ≤ 57 then decG m t (10 * n + (b.toNat - 48)) (k + 1) else (n, k) := rfl
def decEsc (r : Nat × Nat) : Esc := if r.2 = 0 ∨ r.1 > 255 then .unfit else .ok [UInt8.ofNat r.1] (1 + r.2)
section
variable (sb at_ i C bb : Nat) (src : ByteArray) (acc : Bs) (w : World)
set_option maxHeartbeats 4000000 in
set_option maxRecDepth 100000 in
theorem esc_dec (c : UInt8) (t : Bs) (hb : sb < w.heap.size) (c0 : w.cell? ⟨sb, 0, none⟩ = some (.string src)) (hi : i + 1 ≤ src.size) (hs : src.size ≤ 1000000)
  (hl : (bs src).drop (i + 1) = c :: t) (hp0 : plainB c = 0) (hx : c ≠ 120) (hu : ¬ (c = 117 ∧ t.head? = some 123)) (hB : Bd C bb acc w) (hacc : acc.length ≤ 1000000) (hC : C ≤ w.heap.size) :
  Calls Tryz.prog 85 #[.pointer (some ⟨sb, 0, none⟩), .pointer (some ⟨bb, 0, none⟩), .int .i64 i] w
   (EscEnd (decEsc (decG 3 (c :: t) 0 0)) at_ i C bb acc w) := by
 have h1 : (i : Int) + 1 ≤ src.size := by omega
 have h2 : ((i : Int) + 1).toNat = i + 1 := by omega
 have h3 : (i : Int) ≤ 1000000 := by omega
 have hR := bs_tail src (i + 1)
 rw [hl] at hR
 have HR0 := Lib.hid (at_zero _ _ _ hR)
 have he := nonempty_of _ _ _ hR
 have h0 := HR0.out.1
 have hc0 := HR0.out.2
 have hlen := congrArg List.length hl
 rw [List.length_drop, bs_length] at hlen
 simp only [List.length_cons] at hlen
 have hq : 0 < src.size - (i + 1) := by omega
 have HP := Lib.hid (fun w => plain_zero c hp0 w)
 have hx1 : ((c.toNat : Int) == 120) = false := by
  rw [beq_eq_false_iff_ne]; intro h; exact hx (by apply UInt8.toNat_inj.1; rw [show (120 : UInt8).toNat = 120 from rfl]; omega)
 have HPU := Lib.hid (fun w => prefix_any (src.extract (i + 1) src.size) [117, 123] w)
 have hpf : ([117, 123] : Bs).isPrefixOf (c :: t) = false := by
  rw [Bool.eq_false_iff]
  intro h
  rw [List.isPrefixOf_iff_prefix] at h
  obtain ⟨r, hr⟩ := h
  simp only [List.cons_append, List.nil_append, List.cons.injEq] at hr
  exact hu ⟨hr.1.symm, by rw [← hr.2]; rfl⟩
 rw [hR, hpf] at HPU
 have hts : (src.extract (i + 1) src.size).size = src.size - (i + 1) := by rw [← bs_length, bs_tail, List.length_drop, bs_length]
 obtain ⟨R9, hR9⟩ : ∃ R9, decG 3 (c :: t) 0 0 = R9 := ⟨_, rfl⟩
 rw [hR9]
 have HR9 := Lib.hid hR9
 have HRR := Lib.hid hR
 have HBD := Lib.hid hB
 have HTS := Lib.hid hts
 clear hl hR hlen hB hR9 hpf hp0 hx hts hu
 go_enter Tryz.func85, Tryz.ntmps85
 go_wp2_with fail
 refine (HP.out _).mono ?_
 rintro e w' ⟨rfl, rfl⟩
 go_wp2_with fail
 refine (HPU.out _).mono ?_
 rintro e w' ⟨rfl, rfl⟩
 go_wp2_with fail
 have HSB := Lib.hid (show (src.extract (i + 1) src.size).size ≤ 1000000 by rw [HTS.out]; omega)
 clear he h0 hc0 hq hx1 HR0 HP HPU HTS h1 h2 c0 hb
 generalize src.extract (i + 1) src.size = R at *
 have hsb := HSB.out
 go_loop [14, 15] (fun n k => ∃ N K : Nat, K ≤ 3 ∧ K ≤ R.size ∧ N < 10 ^ K ∧ n = .int .i64 N ∧ k = .int .i64 K ∧ Hid (decG (3 - K) ((bs R).drop K) N K = R9)) (fun _ k => 3 - (intOf k).toNat)
 case atStart => exact ⟨0, 0, by omega, by omega, by simp, rfl, rfl, by unfold Hid; rw [HRR.out]; exact HR9.out⟩
 case round =>
  obtain ⟨N, K, hK, hKs, hN, rfl, rfl, hG⟩ := hrel
  have hN2 : N < 1000 := by have := Nat.pow_le_pow_right (n := 10) (by omega) hK; omega
  have HN := Lib.hid hN
  clear hN
  by_cases hlt : K < 3
  ·by_cases hls : K < R.size
   ·have hdg := fun w => sort_digit.2 (R[K]).toNat w (by have := (R[K]).toNat_lt; omega)
    obtain ⟨D, hD⟩ : ∃ D, digitR (R[K]).toNat = D := ⟨_, rfl⟩
    rw [hD] at hdg
    have HDG := Lib.hid hdg
    have HD := Lib.hid hD
    clear hdg hD
    have hblt := (R[K]).toNat_lt
    have hbw : wrap32 ((R[K]).toNat : Int) = (R[K]).toNat := by unfold wrap32; omega
    have hkz1 : (K : Int) < 3 := by omega
    have hkz2 : (K : Int) < R.size := by omega
    cases D with
    | true =>
     have hdig : 48 ≤ (R[K]).toNat ∧ (R[K]).toNat ≤ 57 := by have := HD.out; simpa [digitR] using this
     have hd1 : (48 : Int) ≤ (R[K]).toNat := by omega
     have hd2 : ((R[K]).toNat : Int) ≤ 57 := by omega
     have hbw2 : IntKind.u8.wrap (((R[K]).toNat : Int) - 48) = (R[K]).toNat - 48 := by unfold IntKind.wrap; simp [IntKind.bits, IntKind.signed]; omega
     clear hdig
     go_wp2_with fail
     refine (HDG.out _).mono ?_
     rintro e w' ⟨rfl, rfl⟩
     go_wp2_with fail
     go_round
     case rel =>
      have hN' := HN.out
      refine ⟨10 * N + ((R[K]).toNat - 48), K + 1, by omega, by omega, by rw [Nat.pow_succ]; omega, ?_, by go_num, ?_⟩
      ·congr 1; omega
      ·have h := hG
       unfold Hid at h ⊢
       rw [show 3 - K = (3 - (K + 1)) + 1 by omega, drop_at R K hls, decG_step, if_pos ⟨by omega, by omega⟩] at h
       exact h
     case measure => simp [intOf]; omega
    | false =>
     have hdig : ¬ (48 ≤ (R[K]).toNat ∧ (R[K]).toNat ≤ 57) := by have := HD.out; simpa [digitR] using this
     have hres : (N, K) = R9 := by
      have h := hG
      unfold Hid at h
      rw [show 3 - K = (3 - K - 1) + 1 by omega, drop_at R K hls, decG_step, if_neg hdig] at h
      exact h
     clear hdig hblt
     have hcv := fun w => byte_conv N (by omega) w
     have HW := Lib.hid (wbyte_any C bb acc (UInt8.ofNat N) w HBD.out hacc hC)
     by_cases hk0 : K = 0
     ·have hkz : ((K : Int) == 0) = true := by rw [beq_iff_eq]; omega
      have hd : decEsc R9 = .unfit := by rw [← hres]; exact if_pos (.inl hk0)
      have HDD := Lib.hid hd
      clear hd hk0 hres
      go_wp2_with fail
      refine (HDG.out _).mono ?_
      rintro e w' ⟨rfl, rfl⟩
      go_wp2_with fail
      skip
      refine (unfit_any _ _ _).mono ?_
      rintro e w' ⟨rfl, rfl⟩
      go_wp2_with fail
      refine ⟨rfl, ?_⟩
      rw [HDD.out]
      exact ⟨rfl, by first | exact Below.refl _ _ | exact (Below.refl _ _).drew⟩
     ·have hkz : ((K : Int) == 0) = false := by rw [beq_eq_false_iff_ne]; omega
      by_cases hn5 : N > 255
      ·have hnz : (255 : Int) < N := by omega
       have hd : decEsc R9 = .unfit := by rw [← hres]; exact if_pos (.inr hn5)
       have HDD := Lib.hid hd
       clear hd hk0 hres hn5
       go_wp2_with fail
       refine (HDG.out _).mono ?_
       rintro e w' ⟨rfl, rfl⟩
       go_wp2_with fail
       skip
       refine (unfit_any _ _ _).mono ?_
       rintro e w' ⟨rfl, rfl⟩
       go_wp2_with fail
       refine ⟨rfl, ?_⟩
       rw [HDD.out]
       exact ⟨rfl, by first | exact Below.refl _ _ | exact (Below.refl _ _).drew⟩
      ·have hnz : ¬ (255 : Int) < N := by omega
       have hd : decEsc R9 = .ok [UInt8.ofNat N] (1 + K) := by rw [← hres]; exact if_neg (by simp only; omega)
       have HDD := Lib.hid hd
       clear hd hk0 hres hn5
       generalize UInt8.ofNat N = U at *
       go_wp2_with fail
       refine (HDG.out _).mono ?_
       rintro e w' ⟨rfl, rfl⟩
       go_wp2_with fail
       skip
       refine HW.out.mono ?_
       rintro e w' ⟨rfl, hb', hbel⟩
       go_wp2_with fail
       go_ret
       rw [HDD.out]
       exact ⟨ret_int (by omega), hb', hbel⟩
   ·have hkz2 : ¬ (K : Int) < R.size := by omega
    have hres : (N, K) = R9 := by
     have h := hG
     unfold Hid at h
     rw [show 3 - K = (3 - K - 1) + 1 by omega, List.drop_of_length_le (by rw [bs_length]; omega)] at h
     exact h
    have hcv := fun w => byte_conv N (by omega) w
    have HW := Lib.hid (wbyte_any C bb acc (UInt8.ofNat N) w HBD.out hacc hC)
    by_cases hk0 : K = 0
    ·have hkz : ((K : Int) == 0) = true := by rw [beq_iff_eq]; omega
     have hd : decEsc R9 = .unfit := by rw [← hres]; exact if_pos (.inl hk0)
     have HDD := Lib.hid hd
     clear hd hk0 hres
     skip
     go_wp2_with fail
     skip
     refine (unfit_any _ _ _).mono ?_
     rintro e w' ⟨rfl, rfl⟩
     go_wp2_with fail
     refine ⟨rfl, ?_⟩
     rw [HDD.out]
     exact ⟨rfl, by first | exact Below.refl _ _ | exact (Below.refl _ _).drew⟩
    ·have hkz : ((K : Int) == 0) = false := by rw [beq_eq_false_iff_ne]; omega
     by_cases hn5 : N > 255
     ·have hnz : (255 : Int) < N := by omega
      have hd : decEsc R9 = .unfit := by rw [← hres]; exact if_pos (.inr hn5)
      have HDD := Lib.hid hd
      clear hd hk0 hres hn5
      skip
      go_wp2_with fail
      skip
      refine (unfit_any _ _ _).mono ?_
      rintro e w' ⟨rfl, rfl⟩
      go_wp2_with fail
      refine ⟨rfl, ?_⟩
      rw [HDD.out]
      exact ⟨rfl, by first | exact Below.refl _ _ | exact (Below.refl _ _).drew⟩
     ·have hnz : ¬ (255 : Int) < N := by omega
      have hd : decEsc R9 = .ok [UInt8.ofNat N] (1 + K) := by rw [← hres]; exact if_neg (by simp only; omega)
      have HDD := Lib.hid hd
      clear hd hk0 hres hn5
      generalize UInt8.ofNat N = U at *
      skip
      go_wp2_with fail
      skip
      refine HW.out.mono ?_
      rintro e w' ⟨rfl, hb', hbel⟩
      go_wp2_with fail
      go_ret
      rw [HDD.out]
      exact ⟨ret_int (by omega), hb', hbel⟩
  ·have hkz1 : ¬ (K : Int) < 3 := by omega
   have hres : (N, K) = R9 := by
    have h := hG
    unfold Hid at h
    rw [show 3 - K = 0 by omega] at h
    exact h
   have hcv := fun w => byte_conv N (by omega) w
   have HW := Lib.hid (wbyte_any C bb acc (UInt8.ofNat N) w HBD.out hacc hC)
   by_cases hk0 : K = 0
   ·have hkz : ((K : Int) == 0) = true := by rw [beq_iff_eq]; omega
    have hd : decEsc R9 = .unfit := by rw [← hres]; exact if_pos (.inl hk0)
    have HDD := Lib.hid hd
    clear hd hk0 hres
    skip
    go_wp2_with fail
    skip
    refine (unfit_any _ _ _).mono ?_
    rintro e w' ⟨rfl, rfl⟩
    go_wp2_with fail
    refine ⟨rfl, ?_⟩
    rw [HDD.out]
    exact ⟨rfl, by first | exact Below.refl _ _ | exact (Below.refl _ _).drew⟩
   ·have hkz : ((K : Int) == 0) = false := by rw [beq_eq_false_iff_ne]; omega
    by_cases hn5 : N > 255
    ·have hnz : (255 : Int) < N := by omega
     have hd : decEsc R9 = .unfit := by rw [← hres]; exact if_pos (.inr hn5)
     have HDD := Lib.hid hd
     clear hd hk0 hres hn5
     skip
     go_wp2_with fail
     skip
     refine (unfit_any _ _ _).mono ?_
     rintro e w' ⟨rfl, rfl⟩
     go_wp2_with fail
     refine ⟨rfl, ?_⟩
     rw [HDD.out]
     exact ⟨rfl, by first | exact Below.refl _ _ | exact (Below.refl _ _).drew⟩
    ·have hnz : ¬ (255 : Int) < N := by omega
     have hd : decEsc R9 = .ok [UInt8.ofNat N] (1 + K) := by rw [← hres]; exact if_neg (by simp only; omega)
     have HDD := Lib.hid hd
     clear hd hk0 hres hn5
     generalize UInt8.ofNat N = U at *
     skip
     go_wp2_with fail
     skip
     refine HW.out.mono ?_
     rintro e w' ⟨rfl, hb', hbel⟩
     go_wp2_with fail
     go_ret
     rw [HDD.out]
     exact ⟨ret_int (by omega), hb', hbel⟩
theorem escF_cons (c : UInt8) (t : Bs) : escF (c :: t) =
  if plainB c ≠ 0 then .ok [plainB c] 2
  else if c = 120 then
   if (hexG 2 t 0 0).2 < 2 then .unfit else .ok [UInt8.ofNat (hexG 2 t 0 0).1] 4
  else if c = 117 ∧ t.head? = some 123 then
   if (hexG 8 t.tail 0 0).2 = 0 ∨ Utf8.valid (hexG 8 t.tail 0 0).1 = false ∨ (t.tail.drop (hexG 8 t.tail 0 0).2).head? ≠ some 125 then .unfit
   else .ok (bs (Utf8.encode (hexG 8 t.tail 0 0).1)) (4 + (hexG 8 t.tail 0 0).2)
  else if (decG 3 (c :: t) 0 0).2 = 0 ∨ (decG 3 (c :: t) 0 0).1 > 255 then .unfit
  else .ok [UInt8.ofNat (decG 3 (c :: t) 0 0).1] (1 + (decG 3 (c :: t) 0 0).2) := rfl
theorem esc_any (hb : sb < w.heap.size) (c0 : w.cell? ⟨sb, 0, none⟩ = some (.string src)) (c1 : w.cell? ⟨sb, 1, none⟩ = some (.int .i64 at_)) (hi : i + 1 ≤ src.size) (hs : src.size ≤ 1000000)
  (hB : Bd C bb acc w) (hacc : acc.length ≤ 1000000) (hC : C ≤ w.heap.size) :
  Calls Tryz.prog 85 #[.pointer (some ⟨sb, 0, none⟩), .pointer (some ⟨bb, 0, none⟩), .int .i64 i] w
   (EscEnd (escF ((bs src).drop (i + 1))) at_ i C bb acc w) := by
 cases hl : (bs src).drop (i + 1) with
 | nil =>
  have := congrArg List.length hl
  rw [List.length_drop, bs_length] at this
  simp at this
  exact esc_ended sb at_ i C bb src acc w hb c0 c1 (by omega) hs
 | cons c t =>
  rw [escF_cons]
  by_cases hp : plainB c ≠ 0
  ·rw [if_pos hp]
   exact esc_plain sb at_ i C bb src acc w c t hb c0 hi hs hl hp hB hacc hC
  ·rw [if_neg hp]
   have hp0 : plainB c = 0 := Classical.not_not.1 hp
   by_cases hx : c = 120
   ·rw [if_pos hx]
    subst hx
    exact esc_x sb at_ i C bb src acc w t hb c0 hi hs hl hB hacc hC
   ·rw [if_neg hx]
    by_cases hu : c = 117 ∧ t.head? = some 123
    ·rw [if_pos hu]
     obtain ⟨rfl, ht⟩ := hu
     cases t with
     | nil => cases ht
     | cons d t =>
      simp only [List.head?_cons, Option.some.injEq] at ht
      subst ht
      exact esc_u sb at_ i C bb src acc w t hb c0 hi hs hl hB hacc hC
    ·rw [if_neg hu]
     exact esc_dec sb at_ i C bb src acc w c t hb c0 hi hs hl hp0 hx hu hB hacc hC
end
end Go.Proofs.YtidiahkobapnjaaGreatDoor
namespace Go.Proofs.YtidiahkobapnjaaGreatDoor
open Go Go.RowKit Lx
theorem decG_le : ∀ (m : Nat) (l : Bs) (n k : Nat), k ≤ (decG m l n k).2 ∧ (decG m l n k).2 ≤ k + l.length
 | 0, _, _, _ => by simp [decG]
 | _ + 1, [], _, _ => by simp [decG]
 | m + 1, b :: t, n, k => by
  rw [decG_step]
  split
  ·have := decG_le m t (10 * n + (b.toNat - 48)) (k + 1)
   simp only [List.length_cons]; omega
  ·simp
theorem escF_len {l : Bs} {b : Bs} {n : Nat} (h : escF l = .ok b n) : 2 ≤ n ∧ n ≤ l.length + 1 ∧ b.length ≤ n := by
 cases l with
 | nil => cases h
 | cons c t =>
  rw [escF_cons] at h
  simp only [List.length_cons]
  by_cases hp : plainB c ≠ 0
  ·rw [if_pos hp] at h; cases h; simp
  ·rw [if_neg hp] at h
   by_cases hx : c = 120
   ·rw [if_pos hx] at h
    by_cases h2 : (hexG 2 t 0 0).2 < 2
    ·rw [if_pos h2] at h; cases h
    ·rw [if_neg h2] at h
     have := hexG_le 2 t 0 0 (by omega)
     cases h; simp; omega
   ·rw [if_neg hx] at h
    by_cases hu : c = 117 ∧ t.head? = some 123
    ·rw [if_pos hu] at h
     by_cases h3 : (hexG 8 t.tail 0 0).2 = 0 ∨ Utf8.valid (hexG 8 t.tail 0 0).1 = false ∨ (t.tail.drop (hexG 8 t.tail 0 0).2).head? ≠ some 125
     ·rw [if_pos h3] at h; cases h
     ·rw [if_neg h3] at h
      have := hexG_le 8 t.tail 0 0 (by omega)
      simp only [not_or] at h3
      have hd : (t.tail.drop (hexG 8 t.tail 0 0).2).head? = some 125 := Classical.not_not.1 h3.2.2
      have hlen : (hexG 8 t.tail 0 0).2 < t.tail.length := by
       rcases Nat.lt_or_ge (hexG 8 t.tail 0 0).2 t.tail.length with h' | h'
       ·exact h'
       ·rw [List.drop_of_length_le h'] at hd; cases hd
      rw [List.length_tail] at hlen
      have hes := encode_size (hexG 8 t.tail 0 0).1
      rw [← bs_length] at hes
      injection h with h4 h5
      subst h4 h5
      omega
    ·rw [if_neg hu] at h
     by_cases h3 : (decG 3 (c :: t) 0 0).2 = 0 ∨ (decG 3 (c :: t) 0 0).1 > 255
     ·rw [if_pos h3] at h; cases h
     ·rw [if_neg h3] at h
      have := decG_le 3 (c :: t) 0 0
      simp only [List.length_cons] at this
      injection h with h4 h5
      subst h4 h5
      simp; omega
theorem textG_nil (q : UInt8) (f : Nat) (acc : Bs) (i : Nat) : textG q f [] acc i = .bad 4 0 := by cases f <;> rfl
theorem textG_cons (q : UInt8) (f : Nat) (b : UInt8) (t : Bs) (acc : Bs) (i : Nat) : textG q (f + 1) (b :: t) acc i =
  if b = 10 then .bad 4 0
  else if b = q then (if acc.length > 10000 then .bad 14 0 else .ok acc (i + 1))
  else if b = 92 then
   match escF t with
   | .ended => .bad 4 0
   | .unfit => .bad 4 i
   | .ok e n => textG q f ((b :: t).drop n) (acc ++ e) (i + n)
  else textG q f t (acc ++ [b]) (i + 1) := rfl
theorem bd_new (w : World) : Bd w.heap.size w.heap.size [] (w.alloc (.cells #[.pointer none, .slice none 0 0] 87)) :=
 .inl ⟨Nat.le_refl _, .slice none 0 0, blk_new w _, World.ownsRow_nil _ _ _ _, by simp [Value.ownBlock]⟩
theorem bstring_any (B b : Nat) (l : Bs) (w : World) (h : Bd B b l w) (hB : B ≤ w.heap.size) :
  Calls Tryz.prog 46 #[.pointer (some ⟨b, 0, none⟩)] w.drew fun e w' => e = .returned (.string (str l)) ∧ Below B w w' :=
 (Tryz.Builder_String_any B b l w.drew h hB).mono fun _ _ ⟨h1, h2⟩ => ⟨h1, (Below.refl B w).drew.trans h2⟩
def TextEnd (r : TextR) (B sb at_ : Nat) (src : ByteArray) (l : List Tok) (w : World) (e : Ending) (w' : World) : Prop :=
 match r with
 | .bad c rel => e = failEnd c (at_ + rel : Nat) ∧ Below B w w'
 | .ok v n => e = .returned (.tuple #[]) ∧ Sc B sb src (at_ + n) (l ++ [⟨4, v, 0, at_⟩]) w' ∧ Below B w w'
set_option maxHeartbeats 4000000 in
set_option maxRecDepth 100000 in
theorem text_any (B sb at_ : Nat) (src : ByteArray) (l : List Tok) (q : UInt8) (t : Bs) (w : World) (h : Sc B sb src at_ l w) (hl : (bs src).drop at_ = q :: t) (hs : src.size ≤ 100000) (hll : l.length ≤ 100000) (hBw : B ≤ w.heap.size) :
  Calls Tryz.prog 56 #[.pointer (some ⟨sb, 0, none⟩), .int .u8 q.toNat] w (TextEnd (textG q (q :: t).length t [] 1) B sb at_ src l w) := by
 have hlen := congrArg List.length hl
 rw [List.length_drop, bs_length] at hlen
 simp only [List.length_cons] at hlen
 obtain ⟨R9, hR9⟩ : ∃ R9, textG q (q :: t).length t [] 1 = R9 := ⟨_, rfl⟩
 rw [hR9]
 have HR9 := Lib.hid hR9
 have HL := Lib.hid hl
 obtain ⟨hb, c0, c1⟩ := h.reads
 have HSC := Lib.hid h
 have hat : at_ < src.size := by omega
 have HLEN := Lib.hid hlen
 clear hR9 hl h hlen
 go_enter Tryz.func56, Tryz.ntmps56
 go_wp2_with fail
 have HB0 := Lib.hid ((Below.refl w.heap.size w).alloc (Nat.le_refl _) (.cells #[.pointer none, .slice none 0 0] 87))
 have HBD0 := Lib.hid (bd_new w)
 clear c0 c1 hb
 go_loopw [5] (fun iv wr => ∃ (i f : Nat) (acc : Bs), at_ + 1 ≤ i ∧ i ≤ src.size ∧ src.size - i + 1 ≤ f ∧ acc.length ≤ i ∧ iv = .int .i64 i ∧ Hid (textG q f ((bs src).drop i) acc (i - at_) = R9) ∧ Hid (Bd w.heap.size w.heap.size acc wr) ∧ Hid (Below w.heap.size w wr)) (fun iv _ => src.size - (intOf iv).toNat)
 case atStart =>
  refine ⟨at_ + 1, (q :: t).length, [], by omega, by omega, by have := HLEN.out; simp only [List.length_cons]; omega, by simp, by go_num, ?_, HBD0, HB0⟩
  have e : (bs src).drop (at_ + 1) = t := by
   have := congrArg List.tail HL.out
   rw [List.tail_drop] at this
   exact this
  unfold Hid
  rw [e, Nat.add_sub_cancel_left]
  exact HR9.out
 case round =>
  obtain ⟨i, f, acc, hi1, hi2, hf, hacc, rfl, HG, HBD, HBL⟩ := hrel
  have HSC2 := Lib.hid (HSC.out.later HBL.out)
  obtain ⟨hb, c0, c1⟩ := HSC2.out.reads
  have hB1 : w.heap.size ≤ wr.heap.size := HBL.out.size
  clear HB0 HBD0
  by_cases hend : i < src.size
  ·have hz : (i : Int) < src.size := by omega
   have hz0 : ¬ (src.size : Int) ≤ i := by omega
   have hiz : (i : Int) ≤ 100000 := by omega
   have hg := HG.out
   obtain ⟨f, rfl⟩ : ∃ g, f = g + 1 := ⟨f - 1, by omega⟩
   rw [drop_at src i hend, textG_cons] at hg
   have HGG := Lib.hid hg
   clear hg
   by_cases h10 : src[i] = 10
   ·have hn : ((src[i].toNat : Int) == 10) = true := (byte_beq _ 10).1 h10
    go_wp2_with fail
    refine (fail_any _ _ _).mono ?_
    rintro e w' ⟨rfl, rfl⟩
    go_wp2_with fail
    refine ⟨rfl, ?_⟩
    have hg := HGG.out
    rw [if_pos h10] at hg
    rw [← hg]
    exact ⟨rfl, HBL.out.mono hBw⟩
   ·have hn : ((src[i].toNat : Int) == 10) = false := Bool.eq_false_iff.2 fun h => h10 ((byte_beq _ 10).2 h)
    by_cases hq : src[i] = q
    ·have hqn : ((src[i].toNat : Int) == (q.toNat : Int)) = true := (byte_beq _ _).1 hq
     have hqn2 : (src[i].toNat == q.toNat) = true := by rw [hq]; simp
     have HLN := Lib.hid (fun w h => blen_any w.heap.size w.heap.size acc w h)
     by_cases hbig : acc.length > 10000
     ·have hbz : (10000 : Int) < acc.length := by omega
      have HLEN2 := Lib.hid (blen_any w.heap.size w.heap.size acc wr HBD.out)
      go_wp2_with fail
      refine HLEN2.out.mono ?_
      rintro e w' ⟨rfl, rfl⟩
      go_wp2_with fail
      refine (fail_any _ _ _).mono ?_
      rintro e w' ⟨rfl, rfl⟩
      go_wp2_with fail
      refine ⟨rfl, ?_⟩
      have hg := HGG.out
      rw [if_neg h10, if_pos hq, if_pos hbig] at hg
      rw [← hg]
      exact ⟨rfl, HBL.out.mono hBw⟩
     ·have hbz : ¬ (10000 : Int) < acc.length := by omega
      have HLEN2 := Lib.hid (blen_any w.heap.size w.heap.size acc wr HBD.out)
      go_wp2_with fail
      refine HLEN2.out.mono ?_
      rintro e w' ⟨rfl, rfl⟩
      go_wp2_with fail
      have hsC : sb < w.heap.size := HSC.out.lt
      have HSTR := Lib.hid (bstring_any w.heap.size w.heap.size acc wr HBD.out hB1)
      refine wp_region_plan [(0, 0), (3, 0), (4, 0), (5, 0), (6, 0), (7, 0), (8, 3), (9, 0), (1, 1), (2, 0)] (fun w' => w'.cell? ⟨sb, 1, none⟩ = some (.int .i64 at_)) (by kernel_rfl) (by kernel_rfl) (fun _ _ d _ _ h => by cases d <;> exact h) (by first | exact c1 | exact (hb2.cell (p := ⟨sb, 1, none⟩) hsC).trans c1) ?_
      simp only [planOps, List.filterMap_cons, List.filterMap_nil, List.getElem?_toArray, List.getElem?_cons_zero, List.getElem?_cons_succ, Option.map_some, List.drop_succ_cons, List.drop_zero, List.length_cons, List.length_nil]
      iterate 6 (refine plan_pure (by rfl) (fun wq => by go_simp; with_reducible rfl) ?_; simp only [Act.put, List.setIfInBounds_toArray, List.set_cons_zero, List.set_cons_succ])
      iterate 1 (refine plan_load (by rfl) (fun wq hq1 => by go_simp; with_reducible rfl) ?_; simp only [Act.put, List.setIfInBounds_toArray, List.set_cons_zero, List.set_cons_succ])
      iterate 1 (refine plan_pure (by rfl) (fun wq => by go_simp; with_reducible rfl) ?_; simp only [Act.put, List.setIfInBounds_toArray, List.set_cons_zero, List.set_cons_succ])
      refine plan_turn ?_ ?_
      ·rfl
      intro K hK
      (go_wp2_with fail; refine HSTR.out.mono ?_; rintro e w2 ⟨rfl, hb2⟩; go_wp2_with fail)
      refine ⟨by first | exact c1 | exact (hb2.cell (p := ⟨sb, 1, none⟩) hsC).trans c1, ?_⟩
      iterate 1 (refine plan_pure (by rfl) (fun wq => by go_simp; with_reducible rfl) ?_; simp only [Act.put, List.setIfInBounds_toArray, List.set_cons_zero, List.set_cons_succ])
      refine plan_done ?_
      go_wp2_with fail
      have HB2 := Lib.hid (HBL.out.trans hb2)
      have e2 : (i : Int) + 1 - at_ = ((i + 1 - at_ : Nat) : Int) := by omega
      rw [e2]
      refine (add_any B sb at_ src l (i + 1 - at_) 4 0 0 (str acc) w2 (HSC.out.later HB2.out) (by have := HB2.out.size; omega) hll (by omega)).mono ?_
      rintro e w3 ⟨rfl, hsc3, hb3⟩
      go_wp2_with fail
      refine bodyPost_ret (results_none rfl _ _ _) rfl ?_
      have hg := HGG.out
      rw [if_neg h10, if_pos hq, if_neg hbig] at hg
      rw [← hg]
      refine ⟨rfl, ?_, (HB2.out.mono hBw).trans hb3⟩
      rw [show i - at_ + 1 = i + 1 - at_ by omega]
      rw [bs_str] at hsc3
      exact hsc3
    ·have hqn : ((src[i].toNat : Int) == (q.toNat : Int)) = false := Bool.eq_false_iff.2 fun h => hq ((byte_beq _ _).2 h)
     have hqn2 : (src[i].toNat == q.toNat) = false := by rw [Bool.eq_false_iff]; intro h; exact hq (UInt8.toNat_inj.1 (by simpa using h))
     by_cases h92 : src[i] = 92
     ·have hbn : ((src[i].toNat : Int) == 92) = true := (byte_beq _ 92).1 h92
      have HESC := Lib.hid (esc_any sb at_ i w.heap.size w.heap.size src acc wr hb c0 c1 (by omega) (by omega) HBD.out (by omega) hB1)
      go_wp2_with fail
      refine HESC.out.mono ?_
      intro e w2 hesc
      have hg := HGG.out
      rw [if_neg h10, if_neg hq, if_pos h92] at hg
      cases hE : escF ((bs src).drop (i + 1)) with
      | ended =>
       rw [hE] at hesc hg
       have he : e = failEnd 4 at_ := hesc.1
       have HB7 := Lib.hid ((HBL.out.trans hesc.2).mono hBw)
       clear hesc
       subst he
       go_wp2_with fail
       refine ⟨rfl, ?_⟩
       rw [← hg]
       exact ⟨rfl, HB7.out⟩
      | unfit =>
       rw [hE] at hesc hg
       have he : e = failEnd 4 i := hesc.1
       have HB7 := Lib.hid ((HBL.out.trans hesc.2).mono hBw)
       clear hesc
       subst he
       go_wp2_with fail
       refine ⟨rfl, ?_⟩
       rw [← hg]
       refine ⟨?_, HB7.out⟩
       rw [show at_ + (i - at_) = i by omega]
      | ok b n =>
       rw [hE] at hesc hg
       obtain ⟨he, hbd2, hb2⟩ := hesc
       have HELEN := Lib.hid (escF_len hE)
       have HG9 := Lib.hid hg
       subst he
       clear hE hg
       have hn1 := HELEN.out.2.1
       rw [List.length_drop, bs_length] at hn1
       have hnz : (i : Int) + n ≤ 1000000 := by omega
       go_wp2_with fail
       go_roundw
       case rel =>
        refine ⟨i + n, f, acc ++ b, by omega, by omega, by have := HELEN.out.1; omega, by have := HELEN.out.2.2; rw [List.length_append]; omega, by go_num, ?_, hbd2, HBL.out.trans hb2⟩
        unfold Hid
        have hg := HG9.out
        rw [show i + n - at_ = i - at_ + n by omega, ← List.drop_drop, drop_at src i hend]
        exact hg
       case measure => have := HELEN.out.1; simp [intOf]; omega
     ·have hbn : ((src[i].toNat : Int) == 92) = false := Bool.eq_false_iff.2 fun h => h92 ((byte_beq _ 92).2 h)
      have HWB := Lib.hid (wbyte_any w.heap.size w.heap.size acc src[i] wr HBD.out (by omega) hB1)
      go_wp2_with fail
      refine HWB.out.mono ?_
      rintro e w2 ⟨rfl, hbd2, hb2⟩
      go_wp2_with fail
      go_roundw
      case rel =>
       refine ⟨i + 1, f, acc ++ [src[i]], by omega, by omega, by omega, by simp; omega, by go_num, ?_, hbd2, HBL.out.trans hb2⟩
       have hg := HGG.out
       rw [if_neg h10, if_neg hq, if_neg h92] at hg
       unfold Hid
       rw [show i + 1 - at_ = i - at_ + 1 by omega]
       exact hg
      case measure => simp [intOf]; omega
  ·have hz : (src.size : Int) ≤ i := by omega
   go_wp2_with fail
   refine (fail_any _ _ _).mono ?_
   rintro e w' ⟨rfl, rfl⟩
   go_wp2_with fail
   refine ⟨rfl, ?_⟩
   have hg := HG.out
   rw [List.drop_of_length_le (by rw [bs_length]; omega), textG_nil] at hg
   rw [← hg]
   exact ⟨rfl, HBL.out.mono hBw⟩
end Go.Proofs.YtidiahkobapnjaaGreatDoor
namespace Go.Proofs.YtidiahkobapnjaaGreatDoor
open Go Go.RowKit Lx
structure Gl (w : World) : Prop where
 utf : Lib.Utf8Tabs 0 1 w
 space : Lib.TabIs Tryz.prog w "strings.asciiSpace" .u8 Lib.asciiSpaceTab
 maxLen : ∃ m, w.cell? ⟨4, 0, none⟩ = some (.int .i64 m)
 size : 9 ≤ w.heap.size
theorem spaceAt : Tryz.prog.globalNamed "strings.asciiSpace" = some 2 := by kernel_rfl
theorem Gl.below {B : Nat} {w w' : World} (h : Gl w) (hb : Below B w w') (hB : 9 ≤ B) : Gl w' := by
 obtain ⟨h1, h2, ⟨m, h3⟩, h4⟩ := h
 refine ⟨⟨fun c hc => ?_, fun i hi => ⟨?_, ?_⟩⟩, ?_, ⟨m, ?_⟩, by have := hb.size; omega⟩
 ·rw [hb.cell (p := ⟨0, c, none⟩) (show 0 < B by omega)]; exact h1.1 c hc
 ·rw [hb.cell (p := ⟨1, 2 * i, none⟩) (show 1 < B by omega)]; exact (h1.2 i hi).1
 ·rw [hb.cell (p := ⟨1, 2 * i + 1, none⟩) (show 1 < B by omega)]; exact (h1.2 i hi).2
 ·unfold Lib.TabIs World.var? at h2 ⊢
  rw [spaceAt] at h2 ⊢
  simp only [Option.bind_some] at h2 ⊢
  rw [hb.block 2 (by omega)]
  exact h2
 ·rw [hb.cell (p := ⟨4, 0, none⟩) (show 4 < B by omega)]; exact h3
theorem Gl.drew {w : World} (h : Gl w) : Gl w.drew := ⟨h.utf, h.space, h.maxLen, h.size⟩
def signBytes : Bs := [61, 61, 32, 126, 61, 32, 60, 61, 32, 62, 61, 32, 47, 47, 32, 46, 46, 32, 43, 32, 45, 32, 42, 32, 37, 32, 60, 32, 62, 32, 61, 32, 35, 32, 40, 32, 41, 32, 123, 32, 125, 32, 91, 32, 93, 32, 59, 32, 44, 32, 46]
theorem fields_signs : Lib.fields signBytes = signList := by decide +kernel
theorem fields_any (w : World) (h : Gl w) : Calls Tryz.prog 87 #[.string (str signBytes)] w fun e w' =>
  e = .returned (.slice (some ⟨w.heap.size, 0, none⟩) 23 23) ∧ w.alloc (.cells (signList.map fun l => Value.string (str l)).toArray 9) = w' := by
 have h1 := Tryz.strings_Fields (str signBytes) w (by rw [str_size]; decide) (by
  intro j b hj
  have hb : b ∈ signBytes := by
   have : (str signBytes).data.toList = signBytes := bs_str signBytes
   rw [this] at hj
   exact List.mem_of_getElem? hj
  revert b
  have : ∀ b ∈ signBytes, b.toNat < 128 := by decide
  intro b _ hb
  exact this b hb) h.space
 have e : (str signBytes).data.toList = signBytes := bs_str signBytes
 rw [e, fields_signs] at h1
 exact h1.mono fun _ _ ⟨a, b⟩ => ⟨a, b.symm⟩
def SignEnd (r : Option Bs) (B sb at_ : Nat) (src : ByteArray) (l : List Tok) (w : World) (e : Ending) (w' : World) : Prop :=
 match r with
 | none => e = failEnd 4 at_ ∧ Below B w w'
 | some s => e = .returned (.tuple #[]) ∧ Sc B sb src (at_ + s.length) (l ++ [⟨5, s, 0, at_⟩]) w' ∧ Below B w w'
set_option maxHeartbeats 4000000 in
set_option maxRecDepth 100000 in
theorem sign_any (B sb at_ : Nat) (src : ByteArray) (l : List Tok) (w : World) (h : Sc B sb src at_ l w) (hg : Gl w) (hat : at_ ≤ src.size) (hs : src.size ≤ 100000) (hll : l.length ≤ 100000) (hBw : B ≤ w.heap.size) :
  Calls Tryz.prog 57 #[.pointer (some ⟨sb, 0, none⟩)] w (SignEnd (signF ((bs src).drop at_)) B sb at_ src l w) := by
 obtain ⟨R9, hR9⟩ : ∃ R9, signF ((bs src).drop at_) = R9 := ⟨_, rfl⟩
 rw [hR9]
 have HR9 := Lib.hid hR9
 have HF := Lib.hid (fields_any w hg)
 have HSC := Lib.hid h
 have hatz : (at_ : Int) ≤ src.size := by omega
 have hatz2 : (at_ : Int) ≤ 100000 := by omega
 clear hR9 h hg
 go_enter Tryz.func57, Tryz.ntmps57
 go_wp2_with fail
 refine HF.out.mono ?_
 rintro e w' ⟨rfl, rfl⟩
 go_wp2_with fail
 have HB0 := Lib.hid ((Below.refl w.heap.size w).alloc (Nat.le_refl _) (.cells (signList.map fun l => Value.string (str l)).toArray 9))
 have HBLK := Lib.hid (blk_new w (.cells (signList.map fun l => Value.string (str l)).toArray 9))
 generalize w.alloc (.cells (signList.map fun l => Value.string (str l)).toArray 9) = w1 at *
 go_loopw [6] (fun iv wr => ∃ k : Nat, k ≤ 23 ∧ iv = .int .i64 k ∧ Hid ((signList.drop k).find? (fun s => s.isPrefixOf ((bs src).drop at_)) = R9) ∧ Hid (Below (w.heap.size + 1) w1 wr)) (fun iv _ => 23 - (intOf iv).toNat)
 case atStart => exact ⟨0, by omega, rfl, HR9.out, Below.refl _ _⟩
 case round =>
  obtain ⟨k, hk, rfl, HG, HBL⟩ := hrel
  have hw1 := HB0.out.size
  have HB9 := Lib.hid (HB0.out.trans (HBL.out.mono (Nat.le_succ _)))
  have HSC2 := Lib.hid (HSC.out.later HB9.out)
  obtain ⟨hb, c0, c1⟩ := HSC2.out.reads
  by_cases hlt : k < 23
  ·have hkz : (k : Int) < 23 := by omega
   obtain ⟨s, hsk⟩ : ∃ s, signList[k]? = some s := ⟨_, List.getElem?_eq_getElem (show k < signList.length from hlt)⟩
   have hcell : wr.cell? ⟨w.heap.size, k, none⟩ = some (.string (str s)) := by
    rw [blk_cell (blk_below HBL.out (by omega) HBLK.out)]
    simp [hsk]
   have hdrop : signList.drop k = s :: signList.drop (k + 1) := by
    rw [List.drop_eq_getElem_cons (show k < signList.length from hlt)]
    congr 1
    rw [List.getElem?_eq_getElem (show k < signList.length from hlt)] at hsk
    exact Option.some.inj hsk
   have HD := Lib.hid hdrop
   have hslen : s.length ≤ 2 := by
    have : ∀ x ∈ signList, x.length ≤ 2 := by decide
    exact this s (List.mem_of_getElem? hsk)
   have HSK := Lib.hid hsk
   clear hdrop hsk
   go_wp2_with fail
   refine wp_region_plan [(0, 0), (1, 0), (2, 0), (3, 3), (4, 0), (5, 0), (6, 0), (7, 3), (8, 0), (9, 0)] (fun w' => w'.cell? ⟨sb, 0, none⟩ = some (.string src) ∧ w'.cell? ⟨sb, 1, none⟩ = some (.int .i64 at_)) (by kernel_rfl) (by kernel_rfl) (fun _ _ d _ _ h => by cases d <;> exact h) (by refine ⟨?_, ?_⟩ <;> go_simp) ?_
   simp only [planOps, List.filterMap_cons, List.filterMap_nil, List.getElem?_toArray, List.getElem?_cons_zero, List.getElem?_cons_succ, Option.map_some, List.drop_succ_cons, List.drop_zero, List.length_cons, List.length_nil]
   iterate 3 (refine plan_pure (by rfl) (fun wq => by go_simp; with_reducible rfl) ?_; simp only [Act.put, List.setIfInBounds_toArray, List.set_cons_zero, List.set_cons_succ])
   iterate 1 (refine plan_load (by rfl) (fun wq hq => by obtain ⟨hq0, hq1⟩ := hq; go_simp; with_reducible rfl) ?_; simp only [Act.put, List.setIfInBounds_toArray, List.set_cons_zero, List.set_cons_succ])
   iterate 3 (refine plan_pure (by rfl) (fun wq => by go_simp; with_reducible rfl) ?_; simp only [Act.put, List.setIfInBounds_toArray, List.set_cons_zero, List.set_cons_succ])
   iterate 1 (refine plan_load (by rfl) (fun wq hq => by obtain ⟨hq0, hq1⟩ := hq; go_simp; with_reducible rfl) ?_; simp only [Act.put, List.setIfInBounds_toArray, List.set_cons_zero, List.set_cons_succ])
   iterate 2 (refine plan_pure (by rfl) (fun wq => by go_simp; with_reducible rfl) ?_; simp only [Act.put, List.setIfInBounds_toArray, List.set_cons_zero, List.set_cons_succ])
   refine plan_done ?_
   go_wp2_with fail
   have hpf := prefix_any (src.extract at_ src.size) s wr.drew
   rw [bs_tail] at hpf
   refine hpf.mono ?_
   rintro e w' ⟨rfl, rfl⟩
   cases hp : s.isPrefixOf ((bs src).drop at_) with
   | true =>
    have HP := Lib.hid hp
    clear hp hpf
    have HADD := Lib.hid (fun hB' => add_any B sb at_ src l s.length 5 0 0 (str s) wr.drew HSC2.out.drew hB' hll (by omega))
    have hsz : ((str s).size : Int) = s.length := by rw [str_size]
    go_wp2_with fail
    refine (HADD.out (by have := HB9.out.size; simp; omega)).mono ?_
    rintro e w3 ⟨rfl, hsc3, hb3⟩
    go_wp2_with fail
    refine bodyPost_ret (results_none rfl _ _ _) rfl ?_
    have hg := HG.out
    rw [HD.out, List.find?_cons, HP.out] at hg
    rw [← hg]
    rw [bs_str] at hsc3
    exact ⟨rfl, hsc3, (HB9.out.drew.mono hBw).trans hb3⟩
   | false =>
    have HP := Lib.hid hp
    clear hp hpf
    go_wp2_with fail
    go_roundw
    case rel =>
     refine ⟨k + 1, by omega, by go_num, ?_, HBL.out.drew⟩
     have hg := HG.out
     rw [HD.out, List.find?_cons, HP.out] at hg
     exact hg
    case measure => simp [intOf]; omega
  ·have hkz : ¬ (k : Int) < 23 := by omega
   go_wp2_with fail
   refine (fail_any _ _ _).mono ?_
   rintro e w' ⟨rfl, rfl⟩
   go_wp2_with fail
   refine ⟨rfl, ?_⟩
   have hg := HG.out
   rw [List.drop_of_length_le (show signList.length ≤ k by show 23 ≤ k; omega)] at hg
   rw [← hg]
   exact ⟨rfl, HB9.out.mono hBw⟩
end Go.Proofs.YtidiahkobapnjaaGreatDoor
namespace Go.Proofs.YtidiahkobapnjaaGreatDoor
namespace Lx
def spaced (ws : List Bs) : Bs := 32 :: ws.flatMap (· ++ [32])
theorem split_unique : ∀ (t w x y : Bs), (∀ b ∈ t, b ≠ 32) → (∀ b ∈ w, b ≠ 32) → t ++ 32 :: x = w ++ 32 :: y → t = w
 | [], [], _, _, _, _, _ => rfl
 | [], c :: w, x, y, _, hw, h => by
  simp only [List.nil_append, List.cons_append, List.cons.injEq] at h
  exact absurd h.1.symm (hw c (by simp))
 | c :: t, [], x, y, ht, _, h => by
  simp only [List.nil_append, List.cons_append, List.cons.injEq] at h
  exact absurd h.1 (ht c (by simp))
 | c :: t, d :: w, x, y, ht, hw, h => by
  simp only [List.cons_append, List.cons.injEq] at h
  rw [h.1, split_unique t w x y (fun b hb => ht b (by simp [hb])) (fun b hb => hw b (by simp [hb])) h.2]
theorem infix_past (sub rest : Bs) : ∀ (w a b : Bs), (∀ c ∈ w, c ≠ 32) → sub.head? = some 32 → a ++ sub ++ b = w ++ rest → sub <:+: rest
 | [], a, b, _, _, h => ⟨a, b, h⟩
 | c :: w, [], b, hw, hs, h => by
  cases sub with
  | nil => simp at hs
  | cons d s =>
   simp only [List.head?_cons, Option.some.injEq] at hs
   simp only [List.nil_append, List.cons_append, List.cons.injEq] at h
   exact absurd (h.1.symm.trans hs) (hw c (by simp))
 | c :: w, d :: a, b, hw, hs, h => by
  simp only [List.cons_append, List.cons.injEq] at h
  exact infix_past sub rest w a b (fun x hx => hw x (by simp [hx])) hs h.2
theorem spaced_cons (w : Bs) (ws : List Bs) : spaced (w :: ws) = 32 :: (w ++ spaced ws) := by simp [spaced]
theorem infix_word (t : Bs) (ht : ∀ b ∈ t, b ≠ 32) : ∀ ws : List Bs, (∀ w ∈ ws, ∀ b ∈ w, b ≠ 32) → ((32 :: t ++ [32]) <:+: spaced ws) → t ∈ ws
 | [], _, h => by
  have := h.length_le
  simp [spaced] at this
 | w :: ws, hws, h => by
  obtain ⟨a, b, h⟩ := h
  rw [spaced_cons] at h
  cases a with
  | nil =>
   simp only [List.nil_append, List.cons_append, List.append_assoc, List.cons.injEq, true_and] at h
   rw [split_unique t w b (ws.flatMap (· ++ [32])) ht (hws w (by simp)) h]
   simp
  | cons c a =>
   simp only [List.cons_append, List.cons.injEq] at h
   have := infix_past (32 :: t ++ [32]) (spaced ws) w a b (hws w (by simp)) rfl (by simpa using h.2)
   exact List.mem_cons_of_mem _ (infix_word t ht ws (fun x hx => hws x (by simp [hx])) this)
theorem word_infix (t : Bs) : ∀ ws : List Bs, t ∈ ws → ((32 :: t ++ [32]) <:+: spaced ws)
 | w :: ws, h => by
  rw [spaced_cons]
  rcases List.mem_cons.1 h with h | h
  ·subst h
   exact ⟨[], ws.flatMap (· ++ [32]), by simp [spaced]⟩
  ·obtain ⟨a, b, e⟩ := word_infix t ws h
   exact ⟨32 :: w ++ a, b, by simp only [List.append_assoc, List.cons_append] at *; rw [e]⟩
theorem contains_infix (s sub : Bs) : Lib.contains s sub = true ↔ sub <:+: s := by
 unfold Lib.contains
 rw [decide_eq_true_iff]
 rcases Lib.index_spec s sub with ⟨h1, h2⟩ | ⟨i, h1, h2, h3, _⟩
 ·constructor
  ·intro h; omega
  ·rintro ⟨a, b, e⟩
   have h3 := h2 a.length (by rw [← e]; simp)
   rw [← e] at h3
   simp only [Lib.occAt, List.append_assoc, List.drop_left] at h3
   rw [List.isPrefixOf_iff_prefix.2 ⟨b, rfl⟩] at h3
   exact absurd h3 (by decide)
 ·constructor
  ·intro _
   have := List.isPrefixOf_iff_prefix.1 h3
   obtain ⟨b, hb⟩ := this
   exact ⟨s.take i, b, by rw [List.append_assoc, hb, List.take_append_drop]⟩
  ·intro _; omega
def wordBytes : Bs := spaced wordList
theorem contains_word (t : Bs) (ht : ∀ b ∈ t, b ≠ 32) : Lib.contains wordBytes (32 :: t ++ [32]) = isWordF t := by
 have hws : ∀ w ∈ wordList, ∀ b ∈ w, b ≠ 32 := by decide
 rw [Bool.eq_iff_iff, contains_infix]
 unfold isWordF
 rw [List.contains_iff_mem]
 exact ⟨infix_word t ht _ hws, word_infix t _⟩
theorem decL_no32 (p : Nat → Bool) (hp1 : p 32 = false) (hp2 : p 65533 = false) (l : Bs) (h : p (decL l).1 = true) : ∀ b ∈ l.take (decL l).2, b ≠ 32 := by
 intro b hb
 obtain ⟨i, hi⟩ := List.mem_iff_getElem?.1 hb
 rw [List.getElem?_take] at hi
 split at hi
 case isFalse => exact absurd hi (by simp)
 rename_i hlt
 have hg : l.getD i 0 = b := by rw [List.getD_eq_getElem?_getD, hi]; rfl
 rintro rfl
 have hg2 : (l.getD i 0).toNat = 32 := by rw [hg]; rfl
 clear hb hi hg
 unfold decL at h hlt
 dsimp only at h hlt
 have hi4 : i = 0 ∨ i = 1 ∨ i = 2 ∨ 3 ≤ i := by omega
 split at h
 ·rename_i h0
  rw [if_pos h0] at hlt
  have : i = 0 := by simpa using hlt
  subst this
  rw [hg2] at h
  exact absurd h (by simp [hp1])
 ·rename_i h0
  rw [if_neg h0] at hlt
  have hne : i ≠ 0 := by rintro rfl; omega
  split at h
  ·rename_i h1
   rw [if_pos h1] at hlt
   simp only [Bool.and_eq_true, beq_iff_eq, decide_eq_true_eq] at h1
   split at h
   ·rename_i h2; rw [if_pos h2] at hlt
    rcases hi4 with rfl | rfl | rfl | hi4 <;> dsimp only at hlt <;> omega
   ·exact absurd h (by simp [hp2])
  ·rename_i h1
   rw [if_neg h1] at hlt
   split at h
   ·rename_i h1
    rw [if_pos h1] at hlt
    simp only [Bool.and_eq_true, beq_iff_eq, decide_eq_true_eq] at h1
    split at h
    ·rename_i h2; rw [if_pos h2] at hlt
     rcases hi4 with rfl | rfl | rfl | hi4 <;> dsimp only at hlt <;> omega
    ·exact absurd h (by simp [hp2])
   ·rename_i h1
    rw [if_neg h1] at hlt
    split at h
    ·rename_i h1
     rw [if_pos h1] at hlt
     simp only [Bool.and_eq_true, beq_iff_eq, decide_eq_true_eq] at h1
     split at h
     ·rename_i h2; rw [if_pos h2] at hlt
      have : i = 3 ∨ 4 ≤ i ∨ i < 3 := by omega
      rcases hi4 with rfl | rfl | rfl | hi4 <;> dsimp only at hlt <;> try omega
      have : i = 3 := by omega
      subst this; omega
     ·exact absurd h (by simp [hp2])
    ·exact absurd h (by simp [hp2])
theorem runL_no32 (p : Nat → Bool) (hp1 : p 32 = false) (hp2 : p 65533 = false) : ∀ (n : Nat) (l : Bs), l.length ≤ n → ∀ b ∈ l.take (runL p l), b ≠ 32
 | 0, l, h => by
  have : l = [] := List.eq_nil_of_length_eq_zero (by omega)
  subst this; simp
 | n + 1, l, h => by
  by_cases hl : l = []
  ·subst hl; simp
  ·rw [runL_step p l hl]
   have hw := decL_width l
   split
   ·rename_i hp
    rw [List.take_add]
    intro b hb
    rcases List.mem_append.1 hb with hb | hb
    ·exact decL_no32 p hp1 hp2 l hp b hb
    ·exact runL_no32 p hp1 hp2 n (l.drop (decL l).2) (by rw [List.length_drop]; have := hw.2.2 hl; omega) b hb
   ·simp
end Lx
end Go.Proofs.YtidiahkobapnjaaGreatDoor
namespace Go.Proofs.YtidiahkobapnjaaGreatDoor
open Go Go.RowKit Lx
theorem wrap_in (x : Int) (h0 : 0 ≤ x) (h1 : x ≤ 1000000000) : IntKind.i64.wrap x = x := by unfold IntKind.wrap; simp [IntKind.bits, IntKind.signed]; omega
def NameEnd (m : Nat) (t : Bs) (B sb at_ : Nat) (src : ByteArray) (l : List Tok) (w : World) (e : Ending) (w' : World) : Prop :=
 if m > 40 then e = failEnd 14 at_ ∧ Below B w w'
 else e = .returned (.tuple #[]) ∧ Sc B sb src (at_ + m) (l ++ [⟨if isWordF t then 2 else 1, t, 0, at_⟩]) w' ∧ Below B w w'
theorem word_contains (src : ByteArray) (at_ m : Nat) (w : World) (hm : runL partR ((bs src).drop at_) = m) (hle : at_ + m ≤ src.size) (hs : m ≤ 40) (hg : Gl w) :
  Calls Tryz.prog 81 #[.string (str wordBytes), .string (⟨#[32]⟩ ++ src.extract at_ (at_ + m) ++ ⟨#[32]⟩)] w fun e w' => e = .returned (.bool (isWordF (((bs src).drop at_).take m))) ∧ w = w' := by
 obtain ⟨k, hk⟩ := hg.maxLen
 refine (Tryz.strings_Contains (str wordBytes) _ k w (by rw [str_size]; decide) hk).mono ?_
 rintro e w' ⟨rfl, rfl⟩
 have e1 : (str wordBytes).data.toList = wordBytes := bs_str _
 have e2 : (⟨#[32]⟩ ++ src.extract at_ (at_ + m) ++ ⟨#[32]⟩ : ByteArray).data.toList = 32 :: (((bs src).drop at_).take m) ++ [32] := by
  have h := bs_extract src at_ (at_ + m)
  rw [Nat.add_sub_cancel_left] at h
  rw [← h]
  simp [bs]
 refine ⟨?_, rfl⟩
 rw [e1, e2, contains_word]
 rw [← hm]
 exact runL_no32 partR (by decide) (by decide) _ _ (Nat.le_refl _)
set_option maxHeartbeats 4000000 in
set_option maxRecDepth 100000 in
theorem name_any (B sb at_ : Nat) (src : ByteArray) (l : List Tok) (w : World) (h : Sc B sb src at_ l w) (hg : Gl w) (hat : at_ ≤ src.size) (hs : src.size ≤ 100000) (hll : l.length ≤ 100000) (hBw : B ≤ w.heap.size) :
  Calls Tryz.prog 53 #[.pointer (some ⟨sb, 0, none⟩)] w (NameEnd (runL partR ((bs src).drop at_)) (((bs src).drop at_).take (runL partR ((bs src).drop at_))) B sb at_ src l w) := by
 have HMM := Lib.hid (rfl : runL partR ((bs src).drop at_) = runL partR ((bs src).drop at_))
 have HG := Lib.hid hg
 clear hg
 have hm := runL_le' partR ((bs src).drop at_)
 rw [List.length_drop, bs_length] at hm
 obtain ⟨hb, c0, c1⟩ := h.reads
 have HRUN := Lib.hid (run_any 79 partR sb at_ src w sort_part hb c0 c1 hat (by omega))
 generalize hM : runL partR ((bs src).drop at_) = m at *
 have HM := Lib.hid hM
 have HSC := Lib.hid h
 clear hM h
 have hz1 : (at_ : Int) ≤ (at_ : Int) + m := by omega
 have hz2 : (at_ : Int) + m ≤ src.size := by omega
 have hz3 : ((at_ : Int) + m).toNat = at_ + m := by omega
 have hz4 : (at_ : Int) + m ≤ 100000 := by omega
 have hz5 := wrap_in ((at_ : Int) + m) (by omega) (by omega)
 go_enter Tryz.func53, Tryz.ntmps53
 go_wp2_with fail
 refine HRUN.out.mono ?_
 rintro e w1 ⟨rfl, hb1⟩
 have HSC1 := Lib.hid (HSC.out.later hb1)
 have HB1 := Lib.hid hb1
 clear c0 c1 hb hb1
 obtain ⟨hb, c0, c1⟩ := HSC1.out.reads
 go_wp2_with fail
 refine wp_region_plan [(0, 0), (1, 0), (2, 0), (3, 3), (4, 0), (5, 0), (6, 0), (7, 3), (8, 0), (9, 0), (10, 0), (11, 3), (12, 0), (13, 0), (14, 0), (15, 0), (16, 1)] (fun w' => w'.cell? ⟨sb, 0, none⟩ = some (.string src) ∧ w'.cell? ⟨sb, 1, none⟩ = some (.int .i64 at_)) (by kernel_rfl) (by kernel_rfl) (fun _ _ d _ _ h => by cases d <;> exact h) (by refine ⟨?_, ?_⟩ <;> go_simp) ?_
 simp only [planOps, List.filterMap_cons, List.filterMap_nil, List.getElem?_toArray, List.getElem?_cons_zero, List.getElem?_cons_succ, Option.map_some, List.drop_succ_cons, List.drop_zero, List.length_cons, List.length_nil]
 iterate 3 (refine plan_pure (by rfl) (fun wq => by go_simp; with_reducible rfl) ?_; simp only [Act.put, List.setIfInBounds_toArray, List.set_cons_zero, List.set_cons_succ])
 iterate 1 (refine plan_load (by rfl) (fun wq hq => by obtain ⟨hq0, hq1⟩ := hq; go_simp; with_reducible rfl) ?_; simp only [Act.put, List.setIfInBounds_toArray, List.set_cons_zero, List.set_cons_succ])
 iterate 3 (refine plan_pure (by rfl) (fun wq => by go_simp; with_reducible rfl) ?_; simp only [Act.put, List.setIfInBounds_toArray, List.set_cons_zero, List.set_cons_succ])
 iterate 1 (refine plan_load (by rfl) (fun wq hq => by obtain ⟨hq0, hq1⟩ := hq; go_simp; with_reducible rfl) ?_; simp only [Act.put, List.setIfInBounds_toArray, List.set_cons_zero, List.set_cons_succ])
 iterate 3 (refine plan_pure (by rfl) (fun wq => by go_simp; with_reducible rfl) ?_; simp only [Act.put, List.setIfInBounds_toArray, List.set_cons_zero, List.set_cons_succ])
 iterate 1 (refine plan_load (by rfl) (fun wq hq => by obtain ⟨hq0, hq1⟩ := hq; go_simp; with_reducible rfl) ?_; simp only [Act.put, List.setIfInBounds_toArray, List.set_cons_zero, List.set_cons_succ])
 iterate 4 (refine plan_pure (by rfl) (fun wq => by go_simp; with_reducible rfl) ?_; simp only [Act.put, List.setIfInBounds_toArray, List.set_cons_zero, List.set_cons_succ])
 refine plan_turn ?_ ?_
 ·rfl
 intro K hK
 go_wp2
 refine ⟨by refine ⟨?_, ?_⟩ <;> go_simp, ?_⟩
 refine plan_done ?_
 by_cases h40 : m > 40
 ·have h40z : (40 : Int) < m := by omega
  go_wp2_with fail
  refine (fail_any _ _ _).mono ?_
  rintro e w' ⟨rfl, rfl⟩
  go_wp2_with fail
  refine ⟨rfl, ?_⟩
  show NameEnd m _ B sb at_ src l w _ _
  unfold NameEnd
  rw [if_pos h40]
  exact ⟨rfl, ((HB1.out.mono hBw).alloc (by have := HB1.out.size; omega) _).drew⟩
 ·have h40z : ¬ (40 : Int) < m := by omega
  go_wp2_with fail
  have HGW := Lib.hid (HG.out.below HB1.out HG.out.size)
  have HGW2 := Lib.hid ((HGW.out.below ((Below.refl w1.heap.size w1).alloc (Nat.le_refl _) (.cells #[.int .i64 1, .string (src.extract at_ (at_ + m)), .int .i64 0, .int .i64 0] 49)) HGW.out.size).drew)
  refine (word_contains src at_ m _ HM.out (by omega) (by omega) HGW2.out).mono ?_
  rintro e w' ⟨rfl, rfl⟩
  generalize HT : isWordF (((bs src).drop at_).take m) = bw
  have hext : bs (src.extract at_ (at_ + m)) = ((bs src).drop at_).take m := by rw [bs_extract, Nat.add_sub_cancel_left]
  have HEXT := Lib.hid hext
  have hwsz := HB1.out.size
  clear hext
  cases bw
  ·have HADD := Lib.hid (add_any B sb at_ src l m 1 0 0 (src.extract at_ (at_ + m)) _ ((HSC1.out.alloc (.cells #[.int .i64 1, .string (src.extract at_ (at_ + m)), .int .i64 0, .int .i64 0] 49)).drew) (by simp; omega) hll (by omega))
   have HT2 := Lib.hid HT
   clear HT
   go_wp2_with fail
   refine HADD.out.mono ?_
   rintro e w' ⟨rfl, hsc, hbb⟩
   go_wp2_with fail
   refine bodyPost_ret (results_none rfl _ _ _) rfl ?_
   unfold NameEnd
   rw [if_neg h40]
   rw [HEXT.out] at hsc
   rw [HT2.out]
   exact ⟨rfl, hsc, (((HB1.out.mono hBw).alloc (by omega) _).drew).trans hbb⟩
  ·have HADD := Lib.hid (add_any B sb at_ src l m 2 0 0 (src.extract at_ (at_ + m)) _ ((HSC1.out.alloc (.cells #[.int .i64 2, .string (src.extract at_ (at_ + m)), .int .i64 0, .int .i64 0] 49)).drew) (by simp; omega) hll (by omega))
   have HT2 := Lib.hid HT
   clear HT
   go_wp2_with fail
   refine HADD.out.mono ?_
   rintro e w' ⟨rfl, hsc, hbb⟩
   go_wp2_with fail
   refine bodyPost_ret (results_none rfl _ _ _) rfl ?_
   unfold NameEnd
   rw [if_neg h40]
   rw [HEXT.out] at hsc
   rw [HT2.out]
   exact ⟨rfl, hsc, (((HB1.out.mono hBw).alloc (by omega) _).drew).trans hbb⟩
end Go.Proofs.YtidiahkobapnjaaGreatDoor
namespace Go.Proofs.YtidiahkobapnjaaGreatDoor
open Go Go.RowKit Lx
def NumEnd (m : Nat) (t : Bs) (B sb at_ : Nat) (src : ByteArray) (l : List Tok) (w : World) (e : Ending) (w' : World) : Prop :=
 if (parseF t).2 ≠ 0 then e = failEnd (parseF t).2 at_ ∧ Below B w w'
 else e = .returned (.tuple #[]) ∧ Sc B sb src (at_ + m) (l ++ [⟨3, t, (parseF t).1, at_⟩]) w' ∧ Below B w w'
set_option maxHeartbeats 4000000 in
set_option maxRecDepth 100000 in
theorem number_any (B sb at_ : Nat) (src : ByteArray) (l : List Tok) (w : World) (h : Sc B sb src at_ l w) (hat : at_ ≤ src.size) (hs : src.size ≤ 100000) (hll : l.length ≤ 100000) (hBw : B ≤ w.heap.size) :
  Calls Tryz.prog 55 #[.pointer (some ⟨sb, 0, none⟩)] w (NumEnd (runL partR ((bs src).drop at_)) (((bs src).drop at_).take (runL partR ((bs src).drop at_))) B sb at_ src l w) := by
 have hm := runL_le' partR ((bs src).drop at_)
 rw [List.length_drop, bs_length] at hm
 obtain ⟨hb, c0, c1⟩ := h.reads
 have HRUN := Lib.hid (run_any 79 partR sb at_ src w sort_part hb c0 c1 hat (by omega))
 generalize hM : runL partR ((bs src).drop at_) = m at *
 have HM := Lib.hid hM
 have HSC := Lib.hid h
 clear hM h
 have hz1 : (at_ : Int) ≤ (at_ : Int) + m := by omega
 have hz2 : (at_ : Int) + m ≤ src.size := by omega
 have hz3 : ((at_ : Int) + m).toNat = at_ + m := by omega
 have hz4 : (at_ : Int) + m ≤ 100000 := by omega
 have hz5 := wrap_in ((at_ : Int) + m) (by omega) (by omega)
 go_enter Tryz.func55, Tryz.ntmps55
 go_wp2_with fail
 refine HRUN.out.mono ?_
 rintro e w1 ⟨rfl, hb1⟩
 have HSC1 := Lib.hid (HSC.out.later hb1)
 have HB1 := Lib.hid hb1
 clear c0 c1 hb hb1
 obtain ⟨hb, c0, c1⟩ := HSC1.out.reads
 have hwsz := HB1.out.size
 have HEXT := Lib.hid (show bs (src.extract at_ (at_ + m)) = ((bs src).drop at_).take m by rw [bs_extract, Nat.add_sub_cancel_left])
 have HPA := Lib.hid (fun w => parse_any (src.extract at_ (at_ + m)) w (by have := congrArg List.length HEXT.out; rw [bs_length, List.length_take, List.length_drop, bs_length] at this; omega))
 generalize hPF : parseF (((bs src).drop at_).take m) = PF at *
 have HPF := Lib.hid hPF
 clear hPF
 go_wp2_with fail
 refine wp_region_plan [(0, 0), (1, 0), (2, 0), (3, 3), (4, 0), (5, 0), (6, 0), (7, 3), (8, 0), (9, 0), (10, 0), (11, 3), (12, 0), (13, 0)] (fun w' => w'.cell? ⟨sb, 0, none⟩ = some (.string src) ∧ w'.cell? ⟨sb, 1, none⟩ = some (.int .i64 at_)) (by kernel_rfl) (by kernel_rfl) (fun _ _ d _ _ h => by cases d <;> exact h) (by refine ⟨?_, ?_⟩ <;> go_simp) ?_
 simp only [planOps, List.filterMap_cons, List.filterMap_nil, List.getElem?_toArray, List.getElem?_cons_zero, List.getElem?_cons_succ, Option.map_some, List.drop_succ_cons, List.drop_zero, List.length_cons, List.length_nil]
 iterate 3 (refine plan_pure (by rfl) (fun wq => by go_simp; with_reducible rfl) ?_; simp only [Act.put, List.setIfInBounds_toArray, List.set_cons_zero, List.set_cons_succ])
 iterate 1 (refine plan_load (by rfl) (fun wq hq => by obtain ⟨hq0, hq1⟩ := hq; go_simp; with_reducible rfl) ?_; simp only [Act.put, List.setIfInBounds_toArray, List.set_cons_zero, List.set_cons_succ])
 iterate 3 (refine plan_pure (by rfl) (fun wq => by go_simp; with_reducible rfl) ?_; simp only [Act.put, List.setIfInBounds_toArray, List.set_cons_zero, List.set_cons_succ])
 iterate 1 (refine plan_load (by rfl) (fun wq hq => by obtain ⟨hq0, hq1⟩ := hq; go_simp; with_reducible rfl) ?_; simp only [Act.put, List.setIfInBounds_toArray, List.set_cons_zero, List.set_cons_succ])
 iterate 3 (refine plan_pure (by rfl) (fun wq => by go_simp; with_reducible rfl) ?_; simp only [Act.put, List.setIfInBounds_toArray, List.set_cons_zero, List.set_cons_succ])
 iterate 1 (refine plan_load (by rfl) (fun wq hq => by obtain ⟨hq0, hq1⟩ := hq; go_simp; with_reducible rfl) ?_; simp only [Act.put, List.setIfInBounds_toArray, List.set_cons_zero, List.set_cons_succ])
 iterate 2 (refine plan_pure (by rfl) (fun wq => by go_simp; with_reducible rfl) ?_; simp only [Act.put, List.setIfInBounds_toArray, List.set_cons_zero, List.set_cons_succ])
 refine plan_done ?_
 go_wp2_with fail
 refine (HPA.out _).mono ?_
 rintro e w2 ⟨rfl, hb2⟩
 rw [HEXT.out, HPF.out]
 have HB2 := Lib.hid hb2
 have HSC2 := Lib.hid (HSC1.out.drew.later hb2)
 clear hb2 hb c0 c1
 obtain ⟨hb, c0, c1⟩ := HSC2.out.reads
 by_cases h0 : PF.2 = 0
 ·rw [h0]
  have HADD := Lib.hid (add_any B sb at_ src l m 3 PF.1 0 (src.extract at_ (at_ + m)) w2 HSC2.out (by have := HB2.out.size; simp at this; omega) hll (by omega))
  go_wp2_with fail
  refine HADD.out.mono ?_
  rintro e w' ⟨rfl, hsc, hbb⟩
  go_wp2_with fail
  refine bodyPost_ret (results_none rfl _ _ _) rfl ?_
  unfold NumEnd
  rw [HPF.out, if_neg (by simp [h0])]
  rw [HEXT.out] at hsc
  exact ⟨rfl, hsc, ((HB1.out.drew.mono hBw).trans (HB2.out.mono (by simp; omega))).trans hbb⟩
 ·have h0' : (PF.2 == 0) = false := by simpa using h0
  go_wp2_with fail
  refine (fail_any _ _ _).mono ?_
  rintro e w' ⟨rfl, rfl⟩
  go_wp2_with fail
  refine ⟨rfl, ?_⟩
  unfold NumEnd
  rw [HPF.out, if_pos h0]
  exact ⟨rfl, (HB1.out.drew.mono hBw).trans (HB2.out.mono (by simp; omega))⟩
end Go.Proofs.YtidiahkobapnjaaGreatDoor
namespace Go.Proofs.YtidiahkobapnjaaGreatDoor
open Go Go.RowKit Lx
def NextEnd (r : Step) (B sb at_ : Nat) (src : ByteArray) (l : List Tok) (w : World) (e : Ending) (w' : World) : Prop :=
 match r with
 | .done => e = .returned (.bool false) ∧ Sc B sb src at_ l w' ∧ Below B w w'
 | .skip n => e = .returned (.bool true) ∧ Sc B sb src (at_ + n) l w' ∧ Below B w w'
 | .tok k t n len => e = .returned (.bool true) ∧ Sc B sb src (at_ + len) (l ++ [⟨k, t, n, at_⟩]) w' ∧ Below B w w'
 | .bad c rel => e = failEnd c (at_ + rel : Nat) ∧ Below B w w'
theorem decL_ascii (l : Bs) (h : (decL l).1 < 128) : (l.getD 0 0).toNat = (decL l).1 := by
 unfold decL at h ⊢
 dsimp only at h ⊢
 by_cases h0 : (l.getD 0 0).toNat < 128
 ·rw [if_pos h0]
 ·rw [if_neg h0] at h ⊢
  exfalso
  (repeat' split at h) <;> simp_all <;> omega
theorem decodeGo_eq (s : ByteArray) (h : bs s ≠ []) : Lib.decodeGo s = decL (bs s) := by
 unfold Lib.decodeGo
 have : s.size ≠ 0 := by
  intro h0
  rw [← bs_length] at h0
  exact h (List.eq_nil_of_length_eq_zero h0)
 rw [if_neg this, decode_eq, List.drop_zero]
set_option maxHeartbeats 4000000 in
set_option maxRecDepth 100000 in
theorem next_any (B sb at_ : Nat) (src : ByteArray) (l : List Tok) (w : World) (h : Sc B sb src at_ l w) (hg : Gl w) (hat : at_ ≤ src.size) (hs : src.size ≤ 100000) (hll : l.length ≤ 100000) (hBw : B ≤ w.heap.size) (hNB : 9 ≤ B) :
  Calls Tryz.prog 21 #[.pointer (some ⟨sb, 0, none⟩)] w (NextEnd (stepF (((bs src).drop at_).drop (runL blankR ((bs src).drop at_)))) B sb (at_ + runL blankR ((bs src).drop at_)) src l w) := by
 have hm := runL_le' blankR ((bs src).drop at_)
 rw [List.length_drop, bs_length] at hm
 obtain ⟨hb, c0, c1⟩ := h.reads
 have HRUN := Lib.hid (run_any 48 blankR sb at_ src w.drew sort_blank hb c0 c1 hat (by omega))
 rw [List.drop_drop]
 generalize runL blankR ((bs src).drop at_) = m at *
 have hz5 := wrap_in ((at_ : Int) + m) (by omega) (by omega)
 rw [show (at_ : Int) + m = ((at_ + m : Nat) : Int) by omega] at hz5
 obtain ⟨a, ha⟩ : ∃ a, at_ + m = a := ⟨_, rfl⟩
 rw [ha] at hz5
 have hz6 : (at_ : Int) + m = a := by omega
 rw [ha]
 have hza : a ≤ src.size := by omega
 have hza2 : (a : Int) ≤ src.size := by omega
 obtain ⟨R9, hR9⟩ : ∃ R9, stepF ((bs src).drop a) = R9 := ⟨_, rfl⟩
 rw [hR9]
 have HR9 := Lib.hid hR9
 have HSC := Lib.hid h
 have HG := Lib.hid hg
 clear h hg hR9
 go_enter Tryz.func21, Tryz.ntmps21
 go_wp2_with fail
 refine wp_region_plan [(0, 0), (1, 0), (2, 0), (3, 3), (4, 0), (5, 1)] (fun w' => w'.cell? ⟨sb, 1, none⟩ = some (.int .i64 at_)) (by kernel_rfl) (by kernel_rfl) (fun _ _ d _ _ h => by cases d <;> exact h) (by first | exact c1 | exact (hb2.cell (p := ⟨sb, 1, none⟩) hb).trans c1) ?_
 simp only [planOps, List.filterMap_cons, List.filterMap_nil, List.getElem?_toArray, List.getElem?_cons_zero, List.getElem?_cons_succ, Option.map_some, List.drop_succ_cons, List.drop_zero, List.length_cons, List.length_nil]
 iterate 3 (refine plan_pure (by rfl) (fun wq => by go_simp; with_reducible rfl) ?_; simp only [Act.put, List.setIfInBounds_toArray, List.set_cons_zero, List.set_cons_succ])
 iterate 1 (refine plan_load (by rfl) (fun wq hq1 => by go_simp; with_reducible rfl) ?_; simp only [Act.put, List.setIfInBounds_toArray, List.set_cons_zero, List.set_cons_succ])
 iterate 1 (refine plan_pure (by rfl) (fun wq => by go_simp; with_reducible rfl) ?_; simp only [Act.put, List.setIfInBounds_toArray, List.set_cons_zero, List.set_cons_succ])
 refine plan_turn ?_ ?_
 ·rfl
 intro K hK
 (go_wp2_with fail; refine HRUN.out.mono ?_; rintro e w1 ⟨rfl, hb2⟩; go_wp2_with fail)
 refine ⟨by first | exact c1 | exact (hb2.cell (p := ⟨sb, 1, none⟩) hb).trans c1, ?_⟩
 refine plan_done ?_
 have HSC1 := Lib.hid (HSC.out.drew.later hb2)
 have HB1 := Lib.hid (((Below.refl w.heap.size w).drew).trans hb2)
 clear hb c0 c1 hb2
 obtain ⟨hb, c0, c1⟩ := HSC1.out.reads
 have hfr := HSC1.out.free 1
 go_wp2_with fail
 have HSC2 := Lib.hid (HSC1.out.move a)
 have HB2 := Lib.hid ((HB1.out.mono hBw).setCell (p := ⟨sb, 1, none⟩) HSC1.out.base (.int .i64 a))
 generalize w1.setCell ⟨sb, 1, none⟩ (.int .i64 a) = w2 at *
 clear hb c0 c1 hfr
 obtain ⟨hb, c0, c1⟩ := HSC2.out.reads
 refine wp_region_plan [(0, 0), (1, 0), (2, 0), (3, 3), (4, 0), (5, 0), (6, 0), (7, 3)] (fun w' => w'.cell? ⟨sb, 0, none⟩ = some (.string src) ∧ w'.cell? ⟨sb, 1, none⟩ = some (.int .i64 a)) (by kernel_rfl) (by kernel_rfl) (fun _ _ d _ _ h => by cases d <;> exact h) (by refine ⟨?_, ?_⟩ <;> go_simp) ?_
 simp only [planOps, List.filterMap_cons, List.filterMap_nil, List.getElem?_toArray, List.getElem?_cons_zero, List.getElem?_cons_succ, Option.map_some, List.drop_succ_cons, List.drop_zero, List.length_cons, List.length_nil]
 iterate 3 (refine plan_pure (by rfl) (fun wq => by go_simp; with_reducible rfl) ?_; simp only [Act.put, List.setIfInBounds_toArray, List.set_cons_zero, List.set_cons_succ])
 iterate 1 (refine plan_load (by rfl) (fun wq hq => by obtain ⟨hq0, hq1⟩ := hq; go_simp; with_reducible rfl) ?_; simp only [Act.put, List.setIfInBounds_toArray, List.set_cons_zero, List.set_cons_succ])
 iterate 3 (refine plan_pure (by rfl) (fun wq => by go_simp; with_reducible rfl) ?_; simp only [Act.put, List.setIfInBounds_toArray, List.set_cons_zero, List.set_cons_succ])
 iterate 1 (refine plan_load (by rfl) (fun wq hq => by obtain ⟨hq0, hq1⟩ := hq; go_simp; with_reducible rfl) ?_; simp only [Act.put, List.setIfInBounds_toArray, List.set_cons_zero, List.set_cons_succ])
 refine plan_done ?_
 go_wp2_with fail
 have HDT := Lib.hid (Tryz.utf8_DecodeRuneInString (src.extract a src.size) w2.drew ((HG.out.below HB2.out hNB).drew).utf)
 have HTL := Lib.hid (bs_tail src a)
 generalize hL : (bs src).drop a = L at *
 generalize hsx : src.extract a src.size = sx at *
 have HL := Lib.hid hL
 clear hL hsx
 cases hLc : L with
 | nil =>
  subst hLc
  have he : sx.toList.isEmpty = true := by
   rw [Lib.toList_data]
   show (bs sx).isEmpty = true
   rw [HTL.out]; rfl
  refine HDT.out.mono ?_
  rintro e w3 ⟨rfl, hb3⟩
  have HB3 := Lib.hid (HB2.out.drew.trans (hb3.mono (by have := HB2.out.size; simp; omega)))
  have HSC3 := Lib.hid (HSC2.out.drew.later hb3)
  clear hb3 hb c0 c1
  go_wp2_with fail
  go_ret
  rw [← HR9.out]
  exact ⟨rfl, HSC3.out, HB3.out⟩
 | cons c t =>
  have hne : ¬ (c :: t = ([] : Bs)) := by simp
  rw [hLc] at HL HTL HR9
  have HDG := Lib.hid (decodeGo_eq sx (by rw [HTL.out]; simp))
  rw [HTL.out] at HDG
  have hrle := decL_le (c :: t)
  generalize hr : (decL (c :: t)).1 = r at *
  have HDEC := Lib.hid hr
  clear hr hLc
  have he := nonempty_of sx c t HTL.out
  have HDT2 := HDT.out
  rw [show (Lib.decodeGo sx).1 = r by rw [HDG.out]; exact HDEC.out] at HDT2
  refine HDT2.mono ?_
  rintro e w3 ⟨rfl, hb3⟩
  have HB3 := Lib.hid (HB2.out.drew.trans (hb3.mono (by have := HB2.out.size; simp; omega)))
  have HSC3 := Lib.hid (HSC2.out.drew.later hb3)
  have hw3 : B ≤ w3.heap.size := by have := HB3.out.size; omega
  have HG3 := Lib.hid (HG.out.below HB3.out hNB)
  clear hb3 hb c0 c1 HDT HDT2 HDG
  obtain ⟨hb, c0, c1⟩ := HSC3.out.reads
  have HPX := Lib.hid (prefix_any sx [45, 45])
  rw [HTL.out] at HPX
  by_cases hpre : ([45, 45] : Bs).isPrefixOf (c :: t) = true
  ·rw [hpre] at HPX
   have HPRE := Lib.hid hpre
   clear hpre
   go_wp2_with fail
   refine (HPX.out w3).mono ?_
   rintro e w' ⟨rfl, rfl⟩
   have hn := runL_le' inLineR ((bs src).drop a)
   rw [List.length_drop, bs_length, HL.out] at hn
   have HRL := Lib.hid (run_any 51 inLineR sb a src w3.drew sort_inLine hb c0 c1 hza (by omega))
   rw [HL.out] at HRL
   obtain ⟨n, hn2⟩ : ∃ n, runL inLineR (c :: t) = n := ⟨_, rfl⟩
   rw [hn2] at hn HRL
   have HRN := Lib.hid hn2
   clear hn2
   have hzn := wrap_in ((a : Int) + n) (by omega) (by omega)
   rw [show (a : Int) + n = ((a + n : Nat) : Int) by omega] at hzn
   obtain ⟨an, han⟩ : ∃ an, a + n = an := ⟨_, rfl⟩
   rw [han] at hzn
   have hzn2 : (a : Int) + n = an := by omega
   go_wp2_with fail
   refine wp_region_plan [(0, 0), (1, 0), (2, 0), (3, 3), (4, 0), (5, 1)] (fun w' => w'.cell? ⟨sb, 1, none⟩ = some (.int .i64 a)) (by kernel_rfl) (by kernel_rfl) (fun _ _ d _ _ h => by cases d <;> exact h) (by first | exact c1 | exact (hb4.cell (p := ⟨sb, 1, none⟩) hb).trans c1) ?_
   simp only [planOps, List.filterMap_cons, List.filterMap_nil, List.getElem?_toArray, List.getElem?_cons_zero, List.getElem?_cons_succ, Option.map_some, List.drop_succ_cons, List.drop_zero, List.length_cons, List.length_nil]
   iterate 3 (refine plan_pure (by rfl) (fun wq => by go_simp; with_reducible rfl) ?_; simp only [Act.put, List.setIfInBounds_toArray, List.set_cons_zero, List.set_cons_succ])
   iterate 1 (refine plan_load (by rfl) (fun wq hq1 => by go_simp; with_reducible rfl) ?_; simp only [Act.put, List.setIfInBounds_toArray, List.set_cons_zero, List.set_cons_succ])
   iterate 1 (refine plan_pure (by rfl) (fun wq => by go_simp; with_reducible rfl) ?_; simp only [Act.put, List.setIfInBounds_toArray, List.set_cons_zero, List.set_cons_succ])
   refine plan_turn ?_ ?_
   ·rfl
   intro K hK
   (go_wp2_with fail; refine HRL.out.mono ?_; rintro e w4 ⟨rfl, hb4⟩; go_wp2_with fail)
   refine ⟨by first | exact c1 | exact (hb4.cell (p := ⟨sb, 1, none⟩) hb).trans c1, ?_⟩
   refine plan_done ?_
   have HSC4 := Lib.hid (HSC3.out.drew.later hb4)
   have HB4 := Lib.hid (HB3.out.drew.trans (hb4.mono hw3))
   clear hb c0 c1 hb4
   obtain ⟨hb, c0, c1⟩ := HSC4.out.reads
   have hfr := HSC4.out.free 1
   go_wp2_with fail
   go_ret
   have hgg := HR9.out
   unfold stepF at hgg
   rw [HDEC.out, if_neg hne, if_pos HPRE.out, HRN.out] at hgg
   rw [← hgg]
   refine ⟨rfl, ?_, HB4.out.setCell (p := ⟨sb, 1, none⟩) HSC4.out.base (.int .i64 an)⟩
   rw [han]
   exact HSC4.out.move an
  ·have hpre' : ([45, 45] : Bs).isPrefixOf (c :: t) = false := Bool.eq_false_iff.2 hpre
   rw [hpre'] at HPX
   have HPRE := Lib.hid hpre
   clear hpre hpre'
   go_wp2_with fail
   refine (HPX.out w3).mono ?_
   rintro e w' ⟨rfl, rfl⟩
   cases hlet : letterR r with
   | true =>
    have HLET := Lib.hid hlet
    have HLC := Lib.hid (sort_letter.2 r w3 hrle)
    rw [hlet] at HLC
    clear hlet
    go_wp2_with fail
    refine HLC.out.mono ?_
    rintro e w' ⟨rfl, rfl⟩
    have HNM := Lib.hid (name_any B sb a src l w3 HSC3.out HG3.out hza hs hll hw3)
    rw [HL.out] at HNM
    by_cases h40 : runL partR (c :: t) > 40
    ·have HNM2 := Lib.hid (HNM.out.mono fun e w' h => (by unfold NameEnd at h; rw [if_pos h40] at h; exact h : e = failEnd 14 a ∧ Below B w3 w'))
     go_wp2_with fail
     refine HNM2.out.mono ?_
     rintro e w4 ⟨rfl, hb4⟩
     go_wp2_with fail
     refine ⟨rfl, ?_⟩
     have hgg := HR9.out
     unfold stepF at hgg
     rw [HDEC.out, if_neg hne, if_neg HPRE.out, if_pos HLET.out] at hgg
     dsimp only at hgg
     rw [if_pos h40] at hgg
     rw [← hgg]
     exact ⟨rfl, HB3.out.trans hb4⟩
    ·have HNM2 := Lib.hid (HNM.out.mono fun e w' h => (by unfold NameEnd at h; rw [if_neg h40] at h; exact h : e = .returned (.tuple #[]) ∧ Sc B sb src (a + runL partR (c :: t)) (l ++ [⟨if isWordF ((c :: t).take (runL partR (c :: t))) then 2 else 1, (c :: t).take (runL partR (c :: t)), 0, a⟩]) w' ∧ Below B w3 w'))
     go_wp2_with fail
     refine HNM2.out.mono ?_
     rintro e w4 ⟨rfl, hsc4, hb4⟩
     go_wp2_with fail
     go_ret
     have hgg := HR9.out
     unfold stepF at hgg
     rw [HDEC.out, if_neg hne, if_neg HPRE.out, if_pos HLET.out] at hgg
     dsimp only at hgg
     rw [if_neg h40] at hgg
     rw [← hgg]
     exact ⟨rfl, hsc4, HB3.out.trans hb4⟩
   | false =>
    have HLET := Lib.hid (show ¬ letterR r = true by rw [hlet]; simp)
    have HLC := Lib.hid (sort_letter.2 r w3 hrle)
    rw [hlet] at HLC
    clear hlet
    go_wp2_with fail
    refine HLC.out.mono ?_
    rintro e w' ⟨rfl, rfl⟩
    cases hdig : digitR r with
    | true =>
     have HDIG := Lib.hid hdig
     have HDC := Lib.hid (sort_digit.2 r w3 hrle)
     rw [hdig] at HDC
     clear hdig
     go_wp2_with fail
     refine HDC.out.mono ?_
     rintro e w' ⟨rfl, rfl⟩
     have HNM := Lib.hid (number_any B sb a src l w3 HSC3.out hza hs hll hw3)
     rw [HL.out] at HNM
     by_cases h40 : (parseF ((c :: t).take (runL partR (c :: t)))).2 ≠ 0
     ·have HNM2 := Lib.hid (HNM.out.mono fun e w' h => (by unfold NumEnd at h; rw [if_pos h40] at h; exact h : e = failEnd (parseF ((c :: t).take (runL partR (c :: t)))).2 a ∧ Below B w3 w'))
      go_wp2_with fail
      refine HNM2.out.mono ?_
      rintro e w4 ⟨rfl, hb4⟩
      go_wp2_with fail
      refine ⟨rfl, ?_⟩
      have hgg := HR9.out
      unfold stepF at hgg
      rw [HDEC.out, if_neg hne, if_neg HPRE.out, if_neg HLET.out, if_pos HDIG.out] at hgg
      dsimp only at hgg
      rw [if_pos h40] at hgg
      rw [← hgg]
      exact ⟨rfl, HB3.out.trans hb4⟩
     ·have HNM2 := Lib.hid (HNM.out.mono fun e w' h => (by unfold NumEnd at h; rw [if_neg h40] at h; exact h : e = .returned (.tuple #[]) ∧ Sc B sb src (a + runL partR (c :: t)) (l ++ [⟨3, (c :: t).take (runL partR (c :: t)), (parseF ((c :: t).take (runL partR (c :: t)))).1, a⟩]) w' ∧ Below B w3 w'))
      go_wp2_with fail
      refine HNM2.out.mono ?_
      rintro e w4 ⟨rfl, hsc4, hb4⟩
      go_wp2_with fail
      go_ret
      have hgg := HR9.out
      unfold stepF at hgg
      rw [HDEC.out, if_neg hne, if_neg HPRE.out, if_neg HLET.out, if_pos HDIG.out] at hgg
      dsimp only at hgg
      rw [if_neg h40] at hgg
      rw [← hgg]
      exact ⟨rfl, hsc4, HB3.out.trans hb4⟩
    | false =>
     have HDIG := Lib.hid (show ¬ digitR r = true by rw [hdig]; simp)
     have HDC := Lib.hid (sort_digit.2 r w3 hrle)
     rw [hdig] at HDC
     clear hdig
     go_wp2_with fail
     refine HDC.out.mono ?_
     rintro e w' ⟨rfl, rfl⟩
     by_cases hq : r = 34 ∨ r = 39
     ·have hc : (c :: t).getD 0 0 = c := rfl
      have hcr : c.toNat = r := by
       have := decL_ascii (c :: t) (by rw [HDEC.out]; omega)
       rw [HDEC.out] at this
       exact this
      have HQ := Lib.hid hq
      have hwr : IntKind.u8.wrap (r : Int) = c.toNat := by
       rw [hcr]
       rcases HQ.out with h | h <;> rw [h] <;> rfl
      have hcu : UInt8.ofNat r = c := by rw [← hcr]; simp
      have hlen5 : src.size ≤ 100000 := hs
      have HTX := Lib.hid (text_any B sb a src l c t w3 HSC3.out HL.out hs hll hw3)
      have HCU := Lib.hid hcu
      clear hcu hcr hc
      generalize htx : textG c (c :: t).length t [] 1 = TX at *
      have HTE := Lib.hid htx
      clear htx
      have key : ∀ e w', TextEnd TX B sb a src l w3 e w' → True := fun _ _ _ => trivial
      have hgg := HR9.out
      unfold stepF at hgg
      rw [HDEC.out, if_neg hne, if_neg HPRE.out, if_neg HLET.out, if_neg HDIG.out, if_pos HQ.out, HCU.out] at hgg
      rw [List.tail_cons, HTE.out] at hgg
      have HGG := Lib.hid hgg
      clear hgg key
      rcases hq with hq | hq
      ·have hq1 : ((r : Int) == 34) = true := by rw [beq_iff_eq]; omega
       clear hq
       go_wp2_with fail
       refine HTX.out.mono ?_
       cases TX with
       | bad ec er =>
        rintro e w4 ⟨rfl, hb4⟩
        go_wp2_with fail
        refine ⟨rfl, ?_⟩
        rw [← HGG.out]
        exact ⟨rfl, HB3.out.trans hb4⟩
       | ok ev en =>
        rintro e w4 ⟨rfl, hsc4, hb4⟩
        go_wp2_with fail
        go_ret
        rw [← HGG.out]
        exact ⟨rfl, hsc4, HB3.out.trans hb4⟩
      ·have hq1 : ((r : Int) == 34) = false := by rw [beq_eq_false_iff_ne]; omega
       have hq2 : ((r : Int) == 39) = true := by rw [beq_iff_eq]; omega
       clear hq
       go_wp2_with fail
       refine HTX.out.mono ?_
       cases TX with
       | bad ec er =>
        rintro e w4 ⟨rfl, hb4⟩
        go_wp2_with fail
        refine ⟨rfl, ?_⟩
        rw [← HGG.out]
        exact ⟨rfl, HB3.out.trans hb4⟩
       | ok ev en =>
        rintro e w4 ⟨rfl, hsc4, hb4⟩
        go_wp2_with fail
        go_ret
        rw [← HGG.out]
        exact ⟨rfl, hsc4, HB3.out.trans hb4⟩
     ·have hq1 : ((r : Int) == 34) = false := by rw [beq_eq_false_iff_ne]; omega
      have hq2 : ((r : Int) == 39) = false := by rw [beq_eq_false_iff_ne]; omega
      have HSG := Lib.hid (sign_any B sb a src l w3 HSC3.out HG3.out hza hs hll hw3)
      rw [HL.out] at HSG
      go_wp2_with fail
      refine HSG.out.mono ?_
      have HQ := Lib.hid hq
      cases hsg : signF (c :: t) with
      | none =>
       have HSGE := Lib.hid hsg
       rintro e w4 ⟨rfl, hb4⟩
       clear hsg
       go_wp2_with fail
       refine ⟨rfl, ?_⟩
       have hgg := HR9.out
       unfold stepF at hgg
       rw [HDEC.out, if_neg hne, if_neg HPRE.out, if_neg HLET.out, if_neg HDIG.out, if_neg HQ.out, HSGE.out] at hgg
       rw [← hgg]
       exact ⟨rfl, HB3.out.trans hb4⟩
      | some sg =>
       have HSGE := Lib.hid hsg
       rintro e w4 ⟨rfl, hsc4, hb4⟩
       clear hsg
       go_wp2_with fail
       go_ret
       have hgg := HR9.out
       unfold stepF at hgg
       rw [HDEC.out, if_neg hne, if_neg HPRE.out, if_neg HLET.out, if_neg HDIG.out, if_neg HQ.out, HSGE.out] at hgg
       rw [← hgg]
       exact ⟨rfl, hsc4, HB3.out.trans hb4⟩
end Go.Proofs.YtidiahkobapnjaaGreatDoor
namespace Go.Proofs.YtidiahkobapnjaaGreatDoor
open Go Go.RowKit Lx
set_option maxRecDepth 100000 in
set_option maxHeartbeats 2000000 in
theorem scan_panicking (p q : Nat) (x : Value) (y1 y2 : Int) (c a : Int) (w : World) (hp : w.cell? ⟨p, 0, none⟩ = some x) (hq0 : w.cell? ⟨q, 0, none⟩ = some (.int .i64 y1)) (hq1 : w.cell? ⟨q, 1, none⟩ = some (.int .i64 y2))
  (fp : w.frozen? ⟨p, 0, none⟩ = false) (fq : w.frozen? ⟨q, 0, none⟩ = false) (fq1 : w.frozen? ⟨q, 1, none⟩ = false) (hpl : p < w.heap.size) (hql : q < w.heap.size) (hne : p < q) :
  CallsD Tryz.prog 20 #[.pointer (some ⟨p, 0, none⟩), .pointer (some ⟨q, 0, none⟩)] (.panicking [{ v := .iface 64 (.agg #[.int .i64 c, .int .i64 a]), recovered := false }]) w fun e u' w' =>
   e = .returned (.tuple #[]) ∧ u' = .panicking [{ v := .iface 64 (.agg #[.int .i64 c, .int .i64 a]), recovered := true }] ∧
   w'.cell? ⟨p, 0, none⟩ = some (.slice none 0 0) ∧ w'.cell? ⟨q, 0, none⟩ = some (.int .i64 c) ∧ w'.cell? ⟨q, 1, none⟩ = some (.int .i64 a) ∧ Below p w w' := by
 refine callsD_of_wpS Tryz.func20 rfl fun c₀ cs hu => ?_
 have hta : ∀ w, (Instr.typeAssert (.iface 64 (.agg #[.int .i64 c, .int .i64 a])) 20 64 true).run Tryz.prog w = .ok (.tuple #[.agg #[.int .i64 c, .int .i64 a], .bool true]) w := fun w => by kernel_rfl
 apply wpS_seq
 apply wpS_region
 simp [wpOpsS, go_sem, recoverD, hu, Tryz.ntmps20, Exit.thenS, Array.replicate_succ]
 refine wpS_of_wp ?_
 go_wp2
 have hpn : ¬ w.heap.size = p := by omega
 have hqn : ¬ w.heap.size = q := by omega
 have hpq : ¬ p = q := by omega
 have hqp : ¬ q = p := by omega
 have hpn' : ¬ p = w.heap.size := by omega
 have hqn' : ¬ q = w.heap.size := by omega
 refine wp_region_plan [(0, 3), (1, 1)] (fun w' => w'.cell? ⟨w.heap.size, 0, none⟩ = some (.int .i64 c) ∧ w'.cell? ⟨w.heap.size, 1, none⟩ = some (.int .i64 a)) (by kernel_rfl) (by kernel_rfl) (fun _ _ d _ _ h => by cases d <;> exact h) (by refine ⟨?_, ?_⟩ <;> go_simp) ?_
 simp only [planOps, List.filterMap_cons, List.filterMap_nil, List.getElem?_toArray, List.getElem?_cons_zero, List.getElem?_cons_succ, Option.map_some, List.drop_succ_cons, List.drop_zero, List.length_cons, List.length_nil]
 iterate 1 (refine plan_load (by rfl) (fun wq hq => by obtain ⟨hq0, hq1⟩ := hq; go_simp; with_reducible rfl) ?_; simp only [Act.put, List.setIfInBounds_toArray, List.set_cons_zero, List.set_cons_succ])
 refine plan_turn ?_ ?_
 ·rfl
 intro K hK
 go_wp2
 refine ⟨by refine ⟨?_, ?_⟩ <;> go_simp, ?_⟩
 refine plan_done ?_
 go_wp2
 simp [bodyPostS, results, Tryz.results20]
 refine ⟨?_, ?_, ?_, ?_⟩
 ·go_simp
 ·go_simp
 ·go_simp
 ·exact (((((Below.refl p w).setCell (p := ⟨p, 0, none⟩) (Nat.le_refl _) _).setCell (p := ⟨q, 0, none⟩) (Nat.le_of_lt hne) _).setCell (p := ⟨q, 1, none⟩) (Nat.le_of_lt hne) _).alloc (by simp; omega) _).drew
theorem scan_idle (p q : Value) (w : World) :
  CallsD Tryz.prog 20 #[p, q] .returning w fun e u' w' => e = .returned (.tuple #[]) ∧ u' = .returning ∧ w = w' := by
 refine callsD_of_wpS Tryz.func20 rfl fun c₀ cs hu => ?_
 apply wpS_seq
 apply wpS_region
 simp [wpOpsS, go_sem, recoverD, hu, Tryz.ntmps20, Exit.thenS, Array.replicate_succ]
 refine wpS_of_wp ?_
 go_wp2
 cases c₀
 simp_all [bodyPostS, results, Tryz.results20]
end Go.Proofs.YtidiahkobapnjaaGreatDoor
namespace Go.Proofs.YtidiahkobapnjaaGreatDoor
namespace Lx
theorem runL_pos (p : Nat → Bool) (l : Bs) (hl : l ≠ []) (h : p (decL l).1 = true) : 1 ≤ runL p l := by
 rw [runL_step p l hl, if_pos h]
 have := (decL_width l).1
 omega
theorem stepF_skip (l : Bs) (n : Nat) (h : stepF l = .skip n) : 1 ≤ n ∧ n ≤ l.length := by
 unfold stepF at h
 by_cases h0 : l = []
 ·rw [if_pos h0] at h; cases h
 rw [if_neg h0] at h
 by_cases h1 : [45, 45].isPrefixOf l = true
 ·rw [if_pos h1] at h
  cases h
  refine ⟨runL_pos _ _ h0 ?_, runL_le' _ _⟩
  obtain ⟨t, rfl⟩ := List.isPrefixOf_iff_prefix.1 h1
  rfl
 ·rw [if_neg h1] at h
  exfalso
  dsimp only at h
  (repeat' split at h) <;> cases h
theorem hexG_len : ∀ (m : Nat) (t : Bs) (n k : Nat), (hexG m t n k).2 ≤ k + t.length
 | 0, t, n, k => by simp [hexG]
 | m + 1, [], n, k => by simp [hexG]
 | m + 1, b :: t, n, k => by
  simp only [hexG]
  split
  ·simp
  ·rename_i d _
   have := hexG_len m t (16 * n + d) (k + 1)
   simp only [List.length_cons]; omega
theorem decG_len : ∀ (m : Nat) (t : Bs) (n k : Nat), (decG m t n k).2 ≤ k + t.length
 | 0, t, n, k => by simp [decG]
 | m + 1, [], n, k => by simp [decG]
 | m + 1, b :: t, n, k => by
  simp only [decG]
  split
  ·have := decG_len m t (10 * n + (b.toNat - 48)) (k + 1)
   simp only [List.length_cons]; omega
  ·simp
theorem escF_room (l e : Bs) (n : Nat) (h : escF l = .ok e n) : 2 ≤ n ∧ n ≤ l.length + 1 := by
 cases l with
 | nil => cases h
 | cons c t =>
  simp only [escF] at h
  split at h
  ·cases h; simp
  split at h
  ·split at h
   ·cases h
   ·rename_i h2
    cases h
    have := hexG_len 2 t 0 0
    have : (hexG 2 t 0 0).2 ≤ 2 := by
     have hb : ∀ m (t : Bs) n k, (hexG m t n k).2 ≤ k + m := by
      intro m
      induction m with
      | zero => intros; simp [hexG]
      | succ m ih =>
       intro t n k
       cases t with
       | nil => simp [hexG]
       | cons b t =>
        simp only [hexG]
        split
        ·simp
        ·rename_i d _
         have := ih t (16 * n + d) (k + 1)
         omega
     exact hb 2 t 0 0
    simp only [List.length_cons]; omega
  split at h
  ·rename_i h3
   split at h
   ·cases h
   ·rename_i h4
    simp only [Esc.ok.injEq] at h
    obtain ⟨-, rfl⟩ := h
    cases t with
    | nil => simp at h3
    | cons d t =>
     simp only [List.tail_cons, not_or, Decidable.not_not] at h4 ⊢
     have h5 := h4.2.2
     have : (hexG 8 t 0 0).2 < t.length := by
      rcases Nat.lt_or_ge (hexG 8 t 0 0).2 t.length with h | h
      ·exact h
      ·rw [List.drop_of_length_le h] at h5
       simp at h5
     simp only [List.length_cons]; omega
  ·split at h
   ·cases h
   ·rename_i h4
    simp only [Esc.ok.injEq] at h
    obtain ⟨-, rfl⟩ := h
    have := decG_len 3 (c :: t) 0 0
    simp only [not_or] at h4
    omega
theorem textG_room (q : UInt8) : ∀ (f : Nat) (l acc : Bs) (i : Nat) (v : Bs) (k : Nat), textG q f l acc i = .ok v k → i < k ∧ k ≤ i + l.length
 | 0, l, acc, i, v, k, h => by cases h
 | f + 1, [], acc, i, v, k, h => by cases h
 | f + 1, b :: t, acc, i, v, k, h => by
  simp only [textG] at h
  split at h
  ·cases h
  split at h
  ·split at h
   ·cases h
   ·cases h; simp
  split at h
  ·split at h
   ·cases h
   ·cases h
   ·rename_i e n he
    have h1 := escF_room t e n he
    have h2 := textG_room q f _ _ _ v k h
    rw [List.length_drop] at h2
    simp only [List.length_cons] at h2 ⊢
    omega
  ·have h2 := textG_room q f _ _ _ v k h
   simp only [List.length_cons]
   omega
theorem stepF_tok (l : Bs) (k : Int) (t : Bs) (n : Int) (len : Nat) (h : stepF l = .tok k t n len) : 1 ≤ len ∧ len ≤ l.length := by
 unfold stepF at h
 by_cases h0 : l = []
 ·rw [if_pos h0] at h; cases h
 rw [if_neg h0] at h
 have hl : 1 ≤ l.length := by cases l with | nil => exact absurd rfl h0 | cons => simp
 by_cases h1 : [45, 45].isPrefixOf l = true
 ·rw [if_pos h1] at h; cases h
 rw [if_neg h1] at h
 by_cases h2 : letterR (decL l).1 = true
 ·rw [if_pos h2] at h
  dsimp only at h
  split at h
  ·cases h
  ·cases h
   exact ⟨runL_pos _ _ h0 (by unfold partR; rw [h2]; rfl), runL_le' _ _⟩
 rw [if_neg h2] at h
 by_cases h3 : digitR (decL l).1 = true
 ·rw [if_pos h3] at h
  dsimp only at h
  split at h
  ·cases h
  ·cases h
   exact ⟨runL_pos _ _ h0 (by unfold partR; rw [h3]; simp), runL_le' _ _⟩
 rw [if_neg h3] at h
 split at h
 ·split at h
  ·cases h
  ·rename_i v k' ht
   cases h
   have := textG_room _ _ _ _ _ _ _ ht
   rw [List.length_tail] at this
   omega
 ·split at h
  ·cases h
  ·rename_i s hs
   cases h
   have hm := List.mem_of_find?_eq_some hs
   have hp := List.find?_some hs
   have : ∀ s ∈ signList, 1 ≤ s.length := by decide
   refine ⟨this _ hm, ?_⟩
   exact (List.isPrefixOf_iff_prefix.1 hp).length_le
end Lx
end Go.Proofs.YtidiahkobapnjaaGreatDoor
namespace Go.Proofs.YtidiahkobapnjaaGreatDoor
open Go Go.RowKit Lx
def ScanEnd (R : (Int × Int) ⊕ List Tok) (w : World) (e : Ending) (w' : World) : Prop :=
 match R with
 | .inl (c, a) => e = .returned (.tuple #[.slice none 0 0, .agg #[.int .i64 c, .int .i64 a]]) ∧ Below w.heap.size w w'
 | .inr l => ∃ lv, e = .returned (.tuple #[lv, .agg #[.int .i64 0, .int .i64 0]]) ∧ w'.ownsRow w.heap.size 49 4 lv l.length (tokRow l) ∧ Below w.heap.size w w'
def posOf (sb : Nat) (w : World) : Nat := match w.cell? ⟨sb, 1, none⟩ with | some (.int _ k) => k.toNat | _ => 0
theorem posOf_sc {B sb at_ : Nat} {src : ByteArray} {l : List Tok} {w : World} (h : Sc B sb src at_ l w) : posOf sb w = at_ := by
 unfold posOf
 rw [h.reads.2.2]
 simp
theorem sc_new (src : ByteArray) (B : Nat) (w : World) (hB : B ≤ w.heap.size) : Sc B w.heap.size src 0 [] (w.alloc (.cells #[.string src, .int .i64 0, .slice none 0 0] 67)) :=
 ⟨.slice none 0 0, blk_new w _, ⟨by simp [tokRow], .inl ⟨rfl, rfl⟩⟩, by simp [Value.ownBlock], hB⟩
theorem ownsRow_base {w : World} {B B' : Nat} {e : TypeId} {size n : Nat} {v : Value} {xs : List Value} (h : w.ownsRow B e size v n xs) (hB : B' ≤ B) : w.ownsRow B' e size v n xs := by
 refine ⟨h.1, ?_⟩
 rcases h.2 with h | ⟨g, cap, cur, hv, hg, r⟩
 ·exact .inl h
 ·exact .inr ⟨g, cap, cur, hv, by omega, r⟩
set_option maxHeartbeats 4000000 in
set_option maxRecDepth 100000 in
theorem scan_big (src : ByteArray) (w : World) (hs : src.size > 20000) : Calls Tryz.prog 9 #[.string src] w (ScanEnd (.inl (14, -1)) w) := by
 have hz : (20000 : Int) < src.size := by omega
 go_enter_defers Tryz.func9, Tryz.ntmps9
 go_wp2_with fail
 simp [bodyPostD, Leaves, settle, results, Tryz.results9, go_sem]
 exact ⟨rfl, (((Below.refl w.heap.size w).alloc (Nat.le_refl _) _).alloc (by simp) _)⟩
set_option maxHeartbeats 4000000 in
set_option maxRecDepth 100000 in
theorem scan_small (src : ByteArray) (w : World) (hs : src.size ≤ 20000) (hg : Gl w) : Calls Tryz.prog 9 #[.string src] w (ScanEnd (scanG (src.size + 1) (bs src) 0 []) w) := by
 obtain ⟨R9, hR9⟩ : ∃ R9, scanG (src.size + 1) (bs src) 0 [] = R9 := ⟨_, rfl⟩
 rw [hR9]
 have HR9 := Lib.hid hR9
 have HG := Lib.hid hg
 have hz : ¬ (20000 : Int) < src.size := by omega
 clear hR9 hg
 have hmf : ∀ (fn : Fn) (first cap : Array Value) (w : World), (Instr.makeFunc fn first cap).run Tryz.prog w = .ok (.func fn first cap) w := fun _ _ _ _ => rfl
 go_enter_defers Tryz.func9, Tryz.ntmps9
 go_wp2_with fail
 have HSC0 := sc_new src (w.heap.size + 2) ((w.alloc (.cells #[.slice none 0 0] 40)).alloc (.cells #[.int .i64 0, .int .i64 0] 27)) (by simp)
 simp only [World.size_alloc] at HSC0
 have HSC0 := Lib.hid HSC0
 have HBP := Lib.hid (blk_alloc (o' := .cells #[.string src, .int .i64 0, .slice none 0 0] 67) (blk_alloc (o' := .cells #[.int .i64 0, .int .i64 0] 27) (blk_new w (.cells #[.slice none 0 0] 40))))
 have hbq := blk_alloc (o' := .cells #[.string src, .int .i64 0, .slice none 0 0] 67) (blk_new (w.alloc (.cells #[.slice none 0 0] 40)) (.cells #[.int .i64 0, .int .i64 0] 27))
 simp only [World.size_alloc] at hbq
 have HBQ := Lib.hid hbq
 have HB0 := Lib.hid ((((Below.refl w.heap.size w).alloc (Nat.le_refl _) (.cells #[.slice none 0 0] 40)).alloc (by simp) (.cells #[.int .i64 0, .int .i64 0] 27)).alloc (by simp; omega) (.cells #[.string src, .int .i64 0, .slice none 0 0] 67))
 clear hbq
 generalize hw3 : ((w.alloc (.cells #[.slice none 0 0] 40)).alloc (.cells #[.int .i64 0, .int .i64 0] 27)).alloc (.cells #[.string src, .int .i64 0, .slice none 0 0] 67) = w3 at *
 have hsz3 : w3.heap.size = w.heap.size + 3 := by rw [← hw3]; simp
 clear hw3
 go_loopw [] (fun wr => ∃ (at_ f : Nat) (l : List Tok), at_ ≤ src.size ∧ l.length ≤ at_ ∧ src.size - at_ + 1 ≤ f ∧ Hid (Sc (w.heap.size + 2) (w.heap.size + 1 + 1) src at_ l wr) ∧ Hid (scanG f ((bs src).drop at_) at_ l = R9) ∧ Hid (Below (w.heap.size + 2) w3 wr)) (fun wr => src.size - posOf (w.heap.size + 1 + 1) wr)
 case atStart => exact ⟨0, src.size + 1, [], by omega, by simp, by omega, HSC0, HR9, Below.refl _ _⟩
 case round =>
  obtain ⟨at_, f, l, h1, h2, h3, HSC, HGG, HBL⟩ := hrel
  have hszr := HBL.out.size
  have HNX := next_any (w.heap.size + 2) (w.heap.size + 1 + 1) at_ src l wr HSC.out ((HG.out.below HB0.out HG.out.size).below HBL.out (by have := HG.out.size; omega)) h1 (by omega) (by omega) (by omega) (by have := HG.out.size; omega)
  obtain ⟨f, rfl⟩ : ∃ g, f = g + 1 := ⟨f - 1, by omega⟩
  have hg := HGG.out
  simp only [scanG] at hg
  have hk := runL_le' blankR ((bs src).drop at_)
  generalize runL blankR ((bs src).drop at_) = k at *
  have hlen : (((bs src).drop at_).drop k).length = src.size - at_ - k := by rw [List.length_drop, List.length_drop, bs_length]
  rw [List.length_drop, bs_length] at hk
  cases hst : stepF (((bs src).drop at_).drop k) with
  | done =>
   rw [hst] at hg HNX
   simp only at hg
   have HN := Lib.hid HNX
   have HE := Lib.hid hg
   clear hg HNX hst hlen HGG
   go_wp2_with fail
   refine HN.out.mono ?_
   rintro e w4 ⟨rfl, hsc4, hb4⟩
   have HADD := Lib.hid (add_any (w.heap.size + 2) (w.heap.size + 1 + 1) (at_ + k) src l 0 6 0 0 ByteArray.empty w4 hsc4 (by have := hb4.size; omega) (by omega) (by omega))
   have HB4 := Lib.hid (HBL.out.trans hb4)
   clear hsc4 hb4
   go_wp2_with fail
   refine HADD.out.mono ?_
   rintro e w5 ⟨rfl, hsc5, hb5⟩
   have HB5 := Lib.hid (HB4.out.trans hb5)
   have hlen5 : (l ++ [(⟨6, bs ByteArray.empty, 0, at_ + k⟩ : Tok)]).length = l.length + 1 := by simp
   obtain ⟨lv, hblk, hown, hne, hsb⟩ := hsc5
   rw [hlen5] at hown
   obtain ⟨g, cap, hv, hg1, hg2⟩ := owns_shape hown hblk (by decide)
   subst hv
   have c2 : w5.cell? ⟨w.heap.size + 1 + 1, 2, none⟩ = some (.slice (some ⟨g, 0, none⟩) (l.length + 1) cap) := by rw [blk_cell hblk]; rfl
   have hb0 := blk_lt hblk
   have HOWN := Lib.hid hown
   have hp := blk_below HB5.out (by omega) HBP.out
   have hq := blk_below HB5.out (by omega) HBQ.out
   have p0 : w5.cell? ⟨w.heap.size, 0, none⟩ = some (.slice none 0 0) := by rw [blk_cell hp]; rfl
   have q0 : w5.cell? ⟨w.heap.size + 1, 0, none⟩ = some (.int .i64 0) := by rw [blk_cell hq]; rfl
   have q1 : w5.cell? ⟨w.heap.size + 1, 1, none⟩ = some (.int .i64 0) := by rw [blk_cell hq]; rfl
   have pf := blk_free hp 0
   have qf0 := blk_free hq 0
   have qf1 := blk_free hq 1
   clear hsb hne hown hblk hp hq hb5 hlen5
   go_wp2_with fail
   have hgp : ¬ w.heap.size = g := by omega
   have hgq : ¬ w.heap.size + 1 = g := by omega
   have r0 : (((w5.setCell ⟨w.heap.size, 0, none⟩ (.slice (some ⟨g, 0, none⟩) (l.length + 1) cap)).setCell ⟨w.heap.size + 1, 0, none⟩ (.int .i64 0)).setCell ⟨w.heap.size + 1, 1, none⟩ (.int .i64 0)).cell? ⟨w.heap.size, 0, none⟩ = some (.slice (some ⟨g, 0, none⟩) (l.length + 1) cap) := by go_simp
   have r1 : (((w5.setCell ⟨w.heap.size, 0, none⟩ (.slice (some ⟨g, 0, none⟩) (l.length + 1) cap)).setCell ⟨w.heap.size + 1, 0, none⟩ (.int .i64 0)).setCell ⟨w.heap.size + 1, 1, none⟩ (.int .i64 0)).cell? ⟨w.heap.size + 1, 0, none⟩ = some (.int .i64 0) := by go_simp
   have r2 : (((w5.setCell ⟨w.heap.size, 0, none⟩ (.slice (some ⟨g, 0, none⟩) (l.length + 1) cap)).setCell ⟨w.heap.size + 1, 0, none⟩ (.int .i64 0)).setCell ⟨w.heap.size + 1, 1, none⟩ (.int .i64 0)).cell? ⟨w.heap.size + 1, 1, none⟩ = some (.int .i64 0) := by go_simp
   generalize hw9 : ((w5.setCell ⟨w.heap.size, 0, none⟩ (.slice (some ⟨g, 0, none⟩) (l.length + 1) cap)).setCell ⟨w.heap.size + 1, 0, none⟩ (.int .i64 0)).setCell ⟨w.heap.size + 1, 1, none⟩ (.int .i64 0) = w9 at *
   have HR : Hid (w9.ownsRow (w.heap.size + 2) 49 4 (.slice (some ⟨g, 0, none⟩) (l.length + 1) cap) (l.length + 1) (tokRow (l ++ [⟨6, bs ByteArray.empty, 0, at_ + k⟩]))) := by
    refine ⟨HOWN.out.1, ?_⟩
    rcases HOWN.out.2 with ⟨h, _⟩ | ⟨g', cap', cur, hv, hg, hh, r⟩
    ·cases h
    ·cases hv
     rw [← hw9]
     exact .inr ⟨g, cap, cur, rfl, hg, blk_set_ne (blk_set_ne (blk_set_ne hh hgp _) hgq _) hgq _, r⟩
   have HB9 : Hid (Below w.heap.size w w9) := by
    rw [← hw9]
    exact (((HB0.out.trans (HB5.out.mono (by omega))).setCell (p := ⟨w.heap.size, 0, none⟩) (Nat.le_refl _) _).setCell (p := ⟨w.heap.size + 1, 0, none⟩) (by simp) _).setCell (p := ⟨w.heap.size + 1, 1, none⟩) (by simp) _
   clear hw9 HBP HBQ HSC HB4 HBL HN HADD p0 q0 q1 pf qf0 qf1 c2
   refine leaves_cons (f := 20) (args := #[.pointer (some ⟨w.heap.size, 0, none⟩), .pointer (some ⟨w.heap.size + 1, 0, none⟩)]) (by simp) (by simp [go_sem]) ?_
   refine (scan_idle _ _ _).mono ?_
   rintro e u' w'' ⟨rfl, rfl, rfl⟩
   rw [← HE.out]
   simp [Leaves, settle, results, Tryz.results9, go_sem, r0, r1, r2]
   refine ⟨.slice (some ⟨g, 0, none⟩) (l.length + 1) cap, rfl, ?_, HB9.out⟩
   have h9 := HR.out
   rw [show bs ByteArray.empty = [] from rfl] at h9
   exact ownsRow_base (B := w.heap.size + 2) (B' := w.heap.size) (by rw [List.length_append]; exact h9) (Nat.le_add_right _ _)
  | skip n =>
   rw [hst] at hg HNX
   have hn := stepF_skip _ _ hst
   simp only at hg
   have HN := Lib.hid HNX
   have HE := Lib.hid hg
   clear hg HNX hst HGG
   go_wp2_with fail
   refine HN.out.mono ?_
   rintro e w4 ⟨rfl, hsc4, hb4⟩
   have hpo := posOf_sc hsc4
   have hpo2 := posOf_sc HSC.out
   go_wp2_with fail
   go_roundw
   case rel =>
    refine ⟨at_ + k + n, f, l, by omega, by omega, by omega, hsc4, ?_, HBL.out.trans hb4⟩
    unfold Hid
    rw [← HE.out, List.drop_drop, List.drop_drop, show at_ + (k + n) = at_ + k + n by omega]
   case measure => rw [hpo, hpo2]; omega
  | tok kd tx n len =>
   rw [hst] at hg HNX
   have hn := stepF_tok _ _ _ _ _ hst
   simp only at hg
   have HN := Lib.hid HNX
   have HE := Lib.hid hg
   clear hg HNX hst HGG
   go_wp2_with fail
   refine HN.out.mono ?_
   rintro e w4 ⟨rfl, hsc4, hb4⟩
   have hpo := posOf_sc hsc4
   have hpo2 := posOf_sc HSC.out
   go_wp2_with fail
   go_roundw
   case rel =>
    refine ⟨at_ + k + len, f, l ++ [(⟨kd, tx, n, at_ + k⟩ : Tok)], by omega, by rw [List.length_append, List.length_singleton]; omega, by omega, hsc4, ?_, HBL.out.trans hb4⟩
    unfold Hid
    rw [← HE.out, List.drop_drop, List.drop_drop, show at_ + (k + len) = at_ + k + len by omega]
   case measure => rw [hpo, hpo2]; omega
  | bad c r =>
   rw [hst] at hg HNX
   simp only at hg
   have HN := Lib.hid HNX
   have HE := Lib.hid hg
   clear hg HNX hst HGG
   go_wp2_with fail
   refine HN.out.mono ?_
   rintro e w4 ⟨rfl, hb4⟩
   have HB4 := Lib.hid (HBL.out.trans hb4)
   go_wp2_with fail
   have hp := blk_below HB4.out (by omega) HBP.out
   have hq := blk_below HB4.out (by omega) HBQ.out
   refine leaves_cons (f := 20) (args := #[.pointer (some ⟨w.heap.size, 0, none⟩), .pointer (some ⟨w.heap.size + 1, 0, none⟩)]) (by simp) (by simp [go_sem]) ?_
   have hcz : (at_ : Int) + k + r = ((at_ + k + r : Nat) : Int) := by omega
   rw [hcz]
   refine (scan_panicking w.heap.size (w.heap.size + 1) (.slice none 0 0) 0 0 c ((at_ + k + r : Nat) : Int) w4 (by rw [blk_cell hp]; rfl) (by rw [blk_cell hq]; rfl) (by rw [blk_cell hq]; rfl) (blk_free hp 0) (blk_free hq 0) (blk_free hq 1) (blk_lt hp) (blk_lt hq) (by omega)).mono ?_
   rintro e u' w'' ⟨rfl, rfl, r0, r1, r2, hb9⟩
   rw [← HE.out]
   have HB9 := Lib.hid ((HB0.out.trans (HB4.out.mono (by omega))).trans hb9)
   clear hp hq HN HBP HBQ HSC HB4 HBL hb4 hcz
   simp [Leaves, settle, results, Tryz.results9, go_sem, r0, r1, r2]
   exact ⟨rfl, HB9.out⟩
theorem scan_any (src : ByteArray) (w : World) (hg : Gl w) : Calls Tryz.prog 9 #[.string src] w (ScanEnd (scanF (bs src)) w) := by
 unfold scanF
 rw [bs_length]
 by_cases h : src.size > 20000
 ·rw [if_pos h]; exact scan_big src w h
 ·rw [if_neg h]; exact scan_small src w (by omega) hg
end Go.Proofs.YtidiahkobapnjaaGreatDoor
namespace Go.Proofs.YtidiahkobapnjaaGreatDoor
open Go Go.RowKit Lx
def GlP (G : Frag) : Prop := ∀ w, G.On w → Gl w
theorem Gl.piece {w : World} (h : Gl w) : GlP (Go.Proofs.YtidiahkobapnjaaGreatDoor.old w) := fun w' hw => by
 have hb : ∀ k, k < w.heap.size → w'.heap[k]? = w.heap[k]? := fun k hk => by
  have h1 : w.heap[k]? = some w.heap[k] := Array.getElem?_eq_getElem hk
  rw [h1]
  exact hw k w.heap[k] h1
 have hs : w.heap.size ≤ w'.heap.size := by
  rcases Nat.lt_or_ge 0 w.heap.size with h0 | h0
  ·have := hb (w.heap.size - 1) (by omega)
   have h1 : w.heap[w.heap.size - 1]? = some w.heap[w.heap.size - 1] := Array.getElem?_eq_getElem (by omega)
   rw [h1] at this
   have := (Array.getElem?_eq_some_iff.1 this).1
   omega
  ·omega
 have hl : Gl { w with heap := w'.heap } := h.below (B := w.heap.size) ⟨rfl, rfl, rfl, hs, hb⟩ h.size
 exact ⟨hl.utf, hl.space, hl.maxLen, hl.size⟩
def tokT (t : Tok) : Int × ByteArray × Int × Int := (t.kind, str t.text, t.n, t.at_)
theorem tokRow_e (l : List Tok) : (l.map tokT).flatMap e49 = tokRow l := by
 induction l with
 | nil => rfl
 | cons t l ih => simp only [List.map_cons, List.flatMap_cons, ih]; rfl
def lexR (s : ByteArray) : List (Int × ByteArray × Int × Int) × Int × Int :=
 match scanF (bs s) with
 | .inl (c, a) => ([], c, a)
 | .inr l => (l.map tokT, 0, 0)
def lex_Scan.f (_k : Nat) (s : ByteArray) : Option (List (Int × ByteArray × Int × Int) × Int × Int) := some (lexR s)
theorem own_row {w : World} {B : Nat} {v : Value} {l : List Tok} (h : w.ownsRow B 49 4 v l.length (tokRow l)) : ∃ A c, v = .slice A (l.map tokT).length c ∧ ((v = .slice none 0 0 ∧ l = []) ∨ ∃ g cur, B ≤ g ∧ A = some ⟨g, 0, none⟩ ∧ w.heap[g]? = some (.cells cur 49 (0, 0)) ∧ OwnT e49 49 4 (blk g (.cells cur 49 (0, 0))) v (l.map tokT)) := by
 rcases h.2 with ⟨rfl, h0⟩ | ⟨g, cap, cur, rfl, hb, hg, h1, h2, h3, h4⟩
 ·have : l = [] := List.eq_nil_of_length_eq_zero h0
  subst this
  exact ⟨none, 0, rfl, .inl ⟨rfl, rfl⟩⟩
 ·refine ⟨some ⟨g, 0, none⟩, cap, by rw [List.length_map], .inr ⟨g, cur, hb, rfl, hg, ?_⟩⟩
  unfold OwnT
  rw [tokRow_e, List.length_map]
  refine ⟨h.1, fun u hu => ?_, .inr ⟨g, cap, cur, rfl, rfl, h1, h2, h3, h4⟩⟩
  rw [← tokRow_e] at hu
  exact e49_ok.ones _ u hu
theorem St.fresh {A w w' : World} {X : List Frag} (hw : St A X w) (hb : Below w.heap.size w w') {g : Nat} {o : Obj} (hg : w.heap.size ≤ g) (ho : w'.heap[g]? = some o) : St A (blk g o :: X) w' := by
 have h := hw.below hb
 refine ⟨⟨fun k o' hk => ?_, fun f hf k => ?_, h.sat⟩, h.os, h.tape, h.output, h.size⟩
 ·unfold blk at hk
  split at hk
  ·rename_i e; subst e; cases hk; exact ho
  ·cases hk
 ·unfold blk
  split
  ·rename_i e
   subst e
   cases hk : f k with
   | none => exact .inr rfl
   | some o' => exact absurd (hw.sat.lt hf hk) (by omega)
  ·exact .inl rfl
theorem lex_Scan.ok {k : Nat} {a0 : ByteArray} {G : Frag} {r : List (Int × ByteArray × Int × Int) × Int × Int} (h : lex_Scan.f k a0 = some r) (hG : GlP G) :
  Ct Tryz.prog 9 #[.string a0] [] [G] fun e l1 => ∃ (H0_ : Frag) (A0_ : Option Addr) (c0_ : Nat), OwnT e49 49 4 H0_ (.slice A0_ r.1.length c0_) r.1 ∧ e = .returned (.tuple #[.slice A0_ r.1.length c0_, .agg #[.int .i64 r.2.1, .int .i64 r.2.2]]) ∧ l1 = [H0_] := by
 obtain rfl := Option.some.inj h
 intro A w X hh hw
 have hg := hG w (hw.sat.on G hh.1)
 refine (scan_any a0 w hg).mono fun e w' he => ?_
 unfold lexR
 cases hs : scanF (bs a0) with
 | inl ca =>
  obtain ⟨c, a⟩ := ca
  rw [hs] at he
  obtain ⟨rfl, hb⟩ := he
  exact ⟨[none_], ⟨none_, none, 0, OwnT.nil e49 49 4 none_, rfl, rfl⟩, by
   have := hw.below hb
   exact ⟨⟨fun _ _ h => (by cases h), fun _ _ _ => .inl rfl, this.sat⟩, this.os, this.tape, this.output, this.size⟩⟩
 | inr l =>
  rw [hs] at he
  obtain ⟨lv, rfl, hrow, hb⟩ := he
  obtain ⟨A0, c0, rfl, hc⟩ := own_row hrow
  rcases hc with ⟨he, rfl⟩ | ⟨g, cur, hg1, hA, hg2, hO⟩
  ·cases he
   exact ⟨[none_], ⟨none_, none, 0, OwnT.nil e49 49 4 none_, rfl, rfl⟩, by
    have := hw.below hb
    exact ⟨⟨fun _ _ h => (by cases h), fun _ _ _ => .inl rfl, this.sat⟩, this.os, this.tape, this.output, this.size⟩⟩
  ·exact ⟨[blk g _], ⟨_, A0, c0, hO, rfl, rfl⟩, hw.fresh hb hg1 hg2⟩
end Go.Proofs.YtidiahkobapnjaaGreatDoor
namespace Go.Proofs.YtidiahkobapnjaaGreatDoor
open Go Go.RowKit
section
variable {ds : List Deferred} {A : World} {n : Nat} {env env' : Env} {l l' X : List Frag} {q : Act → World → Prop} {P : Program} {Q : Exit → Act → World → Prop} {ops : Array Oper} {os rest : List Oper} {o : Oper}
theorem ct_enterD {f : FuncId} {fn : Func} {c : Code} {args : List Value} {l0 hs : List Frag} {R : Ending → List Frag → Prop} (hf : P.funcs[f]? = some fn) (hb : fn.body = some c) (ha : args.length ≤ fn.ntmps)
  (h : ∀ A X, Lent hs X → K [] A fn.ntmps (argEnv 0 args) (l0 ++ X) (c.wp P (bodyPostD P fn fun e w' => ∃ l1, R e l1 ∧ St A (l1 ++ X) w'))) : Ct P f args.toArray l0 hs R := fun A w X hh hw => by
 refine calls_of_wp_defers hf hb (h A X hh _ w ⟨?_, rfl, fun i v hi => ?_⟩ hw)
 ·simp; omega
 ·have := argEnv_get 0 args i v hi
  simp only [Nat.sub_zero] at this
  have hlt := (List.getElem?_eq_some_iff.1 this.2).1
  simp only [Array.getD_eq_getD_getElem?]
  rw [Array.getElem?_append_left (by simpa using hlt)]
  simp [this.2]
theorem kl_defer (d : Deferred) (hg : wantE ops env o = some true) (hs : (noSel o.op && allB o.op.operands.toList env && inB n o.dst) = true) (hp : pureP P (execOp (rho env) o) = some (.defer d)) (h : K (d :: ds) A n (putE env o.dst undef) l (wpList P ops Q rest)) : K ds A n env l (wpList P ops Q (o :: rest)) :=
 kl_op hg fun a w ha hw => by
  simp only [Bool.and_eq_true] at hs
  unfold Oper.wp
  rw [execOp_congr a.eval (rho env) o hs.1.1 (ha.rho hs.1.2), pureP_run hp]
  have ha' : Holds (d :: ds) n env { a with defers := d :: a.defers } := ⟨ha.size, by rw [ha.defers], ha.at_⟩
  exact h _ _ (ha'.putE undef hs.2) hw
theorem k_doneD0 {fn : Func} {R : Ending → List Frag → Prop} {v : Value} (vs : List Orc) (es : List Ev) (l1 : List Frag) (hr : hasAll fn.results.toList env = true) (hf : follow P (resS fn.results (rhoN env)) vs = some (v, es)) (hl : LdOk l es)
  (hk : K [] A n env l fun _ w => R (.returned v) l1 ∧ St A (l1 ++ X) w) : K [] A n env l (bodyPostD P fn (fun e w' => ∃ l1, R e l1 ∧ St A (l1 ++ X) w') .ret) := fun a w ha hw => by
 show Leaves P fn a.tmps _ a.defers .returning w
 rw [ha.defers]
 exact ⟨v, by rw [results_eq, resS_congr ha hr]; exact follow_run hf (hl.evs hw), l1, hk a w ha hw⟩
theorem k_doneD {fn : Func} {R : Ending → List Frag → Prop} {v : Value} {fv : Fn} {cap dargs : Array Value} {f : FuncId} {args : Array Value} (hi : ∀ w, (invoke (.fn fv cap) dargs).run P w = .ok (.enter f args) w) (hidle : ∀ w, CallsD P f args .returning w fun e u' w' => e = .returned (.tuple #[]) ∧ u' = .returning ∧ w = w')
  (vs : List Orc) (es : List Ev) (l1 : List Frag) (hr : hasAll fn.results.toList env = true) (hf : follow P (resS fn.results (rhoN env)) vs = some (v, es)) (hl : LdOk l es)
  (hk : K [{ target := .fn fv cap, args := dargs }] A n env l fun _ w => R (.returned v) l1 ∧ St A (l1 ++ X) w) : K [{ target := .fn fv cap, args := dargs }] A n env l (bodyPostD P fn (fun e w' => ∃ l1, R e l1 ∧ St A (l1 ++ X) w') .ret) := fun a w ha hw => by
 show Leaves P fn a.tmps _ a.defers .returning w
 rw [ha.defers]
 refine leaves_cons (by simp) (hi w) ((hidle w).mono ?_)
 rintro e u' w' ⟨rfl, rfl, rfl⟩
 exact ⟨v, by rw [results_eq, resS_congr ha hr]; exact follow_run hf (hl.evs hw), l1, hk a w ha hw⟩
theorem k_panD {fn : Func} {R : Ending → List Frag → Prop} {v : Value} {fv : Fn} {cap dargs : Array Value} {f : FuncId} {args : Array Value} {c : List PanicEntry} (l' : List Frag) (hi : ∀ w, (invoke (.fn fv cap) dargs).run P w = .ok (.enter f args) w)
  (hpan : ∀ w, St A l w → CallsD P f args (.panicking c) w fun e u' w' => e = .returned (.tuple #[]) ∧ settle u' = .returning ∧ St A l' w')
  (vs : List Orc) (es : List Ev) (l1 : List Frag) (hr : hasAll fn.results.toList env = true) (hf : follow P (resS fn.results (rhoN env)) vs = some (v, es)) (hl : LdOk l' es)
  (hk : ∀ w, St A l' w → R (.returned v) l1 ∧ St A (l1 ++ X) w) : K [{ target := .fn fv cap, args := dargs }] A n env l (bodyPostD P fn (fun e w' => ∃ l1, R e l1 ∧ St A (l1 ++ X) w') (.panic c)) := fun a w ha hw => by
 show Leaves P fn a.tmps _ a.defers (.panicking c) w
 rw [ha.defers]
 refine leaves_cons (by simp) (hi w) ((hpan w hw).mono ?_)
 rintro e u' w' ⟨rfl, hu, hw'⟩
 show Leaves P fn a.tmps _ [] (settle u') w'
 rw [hu]
 exact ⟨v, by rw [results_eq, resS_congr ha hr]; exact follow_run hf (hl.evs hw'), l1, hk w' hw'⟩
theorem k_endD {R : Prop} (h : R) : K ds A n env l fun _ w => R ∧ St A l w := fun _ _ _ hw => ⟨h, hw⟩
def NoPan (Q : Exit → Act → World → Prop) : Exit → Act → World → Prop
 | .panic _, _, _ => False
 | .normal, a, w => Q .normal a w
 | .exit id, a, w => Q (.exit id) a w
 | .goto l, a, w => Q (.goto l) a w
 | .ret, a, w => Q .ret a w
 | .outgrown, a, w => Q .outgrown a w
theorem k_nopan {c : Code} (h : K ds A n env l (c.wp P (NoPan Q))) : K ds A n env l (c.wp P Q) := fun a w ha hw =>
 wp_mono (h a w ha hw) fun e a w h => by
  cases e with
  | panic c => exact h.elim
  | normal => exact h
  | exit id => exact h
  | goto l => exact h
  | ret => exact h
  | outgrown => exact h
theorem k_np (h : K ds A n env l (Q .normal)) : K ds A n env l (NoPan Q .normal) := h
end
def PR.elim {α β ε : Type} (x : Option (PR α ε)) (f : ε → Option β) (g : α → Option β) : Option β :=
 match x with
 | none => none
 | some (.ok a) => g a
 | some (.bad i) => f i
theorem prElim {α β ε : Type} {x : Option (PR α ε)} {f : ε → Option β} {g : α → Option β} {r : β} (h : PR.elim x f g = some r) : (∃ i, x = some (.bad i) ∧ f i = some r) ∨ ∃ a, x = some (.ok a) ∧ g a = some r := by
 unfold PR.elim at h
 split at h
 ·cases h
 ·exact .inr ⟨_, rfl, h⟩
 ·exact .inl ⟨_, rfl, h⟩
end Go.Proofs.YtidiahkobapnjaaGreatDoor
namespace Go.Proofs.YtidiahkobapnjaaGreatDoor
open Go Go.RowKit
theorem St.nones {A : World} {X : List Frag} {w : World} : ∀ (n : Nat), St A X w → St A (List.replicate n none_ ++ X) w
 | 0, h => h
 | n + 1, h => by
  have := St.nones n h
  exact ⟨⟨fun _ _ h => (by cases h), fun _ _ _ => .inl rfl, this.sat⟩, this.os, this.tape, this.output, this.size⟩
theorem parse_Parse_1_idle (p q : Value) (w : World) :
  CallsD Tryz.prog 10 #[p, q] .returning w fun e u' w' => e = .returned (.tuple #[]) ∧ u' = .returning ∧ w = w' := by
 refine callsD_of_wpS Tryz.func10 rfl fun c₀ cs hu => ?_
 apply wpS_seq
 apply wpS_region
 simp [wpOpsS, go_sem, recoverD, hu, Tryz.ntmps10, Exit.thenS, Array.replicate_succ]
 refine wpS_of_wp ?_
 go_wp2
 cases c₀
 simp_all [bodyPostS, results, Tryz.results10]
set_option maxRecDepth 100000 in
theorem parse_Parse_1_pan {A w : World} {X : List Frag} {p q : Nat} {x0 x1 x2 x3 x4 y0 y1 : Value} {i : Int} (hw : St A (blk p (.cells #[x0, x1, x2, x3, x4] 24 (0, 0)) :: blk q (.cells #[y0, y1] 27 (0, 0)) :: X) w) :
  CallsD Tryz.prog 10 #[.pointer (some ⟨p, 0, none⟩), .pointer (some ⟨q, 0, none⟩)] (.panicking [{ v := failV i, recovered := false }]) w fun e u' w' => e = .returned (.tuple #[]) ∧ settle u' = .returning ∧ St A (blk p (.cells #[.int .i64 (0 : Int), .string (⟨#[]⟩ : ByteArray), .int .i64 (0 : Int), .int .i64 (0 : Int), .slice none 0 0] 24 (0, 0)) :: blk q (.cells #[.int .i64 (4 : Int), .int .i64 i] 27 (0, 0)) :: X) w' := by
 refine callsD_of_wpS Tryz.func10 rfl fun c₀ cs hu => ?_
 apply wpS_seq
 apply wpS_region
 simp [wpOpsS, go_sem, recoverD, hu, Tryz.ntmps10, Exit.thenS, Array.replicate_succ]
 refine wpS_of_wp ?_
 refine (?_ : K [] A Tryz.f10.ntmps [(0, .pointer (some ⟨p, 0, none⟩)), (1, .pointer (some ⟨q, 0, none⟩)), (5, .iface 43 (.agg #[.int .i64 (4 : Int), .int .i64 i]))] (blk p (.cells #[x0, x1, x2, x3, x4] 24 (0, 0)) :: blk q (.cells #[y0, y1] 27 (0, 0)) :: X) _) _ w ⟨rfl, rfl, ?_⟩ hw
 rotate_left
 ·intro j v hj
  simp only [Env.get] at hj
  match j with
  | 0 => cases hj; rfl
  | 1 => cases hj; rfl
  | 2 => cases hj
  | 3 => cases hj
  | 4 => cases hj
  | 5 => cases hj; rfl
  | j + 6 => cases hj
 refine k_block ?_
 refine k_seq ?_
 refine k_region ?_
 refine kl_steps 1 [(0, .pointer (some ⟨p, 0, none⟩)), (1, .pointer (some ⟨q, 0, none⟩)), (5, .iface 43 (.agg #[.int .i64 (4 : Int), .int .i64 i])), (7, .bool false)] (by kernel_rfl) ?_
 refine k_nil ?_
 refine k_then ?_
 refine k_cond_false (by kernel_rfl) ?_
 refine k_seq ?_
 refine k_region ?_
 refine kl_steps 3 [(0, .pointer (some ⟨p, 0, none⟩)), (1, .pointer (some ⟨q, 0, none⟩)), (5, .iface 43 (.agg #[.int .i64 (4 : Int), .int .i64 i])), (9, .bool true), (10, .agg #[.int .i64 (4 : Int), .int .i64 i])] (by kernel_rfl) ?_
 refine k_nil ?_
 refine k_then ?_
 refine k_cond_true (by kernel_rfl) ?_
 refine k_seq ?_
 refine k_region ?_
 refine kl_new (.cells #[.int .i64 (0 : Int), .int .i64 (0 : Int)] 43 (0, 0)) (fun b => .pointer (some ⟨b, 0, none⟩)) (by kernel_rfl) (by kernel_rfl) (fun _ => by kernel_rfl) fun b1 => ?_
 refine kl_store (cs' := #[.int .i64 (4 : Int), .int .i64 i]) [.st ⟨b1, 0, none⟩ (.int .i64 (4 : Int)), .st ⟨b1, 1, none⟩ (.int .i64 i)] (by kernel_rfl) (by kernel_rfl) (by kernel_rfl) ⟨rfl, rfl, trivial⟩ (by kernel_rfl) ?_
 refine k_nil ?_
 refine k_then ?_
 refine k_region_plan [(0, 0), (1, 3), (2, 1)] (fun w => OnAll [blk b1 (.cells #[.int .i64 (4 : Int), .int .i64 i] 43 (0, 0))] w) (by kernel_rfl) (by kernel_rfl) (fun _ _ d _ _ h => by cases d <;> exact h) (fun w h_ => ⟨h_.sat.on _ (.head _), trivial⟩) ?_
 simp only [planOps, List.filterMap_cons, List.filterMap_nil, List.getElem?_toArray, List.getElem?_cons_zero, List.getElem?_cons_succ, Option.map_some, List.drop_succ_cons, List.drop_zero, List.length_cons, List.length_nil]
 refine kp_steps 1 [(0, .pointer (some ⟨p, 0, none⟩)), (1, .pointer (some ⟨q, 0, none⟩)), (3, .pointer (some ⟨b1, 0, none⟩)), (11, .agg #[.int .i64 (0 : Int), .string (⟨#[]⟩ : ByteArray), .int .i64 (0 : Int), .int .i64 (0 : Int), .slice none 0 0])] (by kernel_rfl) (by kernel_rfl) ?_
 refine kp_loadS (v := .agg #[.int .i64 (4 : Int), .int .i64 i]) [blk b1 (.cells #[.int .i64 (4 : Int), .int .i64 i] 43 (0, 0))] [.val (.int .i64 (4 : Int)), .val (.int .i64 i)] [.ld ⟨b1, 0, none⟩ (.int .i64 (4 : Int)), .ld ⟨b1, 1, none⟩ (.int .i64 i)] (by kernel_rfl) (by kernel_rfl) (by kernel_rfl) (fun _ h => h) ⟨⟨0, _, _, _, rfl, rfl, rfl⟩, ⟨0, _, _, _, rfl, rfl, rfl⟩, trivial⟩ ?_
 refine kp_turn (by kernel_rfl) ?_
 refine K.mv1 ?_
 refine op_store (cs' := #[.int .i64 (0 : Int), .string (⟨#[]⟩ : ByteArray), .int .i64 (0 : Int), .int .i64 (0 : Int), .slice none 0 0]) [.st ⟨p, 0, none⟩ (.int .i64 (0 : Int)), .st ⟨p, 1, none⟩ (.string (⟨#[]⟩ : ByteArray)), .st ⟨p, 2, none⟩ (.int .i64 (0 : Int)), .st ⟨p, 3, none⟩ (.int .i64 (0 : Int)), .st ⟨p, 4, none⟩ (.slice none 0 0)] (by kernel_rfl) (by kernel_rfl) ⟨rfl, rfl, rfl, rfl, rfl, trivial⟩ (by kernel_rfl) ?_
 refine k_and (fun w h_ => ⟨h_.sat.on _ (.tail _ (.head _)), trivial⟩) ?_
 refine kp_done ?_
 refine K.mv2 ?_
 refine kl_store (cs' := #[.int .i64 (4 : Int), .int .i64 i]) [.st ⟨q, 0, none⟩ (.int .i64 (4 : Int)), .st ⟨q, 1, none⟩ (.int .i64 i)] (by kernel_rfl) (by kernel_rfl) (by kernel_rfl) ⟨rfl, rfl, trivial⟩ (by kernel_rfl) ?_
 refine K.mv2 ?_
 refine K.drop ?_
 refine k_nil ?_
 refine k_blk ?_
 refine K.mv1 ?_
 intro a' w' ha' hw'
 have hd := ha'.defers
 simp [bodyPostS, results, Tryz.results10, hd, settle]
 exact hw'
end Go.Proofs.YtidiahkobapnjaaGreatDoor
namespace Go.Proofs.YtidiahkobapnjaaGreatDoor
open Go Go.RowKit
structure PE where
 parse_parser_exp : (a0_0 : List (Int × ByteArray × Int × Int)) → (a0_1 : Int) → (a1 : Int) → Option (PR (Int × ByteArray × Int × Int × List Tree × Int))
 parse_parser_operand : (a0_0 : List (Int × ByteArray × Int × Int)) → (a0_1 : Int) → Option (PR (Int × ByteArray × Int × Int × List Tree × Int))
 parse_parser_suffixed : (a0_0 : List (Int × ByteArray × Int × Int)) → (a0_1 : Int) → Option (PR (Int × ByteArray × Int × Int × List Tree × Int))
 parse_parser_fields : (a0_0 : List (Int × ByteArray × Int × Int)) → (a0_1 : Int) → Option (PR (List Tree × Int))
 parse_parser_field : (a0_0 : List (Int × ByteArray × Int × Int)) → (a0_1 : Int) → Option (PR (Int × ByteArray × Int × Int × List Tree × Int))
 parse_parser_exps : (a0_0 : List (Int × ByteArray × Int × Int)) → (a0_1 : Int) → Option (PR (List Tree × Int))
structure PE.Good (R : PE) : Prop where
 parse_parser_exp : ∀ {a0_0 : List (Int × ByteArray × Int × Int)} {a0_1 : Int} {a1 : Int} {b0 : Nat} {H_a0_0 : Frag} {A_a0_0 : Option Addr} {c_a0_0 : Nat} {r : PR (Int × ByteArray × Int × Int × List Tree × Int)} (h : R.parse_parser_exp a0_0 a0_1 a1 = some r) (R_a0_0 : RdT e49 4 H_a0_0 (.slice A_a0_0 a0_0.length c_a0_0) a0_0), Ct Tryz.prog 58 #[pt b0, iv a1] [bk b0 #[.slice A_a0_0 a0_0.length c_a0_0, iv a0_1] 46] [H_a0_0] (PR.Post failV (fun (r : Int × ByteArray × Int × Int × List Tree × Int) e l1 => ∃ (H0_ : Frag) (A0_ : Option Addr) (c0_ : Nat), OwnR (rTree 24) 24 H0_ (.slice A0_ r.2.2.2.2.1.length c0_) r.2.2.2.2.1 ∧ e = .returned (.agg #[iv r.1, sv r.2.1, iv r.2.2.1, iv r.2.2.2.1, .slice A0_ r.2.2.2.2.1.length c0_]) ∧ l1 = [H0_, bk b0 #[.slice A_a0_0 a0_0.length c_a0_0, iv r.2.2.2.2.2] 46]) r)
 parse_parser_operand : ∀ {a0_0 : List (Int × ByteArray × Int × Int)} {a0_1 : Int} {b0 : Nat} {H_a0_0 : Frag} {A_a0_0 : Option Addr} {c_a0_0 : Nat} {r : PR (Int × ByteArray × Int × Int × List Tree × Int)} (h : R.parse_parser_operand a0_0 a0_1 = some r) (R_a0_0 : RdT e49 4 H_a0_0 (.slice A_a0_0 a0_0.length c_a0_0) a0_0), Ct Tryz.prog 88 #[pt b0] [bk b0 #[.slice A_a0_0 a0_0.length c_a0_0, iv a0_1] 46] [H_a0_0] (PR.Post failV (fun (r : Int × ByteArray × Int × Int × List Tree × Int) e l1 => ∃ (H0_ : Frag) (A0_ : Option Addr) (c0_ : Nat), OwnR (rTree 24) 24 H0_ (.slice A0_ r.2.2.2.2.1.length c0_) r.2.2.2.2.1 ∧ e = .returned (.agg #[iv r.1, sv r.2.1, iv r.2.2.1, iv r.2.2.2.1, .slice A0_ r.2.2.2.2.1.length c0_]) ∧ l1 = [H0_, bk b0 #[.slice A_a0_0 a0_0.length c_a0_0, iv r.2.2.2.2.2] 46]) r)
 parse_parser_suffixed : ∀ {a0_0 : List (Int × ByteArray × Int × Int)} {a0_1 : Int} {b0 : Nat} {H_a0_0 : Frag} {A_a0_0 : Option Addr} {c_a0_0 : Nat} {r : PR (Int × ByteArray × Int × Int × List Tree × Int)} (h : R.parse_parser_suffixed a0_0 a0_1 = some r) (R_a0_0 : RdT e49 4 H_a0_0 (.slice A_a0_0 a0_0.length c_a0_0) a0_0), Ct Tryz.prog 90 #[pt b0] [bk b0 #[.slice A_a0_0 a0_0.length c_a0_0, iv a0_1] 46] [H_a0_0] (PR.Post failV (fun (r : Int × ByteArray × Int × Int × List Tree × Int) e l1 => ∃ (H0_ : Frag) (A0_ : Option Addr) (c0_ : Nat), OwnR (rTree 24) 24 H0_ (.slice A0_ r.2.2.2.2.1.length c0_) r.2.2.2.2.1 ∧ e = .returned (.agg #[iv r.1, sv r.2.1, iv r.2.2.1, iv r.2.2.2.1, .slice A0_ r.2.2.2.2.1.length c0_]) ∧ l1 = [H0_, bk b0 #[.slice A_a0_0 a0_0.length c_a0_0, iv r.2.2.2.2.2] 46]) r)
 parse_parser_fields : ∀ {a0_0 : List (Int × ByteArray × Int × Int)} {a0_1 : Int} {b0 : Nat} {H_a0_0 : Frag} {A_a0_0 : Option Addr} {c_a0_0 : Nat} {r : PR (List Tree × Int)} (h : R.parse_parser_fields a0_0 a0_1 = some r) (R_a0_0 : RdT e49 4 H_a0_0 (.slice A_a0_0 a0_0.length c_a0_0) a0_0), Ct Tryz.prog 114 #[pt b0] [bk b0 #[.slice A_a0_0 a0_0.length c_a0_0, iv a0_1] 46] [H_a0_0] (PR.Post failV (fun (r : List Tree × Int) e l1 => ∃ (H0_ : Frag) (A0_ : Option Addr) (c0_ : Nat), OwnR (rTree 24) 24 H0_ (.slice A0_ r.1.length c0_) r.1 ∧ e = .returned (.slice A0_ r.1.length c0_) ∧ l1 = [H0_, bk b0 #[.slice A_a0_0 a0_0.length c_a0_0, iv r.2] 46]) r)
 parse_parser_field : ∀ {a0_0 : List (Int × ByteArray × Int × Int)} {a0_1 : Int} {b0 : Nat} {H_a0_0 : Frag} {A_a0_0 : Option Addr} {c_a0_0 : Nat} {r : PR (Int × ByteArray × Int × Int × List Tree × Int)} (h : R.parse_parser_field a0_0 a0_1 = some r) (R_a0_0 : RdT e49 4 H_a0_0 (.slice A_a0_0 a0_0.length c_a0_0) a0_0), Ct Tryz.prog 125 #[pt b0] [bk b0 #[.slice A_a0_0 a0_0.length c_a0_0, iv a0_1] 46] [H_a0_0] (PR.Post failV (fun (r : Int × ByteArray × Int × Int × List Tree × Int) e l1 => ∃ (H0_ : Frag) (A0_ : Option Addr) (c0_ : Nat), OwnR (rTree 24) 24 H0_ (.slice A0_ r.2.2.2.2.1.length c0_) r.2.2.2.2.1 ∧ e = .returned (.agg #[iv r.1, sv r.2.1, iv r.2.2.1, iv r.2.2.2.1, .slice A0_ r.2.2.2.2.1.length c0_]) ∧ l1 = [H0_, bk b0 #[.slice A_a0_0 a0_0.length c_a0_0, iv r.2.2.2.2.2] 46]) r)
 parse_parser_exps : ∀ {a0_0 : List (Int × ByteArray × Int × Int)} {a0_1 : Int} {b0 : Nat} {H_a0_0 : Frag} {A_a0_0 : Option Addr} {c_a0_0 : Nat} {r : PR (List Tree × Int)} (h : R.parse_parser_exps a0_0 a0_1 = some r) (R_a0_0 : RdT e49 4 H_a0_0 (.slice A_a0_0 a0_0.length c_a0_0) a0_0), Ct Tryz.prog 26 #[pt b0] [bk b0 #[.slice A_a0_0 a0_0.length c_a0_0, iv a0_1] 46] [H_a0_0] (PR.Post failV (fun (r : List Tree × Int) e l1 => ∃ (H0_ : Frag) (A0_ : Option Addr) (c0_ : Nat), OwnR (rTree 24) 24 H0_ (.slice A0_ r.1.length c0_) r.1 ∧ e = .returned (.slice A0_ r.1.length c0_) ∧ l1 = [H0_, bk b0 #[.slice A_a0_0 a0_0.length c_a0_0, iv r.2] 46]) r)
def parse_parser_exp.l0 : Nat → (Rc : PE) → (a0_0 : List (Int × ByteArray × Int × Int)) → (a1 : Int) → (r2 : Int × ByteArray × Int × Int × List Tree × Int) → (x9 : Int) → (x10 : ByteArray) → (x11 : Int) → (l12 : List Tree) → (x17 : Int) → Option (PR (Int × ByteArray × Int × Int × List Tree × Int))
 | 0, _, _, _, _, _, _, _, _, _ => none
 | m18 + 1, Rc, a0_0, a1, r2, x9, x10, x11, l12, x17 => (parse_parser_now.f m18 a0_0 x17).bind fun r19 => (parse_binds.f m18 r19.1 r19.2.1 r19.2.2.1 r19.2.2.2).bind fun r21 => cond (decide (r21 ≤ a1)) (some (PR.ok (x9, x10, x11, r2.2.2.2.1, l12, x17))) (joinF (fun (x23 : Int) => PR.bind (Rc.parse_parser_exp a0_0 (IntKind.i64.wrap (x17 + 1)) x23) fun r25 => parse_parser_exp.l0 m18 Rc a0_0 a1 r2 11 r19.2.1 0 ([(Tree.mk x9 x10 x11 r2.2.2.2.1 l12), (Tree.mk r25.1 r25.2.1 r25.2.2.1 r25.2.2.2.1 r25.2.2.2.2.1)]) r25.2.2.2.2.2) (fun J24 => cond (r21 == 4) (J24 (IntKind.i64.wrap (r21 - 1))) (J24 r21)))
def parse_parser_exp.g (Rc : PE) (k : Nat) (a0_0 : List (Int × ByteArray × Int × Int)) (a0_1 : Int) (a1 : Int) : Option (PR (Int × ByteArray × Int × Int × List Tree × Int)) := PR.bind (Rc.parse_parser_operand a0_0 a0_1) fun r2 => parse_parser_exp.l0 k Rc a0_0 a1 r2 r2.1 r2.2.1 r2.2.2.1 r2.2.2.2.2.1 r2.2.2.2.2.2
set_option maxRecDepth 100000 in
theorem parse_parser_exp.okg {Rc : PE} (hR : Rc.Good) {k : Nat} {a0_0 : List (Int × ByteArray × Int × Int)} {a0_1 : Int} {a1 : Int} {b0 : Nat} {H_a0_0 : Frag} {A_a0_0 : Option Addr} {c_a0_0 : Nat} {r : PR (Int × ByteArray × Int × Int × List Tree × Int)} (h : parse_parser_exp.g Rc k a0_0 a0_1 a1 = some r) (R_a0_0 : RdT e49 4 H_a0_0 (.slice A_a0_0 a0_0.length c_a0_0) a0_0) : Ct Tryz.prog 58 #[pt b0, iv a1] [bk b0 #[.slice A_a0_0 a0_0.length c_a0_0, iv a0_1] 46] [H_a0_0] (PR.Post failV (fun (r : Int × ByteArray × Int × Int × List Tree × Int) e l1 => ∃ (H0_ : Frag) (A0_ : Option Addr) (c0_ : Nat), OwnR (rTree 24) 24 H0_ (.slice A0_ r.2.2.2.2.1.length c0_) r.2.2.2.2.1 ∧ e = .returned (.agg #[iv r.1, sv r.2.1, iv r.2.2.1, iv r.2.2.2.1, .slice A0_ r.2.2.2.2.1.length c0_]) ∧ l1 = [H0_, bk b0 #[.slice A_a0_0 a0_0.length c_a0_0, iv r.2.2.2.2.2] 46]) r) := by
 refine ct_enter (args := [pt b0, iv a1]) Tryz.func58 rfl (Nat.le_of_ble_eq_true rfl) ?_
 intro A X hh_
 obtain ⟨hm_H_a0_0, _⟩ := hh_
 unfold parse_parser_exp.g at h
 refine K.eq (env' := [(0, pt b0), (1, iv a1)]) (l' := bk b0 #[.slice A_a0_0 a0_0.length c_a0_0, iv a0_1] 46 :: X) rfl rfl (ksr (knp #[iv 0, sv noS, iv 0, iv 0, nS] 24 fun b1 => (kns' (kx 1 (K.mv1 (kcp h (fun _ hr2 => (hR.parse_parser_operand (b0 := b0) hr2 R_a0_0)) rfl ⟨(.tail _ hm_H_a0_0), trivial⟩ (fun _ e => k_then_panic (kpn 1 e rfl)) fun r2 h => ?_))))))
 rintro _ _ ⟨h3, A4, k5, o6, rfl, rfl⟩
 refine nx_ret2 (knp #[iv 0, sv noS, iv 0, iv 0, nS] 24 fun b8 => (kst 0 5 #[iv r2.1, sv r2.2.1, iv r2.2.2.1, iv r2.2.2.2.1, .slice A4 r2.2.2.2.2.1.length k5] (knt (k_block (K.mv1 (K.mv3 (K.mv3 (K.mv3 (k_loop (τ := Int × ByteArray × Int × (List Tree) × Int × Frag × (Option Addr) × Nat) (fun t => [(0, pt b0), (1, iv a1), (4, pt b1), (5, pt b8)]) (fun t => bk b8 #[iv t.1, sv t.2.1, iv t.2.2.1, iv r2.2.2.2.1, .slice t.2.2.2.2.2.2.1 t.2.2.2.1.length t.2.2.2.2.2.2.2] 24 :: bk b0 #[.slice A_a0_0 a0_0.length c_a0_0, iv t.2.2.2.2.1] 46 :: bk b1 #[iv 0, sv noS, iv 0, iv 0, nS] 24 :: t.2.2.2.2.2.1 :: X) (fun m t => parse_parser_exp.l0 m Rc a0_0 a1 r2 t.1 t.2.1 t.2.2.1 t.2.2.2.1 t.2.2.2.2.1 = some r ∧ OwnR (rTree 24) 24 t.2.2.2.2.2.1 (.slice t.2.2.2.2.2.2.1 t.2.2.2.1.length t.2.2.2.2.2.2.2) t.2.2.2.1) k (r2.1, r2.2.1, r2.2.2.1, r2.2.2.2.2.1, r2.2.2.2.2.2, h3, A4, k5) ⟨h, o6⟩ sb rfl ?_)))))))))
 clear h
 rintro m18 ⟨x9, x10, x11, l12, x17, h13, A14, k15⟩ ⟨h, o16⟩
 cases m18 with
 | zero => simp [parse_parser_exp.l0] at h
 | succ m18 =>
  simp only [parse_parser_exp.l0] at h
  refine k_block (ksr (kx 1 (K.mv1 (bnd h fun r19 hr19 h => (kc1 (parse_parser_now.ok (b0 := b0) hr19 R_a0_0) rfl ⟨(t3 hm_H_a0_0), trivial⟩ (knp #[iv 0, sv noS, iv 0, iv 0] 49 fun b20 => (kst 0 4 #[iv r19.1, sv r19.2.1, iv r19.2.2.1, iv r19.2.2.2] (kns' (kla 0 0 4 rfl (bnd h fun r21 hr21 h => ?_))))))))))
  refine kcv (parse_binds.ok hr21) trivial (kx 1 (knt (k_seq (ksr (kx 3 (knt ?_))))))
  refine kcn h (fun h => ?_) fun h => ?_
  ·refine ksr (kla 2 0 5 rfl (K.drop (K.mv1 (K.drop (K.mv1 (kst 0 5 #[iv x9, sv x10, iv x11, iv r2.2.2.2.1, .slice A14 l12.length k15] (knt (k_ret (k_then_ret (k_blk_ret ?_))))))))))
   refine k_then_ret (k_blk_ret ?_)
   obtain rfl := Option.some.inj h
   exact kda 0 5 rfl [h13, bk b0 #[.slice A_a0_0 a0_0.length c_a0_0, iv x17] 46] (K.drop (K.mv1 (k_end (PR.okI ⟨h13, A14, k15, o16, rfl, rfl⟩))))
  ·refine k_skip (k_then (ksr (kx 3 (kld 1 1 rfl (kx 3 (K.mv1 (kst 1 1 #[.slice A_a0_0 a0_0.length c_a0_0, iv (IntKind.i64.wrap (x17 + 1))] (kns' (kx 2 (knt ?_))))))))))
   obtain ⟨J24, hJ24, h⟩ := joinSplit h
   refine k_cut (τ := Int) (fun t => [(0, pt b0), (1, iv a1), (4, pt b1), (5, pt b8), (6, pt b20), (8, iv t)]) (fun t => bk b0 #[.slice A_a0_0 a0_0.length c_a0_0, iv (IntKind.i64.wrap (x17 + 1))] 46 :: bk b20 #[iv r19.1, sv r19.2.1, iv r19.2.2.1, iv r19.2.2.2] 49 :: bk b8 #[iv x9, sv x10, iv x11, iv r2.2.2.2.1, .slice A14 l12.length k15] 24 :: bk b1 #[iv 0, sv noS, iv 0, iv 0, nS] 24 :: h13 :: X) (fun t => J24 t = some r) ?_ ?_
   ·rintro x23 h
    subst hJ24
    refine kpr [(0, 0), (1, 3), (2, 0), (3, 3), (4, 3), (5, 0), (6, 0), (7, 1), (8, 1)] [1, 2] (kpx 1 (kpd 0 1 rfl (kpx 1 (kpd 1 3 rfl (kpa 1 0 5 rfl (kpx 2 (kpt (ocp h (fun _ hr25 => (hR.parse_parser_exp (b0 := b0) hr25 R_a0_0)) rfl ⟨(t4 hm_H_a0_0), trivial⟩ (fun _ e => k_blk_panic (k_then_panic (k_blk_panic (kpn 4 e rfl)))) fun r25 h => ?_))))))))
    rintro _ _ ⟨h26, A27, k28, o29, rfl, rfl⟩
    refine nx_ret2 (kan [2, 3] rfl (kpt (ons #[iv x9, sv x10, iv x11, iv r2.2.2.2.1, .slice A14 l12.length k15, iv r25.1, sv r25.2.1, iv r25.2.2.1, iv r25.2.2.2.1, .slice A27 r25.2.2.2.2.1.length k28] 24 2 fun b31 => (kan [3, 4] rfl (kpz (kx 1 (K.mv4 (kst 0 5 #[iv 11, sv r19.2.1, iv 0, iv r2.2.2.2.1, .slice (some ⟨b31, 0, none⟩) 2 2] (K.mv4 (K.drop ?_))))))))))
    refine knl (k_blk (k_then (K.mv2 (K.mvN [_, _, _, _, _] _ _ (k_or fun p32 => (K.mv2 (k_row (T := 24) (n := 2) (xs := [(Tree.mk x9 x10 x11 r2.2.2.2.1 l12), (Tree.mk r25.1 r25.2.1 r25.2.2.1 r25.2.2.2.1 r25.2.2.2.2.1)]) (RowI.cons (treeO_mk (k := x9) (t := x10) (n := x11) (a := r2.2.2.2.1) 24 o16) p32 (RowI.one (treeO_mk (k := r25.1) (t := r25.2.1) (n := r25.2.2.1) (a := r25.2.2.2.1) 24 o29))) rfl rfl (Nat.le_of_ble_eq_true rfl) fun h33 o34 => (K.mv3 (K.mv3 (K.mv3 ?_))))))))))
    exact k_again m18 (11, r19.2.1, 0, [(Tree.mk x9 x10 x11 r2.2.2.2.1 l12), (Tree.mk r25.1 r25.2.1 r25.2.2.1 r25.2.2.2.1 r25.2.2.2.2.1)], r25.2.2.2.2.2, h33, (some ⟨b31, 0, none⟩), 2) (Nat.lt_succ_self _) ⟨h, o34⟩ sb rfl
   ·skip
    refine ksr (kx 2 (knt ?_))
    refine kcn h (fun h => ?_) fun h => ?_
    ·exact k_region (kx 3 (knt (k_meet (IntKind.i64.wrap (r21 - 1)) h sb rfl)))
    ·exact k_skip (k_then (k_meet r21 h sb rfl))
def parse_parser_operand.g (Rc : PE) (k : Nat) (a0_0 : List (Int × ByteArray × Int × Int)) (a0_1 : Int) : Option (PR (Int × ByteArray × Int × Int × List Tree × Int)) := (parse_parser_now.f k a0_0 a0_1).bind fun r2 => joinF (fun (x5 : Int) (x6 : ByteArray) (x7 : Int) => some (PR.ok (x5, x6, x7, r2.2.2.2, [], IntKind.i64.wrap (a0_1 + 1)))) (fun J8 => cond (r2.1 == 3) (J8 4 (⟨#[]⟩ : ByteArray) r2.2.2.1) (cond (r2.1 == 4) (J8 5 r2.2.1 0) ((parse_parser_is.f k a0_0 a0_1 (⟨#[110, 105, 108]⟩ : ByteArray)).bind fun r11 => cond r11 (J8 1 (⟨#[]⟩ : ByteArray) 0) ((parse_parser_is.f k a0_0 a0_1 (⟨#[116, 114, 117, 101]⟩ : ByteArray)).bind fun r13 => cond r13 (J8 2 (⟨#[]⟩ : ByteArray) 0) ((parse_parser_is.f k a0_0 a0_1 (⟨#[102, 97, 108, 115, 101]⟩ : ByteArray)).bind fun r15 => cond r15 (J8 3 (⟨#[]⟩ : ByteArray) 0) (joinF (fun (x17 : Bool) (x18 : Int) => cond x17 (PR.bind (Rc.parse_parser_exp a0_0 x18 7) fun r21 => some (PR.ok (10, r2.2.1, 0, r2.2.2.2, [(Tree.mk r21.1 r21.2.1 r21.2.2.1 r21.2.2.2.1 r21.2.2.2.2.1)], r21.2.2.2.2.2))) ((parse_parser_got.f k a0_0 x18 (⟨#[123]⟩ : ByteArray)).bind fun r30 => cond r30.1 (PR.bind (Rc.parse_parser_fields a0_0 r30.2) fun r32 => some (PR.ok (12, (⟨#[]⟩ : ByteArray), 0, r2.2.2.2, r32.1, r32.2))) (PR.bind (Rc.parse_parser_suffixed a0_0 r30.2) fun r38 => some (PR.ok (r38.1, r38.2.1, r38.2.2.1, r38.2.2.2.1, r38.2.2.2.2.1, r38.2.2.2.2.2))))) (fun J19 => (parse_parser_got.f k a0_0 a0_1 (⟨#[110, 111, 116]⟩ : ByteArray)).bind fun r44 => cond r44.1 (J19 r44.1 r44.2) ((parse_parser_got.f k a0_0 r44.2 (⟨#[35]⟩ : ByteArray)).bind fun r46 => cond r46.1 (J19 r46.1 r46.2) ((parse_parser_got.f k a0_0 r46.2 (⟨#[45]⟩ : ByteArray)).bind fun r48 => J19 r48.1 r48.2)))))))))
set_option maxRecDepth 100000 in
theorem parse_parser_operand.okg {Rc : PE} (hR : Rc.Good) {k : Nat} {a0_0 : List (Int × ByteArray × Int × Int)} {a0_1 : Int} {b0 : Nat} {H_a0_0 : Frag} {A_a0_0 : Option Addr} {c_a0_0 : Nat} {r : PR (Int × ByteArray × Int × Int × List Tree × Int)} (h : parse_parser_operand.g Rc k a0_0 a0_1 = some r) (R_a0_0 : RdT e49 4 H_a0_0 (.slice A_a0_0 a0_0.length c_a0_0) a0_0) : Ct Tryz.prog 88 #[pt b0] [bk b0 #[.slice A_a0_0 a0_0.length c_a0_0, iv a0_1] 46] [H_a0_0] (PR.Post failV (fun (r : Int × ByteArray × Int × Int × List Tree × Int) e l1 => ∃ (H0_ : Frag) (A0_ : Option Addr) (c0_ : Nat), OwnR (rTree 24) 24 H0_ (.slice A0_ r.2.2.2.2.1.length c0_) r.2.2.2.2.1 ∧ e = .returned (.agg #[iv r.1, sv r.2.1, iv r.2.2.1, iv r.2.2.2.1, .slice A0_ r.2.2.2.2.1.length c0_]) ∧ l1 = [H0_, bk b0 #[.slice A_a0_0 a0_0.length c_a0_0, iv r.2.2.2.2.2] 46]) r) := by
 refine ct_enter (args := [pt b0]) Tryz.func88 rfl (Nat.le_of_ble_eq_true rfl) ?_
 intro A X hh_
 obtain ⟨hm_H_a0_0, _⟩ := hh_
 unfold parse_parser_operand.g at h
 refine K.eq (env' := [(0, pt b0)]) (l' := bk b0 #[.slice A_a0_0 a0_0.length c_a0_0, iv a0_1] 46 :: X) rfl rfl (ksr (knp #[iv 0, sv noS, iv 0, iv 0, nS] 24 fun b1 => (kns' (kx 1 (K.mv1 (bnd h fun r2 hr2 h => (kc1 (parse_parser_now.ok (b0 := b0) hr2 R_a0_0) rfl ⟨(.tail _ hm_H_a0_0), trivial⟩ (knp #[iv 0, sv noS, iv 0, iv 0] 49 fun b3 => (kst 0 4 #[iv r2.1, sv r2.2.1, iv r2.2.2.1, iv r2.2.2.2] (kns' ?_))))))))))
 refine kx 1 (kld 0 3 rfl (kx 1 (knp #[iv 0, sv noS, iv 0, iv 0, nS] 24 fun b4 => (kst 0 5 #[iv 0, sv noS, iv 0, iv r2.2.2.2, nS] (knt ?_)))))
 obtain ⟨J8, hJ8, h⟩ := joinSplit h
 refine k_cut (τ := Int × ByteArray × Int) (fun t => [(0, pt b0), (2, pt b1), (4, pt b4)]) (fun t => bk b4 #[iv t.1, sv t.2.1, iv t.2.2, iv r2.2.2.2, nS] 24 :: bk b0 #[.slice A_a0_0 a0_0.length c_a0_0, iv a0_1] 46 :: bk b1 #[iv 0, sv noS, iv 0, iv 0, nS] 24 :: X) (fun t => J8 t.1 t.2.1 t.2.2 = some r) ?_ ?_
 ·rintro ⟨x5, x6, x7⟩ h
  subst hJ8
  refine ksr (kx 3 (kld 1 1 rfl (kx 3 (K.mv1 (kst 1 1 #[.slice A_a0_0 a0_0.length c_a0_0, iv (IntKind.i64.wrap (a0_1 + 1))] (kns' (kla 1 0 5 rfl (K.mv1 (K.drop (K.mv1 ?_))))))))))
  refine kst 0 5 #[iv x5, sv x6, iv x7, iv r2.2.2.2, nS] (knt (k_ret ?_))
  obtain rfl := Option.some.inj h
  exact kda 0 5 rfl [none_, bk b0 #[.slice A_a0_0 a0_0.length c_a0_0, iv (IntKind.i64.wrap (a0_1 + 1))] 46] (k_none (K.mv1 (K.drop (k_end (PR.okI ⟨none_, none, 0, (OwnR.nil (rTree 24) 24 none_), rfl, rfl⟩)))))
 ·skip
  refine k_block (ksr (kx 1 (kld 1 0 rfl (kx 2 (knt ?_)))))
  refine kcn h (fun h => ?_) fun h => ?_
  ·refine kpr [(0, 0), (1, 3), (2, 0), (3, 1)] [1] (kpx 1 (kpd 0 2 rfl (kpx 1 (kpt (ost 0 1 #[iv 4, sv noS, iv 0, iv r2.2.2.2, nS] (kan [1] rfl (kpz (kx 1 (kst 2 1 #[iv 4, sv noS, iv r2.2.2.1, iv r2.2.2.2, nS] (K.mv1 ?_))))))))))
   exact K.drop (knl (k_blk (k_then (k_meet (4, (⟨#[]⟩ : ByteArray), r2.2.2.1) h sb rfl))))
  ·refine ksr (kx 1 (kld 1 0 rfl (kx 2 (knt ?_))))
   refine kcn h (fun h => ?_) fun h => ?_
   ·refine kpr [(0, 0), (1, 3), (2, 0), (3, 1)] [1] (kpx 1 (kpd 0 1 rfl (kpx 1 (kpt (ost 0 1 #[iv 5, sv noS, iv 0, iv r2.2.2.2, nS] (kan [1] rfl (kpz (kx 1 (kst 1 1 #[iv 5, sv r2.2.1, iv 0, iv r2.2.2.2, nS] (K.mv1 ?_))))))))))
    exact K.drop (knl (k_blk (k_then (k_meet (5, r2.2.1, 0) h sb rfl))))
   ·refine ksr (kx 1 (K.mv2 (bnd h fun r11 hr11 h => (kc1 (parse_parser_is.ok (b0 := b0) hr11 R_a0_0) rfl ⟨(t3 hm_H_a0_0), trivial⟩ (kx 1 (knt ?_))))))
    refine kcn h (fun h => ?_) fun h => ?_
    ·exact k_region (kx 1 (K.mv1 (kst 0 1 #[iv 1, sv noS, iv 0, iv r2.2.2.2, nS] (K.mv2 (K.drop (knl (k_blk (k_then (k_meet (1, (⟨#[]⟩ : ByteArray), 0) h sb rfl)))))))))
    ·refine ksr (kx 1 (bnd h fun r13 hr13 h => (kc1 (parse_parser_is.ok (b0 := b0) hr13 R_a0_0) rfl ⟨(t3 hm_H_a0_0), trivial⟩ (kx 1 (knt ?_)))))
     refine kcn h (fun h => ?_) fun h => ?_
     ·exact k_region (kx 1 (K.mv1 (kst 0 1 #[iv 2, sv noS, iv 0, iv r2.2.2.2, nS] (K.mv2 (K.drop (knl (k_blk (k_then (k_meet (2, (⟨#[]⟩ : ByteArray), 0) h sb rfl)))))))))
     ·refine ksr (kx 1 (bnd h fun r15 hr15 h => (kc1 (parse_parser_is.ok (b0 := b0) hr15 R_a0_0) rfl ⟨(t3 hm_H_a0_0), trivial⟩ (kx 1 (knt ?_)))))
      refine kcn h (fun h => ?_) fun h => ?_
      ·exact k_region (kx 1 (K.mv1 (kst 0 1 #[iv 3, sv noS, iv 0, iv r2.2.2.2, nS] (K.mv2 (K.drop (knl (k_blk (k_then (k_meet (3, (⟨#[]⟩ : ByteArray), 0) h sb rfl)))))))))
      ·obtain ⟨J19, hJ19, h⟩ := joinSplit h
       refine k_cut (τ := Bool × Int) (fun t => [(0, pt b0), (2, pt b1), (3, pt b3), (40, bv t.1)]) (fun t => bk b0 #[.slice A_a0_0 a0_0.length c_a0_0, iv t.2] 46 :: bk b3 #[iv r2.1, sv r2.2.1, iv r2.2.2.1, iv r2.2.2.2] 49 :: bk b1 #[iv 0, sv noS, iv 0, iv 0, nS] 24 :: X) (fun t => J19 t.1 t.2 = some r) ?_ ?_
       ·rintro ⟨x17, x18⟩ h
        subst hJ19
        refine kcn h (fun h => ?_) fun h => ?_
        ·refine k_seq (kpr [(0, 0), (1, 3), (2, 0), (3, 3), (4, 0), (5, 1), (6, 1)] [1] (kpx 1 (kpd 0 1 rfl (kpx 1 (kpd 0 3 rfl (kpx 1 (kpt (ocp h (fun _ hr21 => (hR.parse_parser_exp (b0 := b0) hr21 R_a0_0)) rfl ⟨(t2 hm_H_a0_0), trivial⟩ (fun _ e => k_then_panic (k_blk_panic (k_then_panic (kpn 2 e rfl)))) fun r21 h => ?_))))))))
         rintro _ _ ⟨h22, A23, k24, o25, rfl, rfl⟩
         refine nx_ret2 (kan [2] rfl (kpt (ons #[iv r21.1, sv r21.2.1, iv r21.2.2.1, iv r21.2.2.2.1, .slice A23 r21.2.2.2.2.1.length k24] 24 1 fun b27 => (kan [3] rfl (kpz (kx 1 (K.mv4 (kst 0 5 #[iv 10, sv r2.2.1, iv 0, iv r2.2.2.2, .slice (some ⟨b27, 0, none⟩) 1 1] (K.mv4 (K.drop ?_))))))))))
         refine knt (k_ret (k_blk_ret (k_then_ret (K.mv2 (K.mv2 (k_row (T := 24) (n := 1) (xs := [(Tree.mk r21.1 r21.2.1 r21.2.2.1 r21.2.2.2.1 r21.2.2.2.2.1)]) (RowI.one (treeO_mk (k := r21.1) (t := r21.2.1) (n := r21.2.2.1) (a := r21.2.2.2.1) 24 o25)) rfl rfl (Nat.le_of_ble_eq_true rfl) fun h28 o29 => ?_))))))
         obtain rfl := Option.some.inj h
         exact kda 1 5 rfl [h28, bk b0 #[.slice A_a0_0 a0_0.length c_a0_0, iv r21.2.2.2.2.2] 46] (K.mv1 (K.drop (k_end (PR.okI ⟨h28, (some ⟨b27, 0, none⟩), 1, o29, rfl, rfl⟩))))
        ·refine ksr (kx 1 (bnd h fun r30 hr30 h => (kc1 (parse_parser_got.ok (b0 := b0) hr30 R_a0_0) rfl ⟨(t2 hm_H_a0_0), trivial⟩ (kx 1 (knt ?_)))))
         refine kcn h (fun h => ?_) fun h => ?_
         ·refine k_seq (kpr [(0, 0), (1, 3), (2, 0), (3, 1)] [1] (kpx 1 (kpd 0 3 rfl (kpx 1 (kpt (ocp h (fun _ hr32 => (hR.parse_parser_fields (b0 := b0) hr32 R_a0_0)) rfl ⟨(t2 hm_H_a0_0), trivial⟩ (fun _ e => k_then_panic (k_blk_panic (k_then_panic (kpn 2 e rfl)))) fun r32 h => ?_))))))
          rintro _ _ ⟨h33, A34, k35, o36, rfl, rfl⟩
          refine nx_ret2 (kan [2] rfl (kpz (kx 1 (K.mv3 (kst 0 5 #[iv 12, sv noS, iv 0, iv r2.2.2.2, .slice A34 r32.1.length k35] (K.mv3 (K.drop (knt (k_ret (k_blk_ret ?_))))))))))
          refine k_then_ret ?_
          obtain rfl := Option.some.inj h
          exact kda 0 5 rfl [h33, bk b0 #[.slice A_a0_0 a0_0.length c_a0_0, iv r32.2] 46] (K.drop (k_end (PR.okI ⟨h33, A34, k35, o36, rfl, rfl⟩)))
         ·refine ksr (kx 1 (kcp h (fun _ hr38 => (hR.parse_parser_suffixed (b0 := b0) hr38 R_a0_0)) rfl ⟨(t2 hm_H_a0_0), trivial⟩ (fun _ e => k_then_panic (k_blk_panic (k_then_panic (kpn 2 e rfl)))) fun r38 h => ?_))
          rintro _ _ ⟨h39, A40, k41, o42, rfl, rfl⟩
          refine nx_ret2 (K.mv2 (K.drop (K.mv2 (kst 0 5 #[iv r38.1, sv r38.2.1, iv r38.2.2.1, iv r38.2.2.2.1, .slice A40 r38.2.2.2.2.1.length k41] (knt (k_ret (k_blk_ret (k_then_ret ?_))))))))
          obtain rfl := Option.some.inj h
          exact kda 0 5 rfl [h39, bk b0 #[.slice A_a0_0 a0_0.length c_a0_0, iv r38.2.2.2.2.2] 46] (K.drop (k_end (PR.okI ⟨h39, A40, k41, o42, rfl, rfl⟩)))
       ·skip
        refine ksr (kx 1 (bnd h fun r44 hr44 h => (kc1 (parse_parser_got.ok (b0 := b0) hr44 R_a0_0) rfl ⟨(t3 hm_H_a0_0), trivial⟩ (K.mv1 (K.drop (kx 1 (knt ?_)))))))
        refine kcn h (fun h => ?_) fun h => ?_
        ·exact k_skip (k_then (k_meet (r44.1, r44.2) h sb rfl))
        ·refine ksr (kx 1 (bnd h fun r46 hr46 h => (kc1 (parse_parser_got.ok (b0 := b0) hr46 R_a0_0) rfl ⟨(t2 hm_H_a0_0), trivial⟩ (kx 1 (knt ?_)))))
         refine kcn h (fun h => ?_) fun h => ?_
         ·exact k_skip (k_then (k_meet (r46.1, r46.2) h sb rfl))
         ·exact k_region (kx 1 (bnd h fun r48 hr48 h => (kc1 (parse_parser_got.ok (b0 := b0) hr48 R_a0_0) rfl ⟨(t2 hm_H_a0_0), trivial⟩ (kx 1 (knt (k_meet (r48.1, r48.2) h sb rfl))))))
def parse_parser_suffixed.l0 : Nat → (Rc : PE) → (a0_0 : List (Int × ByteArray × Int × Int)) → (r2 : Int × ByteArray × Int × Int) → (x15 : Int) → (x16 : ByteArray) → (x17 : Int) → (x18 : Int) → (l19 : List Tree) → (x24 : Int) → Option (PR (Int × ByteArray × Int × Int × List Tree × Int))
 | 0, _, _, _, _, _, _, _, _, _ => none
 | m25 + 1, Rc, a0_0, r2, x15, x16, x17, x18, l19, x24 => (parse_parser_got.f m25 a0_0 x24 (⟨#[91]⟩ : ByteArray)).bind fun r26 => cond r26.1 (PR.bind (Rc.parse_parser_exp a0_0 r26.2 0) fun r28 => PR.bind (parse_parser_want.f m25 a0_0 r28.2.2.2.2.2 (⟨#[93]⟩ : ByteArray)) fun r35 => parse_parser_suffixed.l0 m25 Rc a0_0 r2 7 (⟨#[]⟩ : ByteArray) 0 r2.2.2.2 ([(Tree.mk x15 x16 x17 x18 l19), (Tree.mk r28.1 r28.2.1 r28.2.2.1 r28.2.2.2.1 r28.2.2.2.2.1)]) r35) ((parse_parser_got.f m25 a0_0 r26.2 (⟨#[46]⟩ : ByteArray)).bind fun r40 => cond r40.1 (PR.bind (parse_parser_name.f m25 a0_0 r40.2) fun r42 => parse_parser_suffixed.l0 m25 Rc a0_0 r2 7 (⟨#[]⟩ : ByteArray) 0 r2.2.2.2 ([(Tree.mk x15 x16 x17 x18 l19), (Tree.mk 5 r42.2.1 r42.2.2.1 r42.2.2.2.1 r42.2.2.2.2.1)]) r42.2.2.2.2.2) ((parse_parser_got.f m25 a0_0 r40.2 (⟨#[40]⟩ : ByteArray)).bind fun r53 => cond r53.1 (joinF (fun (l56 : List Tree) (x61 : Int) => PR.bind (parse_parser_want.f m25 a0_0 x61 (⟨#[41]⟩ : ByteArray)) fun r63 => parse_parser_suffixed.l0 m25 Rc a0_0 r2 8 (⟨#[]⟩ : ByteArray) 0 r2.2.2.2 l56 r63) (fun J62 => (parse_parser_is.f m25 a0_0 r53.2 (⟨#[41]⟩ : ByteArray)).bind fun r65 => cond (!r65) (PR.bind (Rc.parse_parser_exps a0_0 r53.2) fun r67 => (apd 64 [(Tree.mk x15 x16 x17 x18 l19)] r67.1).bind fun l75 => J62 l75 r67.2) (J62 ([(Tree.mk x15 x16 x17 x18 l19)]) r53.2))) (some (PR.ok (x15, x16, x17, x18, l19, r53.2)))))
def parse_parser_suffixed.g (Rc : PE) (k : Nat) (a0_0 : List (Int × ByteArray × Int × Int)) (a0_1 : Int) : Option (PR (Int × ByteArray × Int × Int × List Tree × Int)) := (parse_parser_now.f k a0_0 a0_1).bind fun r2 => joinF (fun (x4 : Int) (x5 : ByteArray) (x6 : Int) (x7 : Int) (l8 : List Tree) (x13 : Int) => parse_parser_suffixed.l0 k Rc a0_0 r2 x4 x5 x6 x7 l8 x13) (fun J14 => (parse_parser_got.f k a0_0 a0_1 (⟨#[40]⟩ : ByteArray)).bind fun r82 => cond r82.1 (PR.bind (Rc.parse_parser_exp a0_0 r82.2 0) fun r84 => PR.bind (parse_parser_want.f k a0_0 r84.2.2.2.2.2 (⟨#[41]⟩ : ByteArray)) fun r91 => J14 9 (⟨#[]⟩ : ByteArray) 0 r2.2.2.2 ([(Tree.mk r84.1 r84.2.1 r84.2.2.1 r84.2.2.2.1 r84.2.2.2.2.1)]) r91) (PR.bind (parse_parser_name.f k a0_0 r82.2) fun r95 => J14 r95.1 r95.2.1 r95.2.2.1 r95.2.2.2.1 r95.2.2.2.2.1 r95.2.2.2.2.2))
set_option maxRecDepth 100000 in
theorem parse_parser_suffixed.okg {Rc : PE} (hR : Rc.Good) {k : Nat} {a0_0 : List (Int × ByteArray × Int × Int)} {a0_1 : Int} {b0 : Nat} {H_a0_0 : Frag} {A_a0_0 : Option Addr} {c_a0_0 : Nat} {r : PR (Int × ByteArray × Int × Int × List Tree × Int)} (h : parse_parser_suffixed.g Rc k a0_0 a0_1 = some r) (R_a0_0 : RdT e49 4 H_a0_0 (.slice A_a0_0 a0_0.length c_a0_0) a0_0) : Ct Tryz.prog 90 #[pt b0] [bk b0 #[.slice A_a0_0 a0_0.length c_a0_0, iv a0_1] 46] [H_a0_0] (PR.Post failV (fun (r : Int × ByteArray × Int × Int × List Tree × Int) e l1 => ∃ (H0_ : Frag) (A0_ : Option Addr) (c0_ : Nat), OwnR (rTree 24) 24 H0_ (.slice A0_ r.2.2.2.2.1.length c0_) r.2.2.2.2.1 ∧ e = .returned (.agg #[iv r.1, sv r.2.1, iv r.2.2.1, iv r.2.2.2.1, .slice A0_ r.2.2.2.2.1.length c0_]) ∧ l1 = [H0_, bk b0 #[.slice A_a0_0 a0_0.length c_a0_0, iv r.2.2.2.2.2] 46]) r) := by
 refine ct_enter (args := [pt b0]) Tryz.func90 rfl (Nat.le_of_ble_eq_true rfl) ?_
 intro A X hh_
 obtain ⟨hm_H_a0_0, _⟩ := hh_
 unfold parse_parser_suffixed.g at h
 refine K.eq (env' := [(0, pt b0)]) (l' := bk b0 #[.slice A_a0_0 a0_0.length c_a0_0, iv a0_1] 46 :: X) rfl rfl (ksr (knp #[iv 0, sv noS, iv 0, iv 0, nS] 24 fun b1 => (kns' (kx 1 (K.mv1 (bnd h fun r2 hr2 h => (kc1 (parse_parser_now.ok (b0 := b0) hr2 R_a0_0) rfl ⟨(.tail _ hm_H_a0_0), trivial⟩ (kx 2 (kns' (knp #[iv 0, sv noS, iv 0, iv 0, nS] 24 fun b3 => ?_))))))))))
 refine knt ?_
 obtain ⟨J14, hJ14, h⟩ := joinSplit h
 refine k_cut (τ := Int × ByteArray × Int × Int × (List Tree) × Int × Frag × (Option Addr) × Nat) (fun t => [(0, pt b0), (2, pt b1), (3, iv r2.2.2.2), (4, pt b3)]) (fun t => bk b3 #[iv t.1, sv t.2.1, iv t.2.2.1, iv t.2.2.2.1, .slice t.2.2.2.2.2.2.2.1 t.2.2.2.2.1.length t.2.2.2.2.2.2.2.2] 24 :: bk b0 #[.slice A_a0_0 a0_0.length c_a0_0, iv t.2.2.2.2.2.1] 46 :: bk b1 #[iv 0, sv noS, iv 0, iv 0, nS] 24 :: t.2.2.2.2.2.2.1 :: X) (fun t => J14 t.1 t.2.1 t.2.2.1 t.2.2.2.1 t.2.2.2.2.1 t.2.2.2.2.2.1 = some r ∧ OwnR (rTree 24) 24 t.2.2.2.2.2.2.1 (.slice t.2.2.2.2.2.2.2.1 t.2.2.2.2.1.length t.2.2.2.2.2.2.2.2) t.2.2.2.2.1) ?_ ?_
 ·rintro ⟨x4, x5, x6, x7, l8, x13, h9, A10, k11⟩ ⟨h, o12⟩
  subst hJ14
  refine k_block (k_loop (τ := Int × ByteArray × Int × Int × (List Tree) × Int × Frag × (Option Addr) × Nat) (fun t => [(0, pt b0), (2, pt b1), (3, iv r2.2.2.2), (4, pt b3)]) (fun t => bk b3 #[iv t.1, sv t.2.1, iv t.2.2.1, iv t.2.2.2.1, .slice t.2.2.2.2.2.2.2.1 t.2.2.2.2.1.length t.2.2.2.2.2.2.2.2] 24 :: bk b0 #[.slice A_a0_0 a0_0.length c_a0_0, iv t.2.2.2.2.2.1] 46 :: bk b1 #[iv 0, sv noS, iv 0, iv 0, nS] 24 :: t.2.2.2.2.2.2.1 :: X) (fun m t => parse_parser_suffixed.l0 m Rc a0_0 r2 t.1 t.2.1 t.2.2.1 t.2.2.2.1 t.2.2.2.2.1 t.2.2.2.2.2.1 = some r ∧ OwnR (rTree 24) 24 t.2.2.2.2.2.2.1 (.slice t.2.2.2.2.2.2.2.1 t.2.2.2.2.1.length t.2.2.2.2.2.2.2.2) t.2.2.2.2.1) k (x4, x5, x6, x7, l8, x13, h9, A10, k11) ⟨h, o12⟩ sb rfl ?_)
  clear h
  rintro m25 ⟨x15, x16, x17, x18, l19, x24, h20, A21, k22⟩ ⟨h, o23⟩
  cases m25 with
  | zero => simp [parse_parser_suffixed.l0] at h
  | succ m25 =>
   simp only [parse_parser_suffixed.l0] at h
   refine k_block (k_block (ksr (kx 1 (K.mv1 (bnd h fun r26 hr26 h => (kc1 (parse_parser_got.ok (b0 := b0) hr26 R_a0_0) rfl ⟨(t3 hm_H_a0_0), trivial⟩ (kx 1 (knt ?_))))))))
   refine kcn h (fun h => ?_) fun h => ?_
   ·refine k_seq (kpr [(0, 0), (1, 3), (2, 0), (3, 1)] [1] (kpx 1 (kpa 0 0 5 rfl (kpx 1 (kpt (ocp h (fun _ hr28 => (hR.parse_parser_exp (b0 := b0) hr28 R_a0_0)) rfl ⟨(t3 hm_H_a0_0), trivial⟩ (fun _ e => k_then_panic (k_blk_panic (k_blk_panic (k_then_panic (k_blk_panic (kpn 3 e rfl)))))) fun r28 h => ?_))))))
    rintro _ _ ⟨h29, A30, k31, o32, rfl, rfl⟩
    refine nx_ret2 (kan [2] rfl (kpz (kns #[iv x15, sv x16, iv x17, iv x18, .slice A21 l19.length k22, iv r28.1, sv r28.2.1, iv r28.2.2.1, iv r28.2.2.2.1, .slice A30 r28.2.2.2.2.1.length k31] 24 2 fun b34 => (kx 1 (K.mv3 (kst 0 5 #[iv 7, sv noS, iv 0, iv r2.2.2.2, .slice (some ⟨b34, 0, none⟩) 2 2] (knr (kx 1 (K.mv3 (kcp h (fun _ hr35 => (parse_parser_want.ok (b0 := b0) hr35 R_a0_0)) rfl ⟨(t5 hm_H_a0_0), trivial⟩ (fun _ e => k_blk_panic (k_blk_panic (k_then_panic (k_blk_panic (kpn 5 e rfl))))) fun r35 h => ?_))))))))))
    rintro _ _ ⟨rfl, rfl⟩
    refine nx_ret1 (knl (k_blk (k_blk (k_then (K.mv3 (K.mvN [_, _, _, _, _] _ _ (k_or fun p37 => (K.mv3 (k_row (T := 24) (n := 2) (xs := [(Tree.mk x15 x16 x17 x18 l19), (Tree.mk r28.1 r28.2.1 r28.2.2.1 r28.2.2.2.1 r28.2.2.2.2.1)]) (RowI.cons (treeO_mk (k := x15) (t := x16) (n := x17) (a := x18) 24 o23) p37 (RowI.one (treeO_mk (k := r28.1) (t := r28.2.1) (n := r28.2.2.1) (a := r28.2.2.2.1) 24 o32))) rfl rfl (Nat.le_of_ble_eq_true rfl) fun h38 o39 => (K.mv3 ?_))))))))))
    exact K.mv2 (K.mv3 (k_again m25 (7, (⟨#[]⟩ : ByteArray), 0, r2.2.2.2, [(Tree.mk x15 x16 x17 x18 l19), (Tree.mk r28.1 r28.2.1 r28.2.2.1 r28.2.2.2.1 r28.2.2.2.2.1)], r35, h38, (some ⟨b34, 0, none⟩), 2) (Nat.lt_succ_self _) ⟨h, o39⟩ sb rfl))
   ·refine ksr (kx 1 (bnd h fun r40 hr40 h => (kc1 (parse_parser_got.ok (b0 := b0) hr40 R_a0_0) rfl ⟨(t3 hm_H_a0_0), trivial⟩ (kx 1 (knt ?_)))))
    refine kcn h (fun h => ?_) fun h => ?_
    ·refine ksr (kx 1 (kcp h (fun _ hr42 => (parse_parser_name.ok (b0 := b0) hr42 R_a0_0)) rfl ⟨(t3 hm_H_a0_0), trivial⟩ (fun _ e => k_then_panic (k_blk_panic (k_blk_panic (k_then_panic (k_blk_panic (kpn 3 e rfl)))))) fun r42 h => ?_))
     rintro _ _ ⟨h43, A44, k45, o46, rfl, rfl⟩
     refine nx_ret2 (knp #[iv 0, sv noS, iv 0, iv 0, nS] 24 fun b48 => (kst 0 5 #[iv r42.1, sv r42.2.1, iv r42.2.2.1, iv r42.2.2.2.1, .slice A44 r42.2.2.2.2.1.length k45] (kns' (kx 1 (kst 0 1 #[iv 5, sv r42.2.1, iv r42.2.2.1, iv r42.2.2.2.1, .slice A44 r42.2.2.2.2.1.length k45] (knr (kx 1 (kla 3 0 5 rfl (kla 0 0 5 rfl (K.drop ?_))))))))))
     refine kns #[iv x15, sv x16, iv x17, iv x18, .slice A21 l19.length k22, iv 5, sv r42.2.1, iv r42.2.2.1, iv r42.2.2.2.1, .slice A44 r42.2.2.2.2.1.length k45] 24 2 fun b49 => (kx 1 (K.mv3 (kst 0 5 #[iv 7, sv noS, iv 0, iv r2.2.2.2, .slice (some ⟨b49, 0, none⟩) 2 2] (knl (k_blk (k_blk (k_then (K.mv2 (K.mvN [_, _, _, _, _] _ _ (k_or fun p50 => ?_))))))))))
     exact K.mv2 (k_row (T := 24) (n := 2) (xs := [(Tree.mk x15 x16 x17 x18 l19), (Tree.mk 5 r42.2.1 r42.2.2.1 r42.2.2.2.1 r42.2.2.2.2.1)]) (RowI.cons (treeO_mk (k := x15) (t := x16) (n := x17) (a := x18) 24 o23) p50 (RowI.one (treeO_mk (k := 5) (t := r42.2.1) (n := r42.2.2.1) (a := r42.2.2.2.1) 24 o46))) rfl rfl (Nat.le_of_ble_eq_true rfl) fun h51 o52 => (K.mv3 (K.mv3 (K.mv3 (k_again m25 (7, (⟨#[]⟩ : ByteArray), 0, r2.2.2.2, [(Tree.mk x15 x16 x17 x18 l19), (Tree.mk 5 r42.2.1 r42.2.2.1 r42.2.2.2.1 r42.2.2.2.2.1)], r42.2.2.2.2.2, h51, (some ⟨b49, 0, none⟩), 2) (Nat.lt_succ_self _) ⟨h, o52⟩ sb rfl)))))
    ·refine ksr (kx 1 (bnd h fun r53 hr53 h => (kc1 (parse_parser_got.ok (b0 := b0) hr53 R_a0_0) rfl ⟨(t3 hm_H_a0_0), trivial⟩ (kx 1 (knt ?_)))))
     refine kcn h (fun h => ?_) fun h => ?_
     ·refine ksr (kx 1 (kla 1 0 5 rfl (kns #[iv x15, sv x16, iv x17, iv x18, .slice A21 l19.length k22] 24 1 fun b55 => (kx 1 (K.mv2 (kst 0 5 #[iv 8, sv noS, iv 0, iv r2.2.2.2, .slice (some ⟨b55, 0, none⟩) 1 1] (knt ?_)))))))
      obtain ⟨J62, hJ62, h⟩ := joinSplit h
      refine k_cut (τ := (List Tree) × Int × Frag × (Option Addr) × Nat) (fun t => [(0, pt b0), (2, pt b1), (3, iv r2.2.2.2), (4, pt b3)]) (fun t => bk b3 #[iv 8, sv noS, iv 0, iv r2.2.2.2, .slice t.2.2.2.1 t.1.length t.2.2.2.2] 24 :: bk b0 #[.slice A_a0_0 a0_0.length c_a0_0, iv t.2.1] 46 :: bk b1 #[iv 0, sv noS, iv 0, iv 0, nS] 24 :: t.2.2.1 :: X) (fun t => J62 t.1 t.2.1 = some r ∧ OwnR (rTree 24) 24 t.2.2.1 (.slice t.2.2.2.1 t.1.length t.2.2.2.2) t.1) ?_ ?_
      ·rintro ⟨l56, x61, h57, A58, k59⟩ ⟨h, o60⟩
       subst hJ62
       refine k_region (kx 1 (K.mv1 (kcp h (fun _ hr63 => (parse_parser_want.ok (b0 := b0) hr63 R_a0_0)) rfl ⟨(t3 hm_H_a0_0), trivial⟩ (fun _ e => k_blk_panic (k_blk_panic (k_then_panic (k_blk_panic (kpn 3 e rfl))))) fun r63 h => ?_)))
       rintro _ _ ⟨rfl, rfl⟩
       exact nx_ret1 (knl (k_blk (k_blk (k_then (K.mv3 (K.mv3 (K.mv2 (K.mv3 (k_again m25 (8, (⟨#[]⟩ : ByteArray), 0, r2.2.2.2, l56, r63, h57, A58, k59) (Nat.lt_succ_self _) ⟨h, o60⟩ sb rfl)))))))))
      ·skip
       refine ksr (kx 1 (K.mv2 (bnd h fun r65 hr65 h => (kc1 (parse_parser_is.ok (b0 := b0) hr65 R_a0_0) rfl ⟨(t4 hm_H_a0_0), trivial⟩ (kx 1 (knt ?_))))))
       refine kcn h (fun h => ?_) fun h => ?_
       ·refine kpr [(0, 0), (1, 3), (2, 0), (3, 1)] [1] (kpx 1 (kpd 0 4 rfl (kpx 1 (kpt (ocp h (fun _ hr67 => (hR.parse_parser_exps (b0 := b0) hr67 R_a0_0)) rfl ⟨(t4 hm_H_a0_0), trivial⟩ (fun _ e => k_then_panic (k_blk_panic (k_blk_panic (k_then_panic (k_blk_panic (kpn 4 e rfl)))))) fun r67 h => ?_)))))
        rintro _ _ ⟨h68, A69, k70, o71, rfl, rfl⟩
        refine nx_ret2 (kan [2] rfl (kpz (K.mvN [_, _, _, _, _] _ _ (K.mv4 (k_row (T := 24) (n := 1) (xs := [(Tree.mk x15 x16 x17 x18 l19)]) (RowI.one (treeO_mk (k := x15) (t := x16) (n := x17) (a := x18) 24 o23)) rfl rfl (Nat.le_of_ble_eq_true rfl) fun h73 o74 => (K.mv1 (K.mv1 (bnd h fun l75 hl75 h => (kapR rfl ety22 rfl hl75 o74 o71 fun h76 A77 k78 o79 => (kx 1 ?_))))))))))
        exact K.mv2 (kst 4 1 #[iv 8, sv noS, iv 0, iv r2.2.2.2, .slice A77 l75.length k78] (knt (K.mv1 (K.mv3 (K.mv3 (K.mv3 (k_meet (l75, r67.2, h76, A77, k78) ⟨h, o79⟩ sb rfl)))))))
       ·exact k_skip (k_then (K.mv4 (K.mv3 (k_row (T := 24) (n := 1) (xs := [(Tree.mk x15 x16 x17 x18 l19)]) (RowI.one (treeO_mk (k := x15) (t := x16) (n := x17) (a := x18) 24 o23)) rfl rfl (Nat.le_of_ble_eq_true rfl) fun h80 o81 => (K.mv3 (K.mv2 (K.mv3 (k_meet ([(Tree.mk x15 x16 x17 x18 l19)], r53.2, h80, (some ⟨b55, 0, none⟩), 1) ⟨h, o81⟩ sb rfl))))))))
     ·refine ksr (kla 1 0 5 rfl (K.mv1 (K.drop (K.mv1 (kst 0 5 #[iv x15, sv x16, iv x17, iv x18, .slice A21 l19.length k22] (knt (k_ret (k_blk_ret (k_blk_ret (k_then_ret ?_))))))))))
      refine k_blk_ret ?_
      obtain rfl := Option.some.inj h
      exact kda 0 5 rfl [h20, bk b0 #[.slice A_a0_0 a0_0.length c_a0_0, iv r53.2] 46] (K.drop (K.mv1 (k_end (PR.okI ⟨h20, A21, k22, o23, rfl, rfl⟩))))
 ·skip
  refine ksr (kx 1 (K.mv1 (bnd h fun r82 hr82 h => (kc1 (parse_parser_got.ok (b0 := b0) hr82 R_a0_0) rfl ⟨(t2 hm_H_a0_0), trivial⟩ (knt ?_)))))
  refine kcn h (fun h => ?_) fun h => ?_
  ·refine ksr (kx 2 (kcp h (fun _ hr84 => (hR.parse_parser_exp (b0 := b0) hr84 R_a0_0)) rfl ⟨(t2 hm_H_a0_0), trivial⟩ (fun _ e => k_then_panic (k_then_panic (kpn 2 e rfl))) fun r84 h => ?_))
   rintro _ _ ⟨h85, A86, k87, o88, rfl, rfl⟩
   refine nx_ret2 (kns #[iv r84.1, sv r84.2.1, iv r84.2.2.1, iv r84.2.2.2.1, .slice A86 r84.2.2.2.2.1.length k87] 24 1 fun b90 => (kx 1 (K.mv3 (kst 0 5 #[iv 9, sv noS, iv 0, iv r2.2.2.2, .slice (some ⟨b90, 0, none⟩) 1 1] (knr (kx 1 (K.mv3 (kcp h (fun _ hr91 => (parse_parser_want.ok (b0 := b0) hr91 R_a0_0)) rfl ⟨(t4 hm_H_a0_0), trivial⟩ (fun _ e => k_then_panic (kpn 4 e rfl)) fun r91 h => ?_))))))))
   rintro _ _ ⟨rfl, rfl⟩
   exact nx_ret1 (knt (K.mv3 (K.mv3 (k_row (T := 24) (n := 1) (xs := [(Tree.mk r84.1 r84.2.1 r84.2.2.1 r84.2.2.2.1 r84.2.2.2.2.1)]) (RowI.one (treeO_mk (k := r84.1) (t := r84.2.1) (n := r84.2.2.1) (a := r84.2.2.2.1) 24 o88)) rfl rfl (Nat.le_of_ble_eq_true rfl) fun h93 o94 => (K.mv3 (K.mv2 (K.mv3 (k_meet (9, (⟨#[]⟩ : ByteArray), 0, r2.2.2.2, [(Tree.mk r84.1 r84.2.1 r84.2.2.1 r84.2.2.2.1 r84.2.2.2.2.1)], r91, h93, (some ⟨b90, 0, none⟩), 1) ⟨h, o94⟩ sb rfl))))))))
  ·refine k_region (kx 1 (kcp h (fun _ hr95 => (parse_parser_name.ok (b0 := b0) hr95 R_a0_0)) rfl ⟨(t2 hm_H_a0_0), trivial⟩ (fun _ e => k_then_panic (kpn 2 e rfl)) fun r95 h => ?_))
   rintro _ _ ⟨h96, A97, k98, o99, rfl, rfl⟩
   exact nx_ret2 (K.mv2 (kst 0 5 #[iv r95.1, sv r95.2.1, iv r95.2.2.1, iv r95.2.2.2.1, .slice A97 r95.2.2.2.2.1.length k98] (knt (K.mv1 (K.mv3 (K.mv3 (K.mv3 (k_meet (r95.1, r95.2.1, r95.2.2.1, r95.2.2.2.1, r95.2.2.2.2.1, r95.2.2.2.2.2, h96, A97, k98) ⟨h, o99⟩ sb rfl))))))))
def parse_parser_fields.l0 : Nat → (Rc : PE) → (a0_0 : List (Int × ByteArray × Int × Int)) → (J7 : (List Tree) → Int → Option (PR (List Tree × Int))) → (l10 : List Tree) → (x15 : Int) → Option (PR (List Tree × Int))
 | 0, _, _, _, _, _ => none
 | m16 + 1, Rc, a0_0, J7, l10, x15 => (parse_parser_is.f m16 a0_0 x15 (⟨#[125]⟩ : ByteArray)).bind fun r17 => cond (!r17) (PR.bind (Rc.parse_parser_field a0_0 x15) fun r19 => (apd 64 l10 [(Tree.mk r19.1 r19.2.1 r19.2.2.1 r19.2.2.2.1 r19.2.2.2.2.1)]).bind fun l28 => joinF (fun (x33 : Bool) (x34 : Int) => cond x33 (J7 l28 x34) (parse_parser_fields.l0 m16 Rc a0_0 J7 l28 x34)) (fun J35 => (parse_parser_got.f m16 a0_0 r19.2.2.2.2.2 (⟨#[44]⟩ : ByteArray)).bind fun r37 => cond (!r37.1) ((parse_parser_got.f m16 a0_0 r37.2 (⟨#[59]⟩ : ByteArray)).bind fun r39 => J35 (!r39.1) r39.2) (J35 false r37.2))) (J7 l10 x15)
def parse_parser_fields.g (Rc : PE) (k : Nat) (a0_0 : List (Int × ByteArray × Int × Int)) (a0_1 : Int) : Option (PR (List Tree × Int)) := joinF (fun (l1 : List Tree) (x6 : Int) => PR.bind (parse_parser_want.f k a0_0 x6 (⟨#[125]⟩ : ByteArray)) fun r8 => some (PR.ok (l1, r8))) (fun J7 => parse_parser_fields.l0 k Rc a0_0 J7 ([]) a0_1)
set_option maxRecDepth 100000 in
theorem parse_parser_fields.okg {Rc : PE} (hR : Rc.Good) {k : Nat} {a0_0 : List (Int × ByteArray × Int × Int)} {a0_1 : Int} {b0 : Nat} {H_a0_0 : Frag} {A_a0_0 : Option Addr} {c_a0_0 : Nat} {r : PR (List Tree × Int)} (h : parse_parser_fields.g Rc k a0_0 a0_1 = some r) (R_a0_0 : RdT e49 4 H_a0_0 (.slice A_a0_0 a0_0.length c_a0_0) a0_0) : Ct Tryz.prog 114 #[pt b0] [bk b0 #[.slice A_a0_0 a0_0.length c_a0_0, iv a0_1] 46] [H_a0_0] (PR.Post failV (fun (r : List Tree × Int) e l1 => ∃ (H0_ : Frag) (A0_ : Option Addr) (c0_ : Nat), OwnR (rTree 24) 24 H0_ (.slice A0_ r.1.length c0_) r.1 ∧ e = .returned (.slice A0_ r.1.length c0_) ∧ l1 = [H0_, bk b0 #[.slice A_a0_0 a0_0.length c_a0_0, iv r.2] 46]) r) := by
 refine ct_enter (args := [pt b0]) Tryz.func114 rfl (Nat.le_of_ble_eq_true rfl) ?_
 intro A X hh_
 obtain ⟨hm_H_a0_0, _⟩ := hh_
 unfold parse_parser_fields.g at h
 refine K.eq (env' := [(0, pt b0)]) (l' := bk b0 #[.slice A_a0_0 a0_0.length c_a0_0, iv a0_1] 46 :: X) rfl rfl (ksr (kx 1 (kns' (kx 1 (knt ?_)))))
 obtain ⟨J7, hJ7, h⟩ := joinSplit h
 refine k_cut (τ := (List Tree) × Int × Frag × (Option Addr) × Nat) (fun t => [(0, pt b0), (3, .slice t.2.2.2.1 t.1.length t.2.2.2.2)]) (fun t => bk b0 #[.slice A_a0_0 a0_0.length c_a0_0, iv t.2.1] 46 :: t.2.2.1 :: X) (fun t => J7 t.1 t.2.1 = some r ∧ OwnR (rTree 24) 24 t.2.2.1 (.slice t.2.2.2.1 t.1.length t.2.2.2.2) t.1) ?_ ?_
 ·rintro ⟨l1, x6, h2, A3, k4⟩ ⟨h, o5⟩
  subst hJ7
  refine ksr (kx 1 (kcp h (fun _ hr8 => (parse_parser_want.ok (b0 := b0) hr8 R_a0_0)) rfl ⟨(.tail _ hm_H_a0_0), trivial⟩ (fun _ e => k_then_panic (kpn 1 e rfl)) fun r8 h => ?_))
  rintro _ _ ⟨rfl, rfl⟩
  refine nx_ret1 (kns' (kx 2 (knt (k_ret ?_))))
  obtain rfl := Option.some.inj h
  exact kdv (.slice A3 l1.length k4) [h2, bk b0 #[.slice A_a0_0 a0_0.length c_a0_0, iv r8] 46] (K.mv1 (k_end (PR.okI ⟨h2, A3, k4, o5, rfl, rfl⟩)))
 ·skip
  refine k_block (k_none (K.mv1 (k_loop (τ := (List Tree) × Int × Frag × (Option Addr) × Nat) (fun t => [(0, pt b0), (3, .slice t.2.2.2.1 t.1.length t.2.2.2.2)]) (fun t => bk b0 #[.slice A_a0_0 a0_0.length c_a0_0, iv t.2.1] 46 :: t.2.2.1 :: X) (fun m t => parse_parser_fields.l0 m Rc a0_0 J7 t.1 t.2.1 = some r ∧ OwnR (rTree 24) 24 t.2.2.1 (.slice t.2.2.2.1 t.1.length t.2.2.2.2) t.1) k ([], a0_1, none_, none, 0) ⟨h, (OwnR.nil (rTree 24) 24 none_)⟩ sb rfl ?_)))
  clear h
  rintro m16 ⟨l10, x15, h11, A12, k13⟩ ⟨h, o14⟩
  cases m16 with
  | zero => simp [parse_parser_fields.l0] at h
  | succ m16 =>
   simp only [parse_parser_fields.l0] at h
   refine k_seq (ksr (kx 1 (bnd h fun r17 hr17 h => (kc1 (parse_parser_is.ok (b0 := b0) hr17 R_a0_0) rfl ⟨(.tail _ hm_H_a0_0), trivial⟩ (kx 1 (knt ?_))))))
   refine kcn h (fun h => ?_) fun h => ?_
   ·refine k_skip (k_then (k_block (ksr (kx 2 (kcp h (fun _ hr19 => (hR.parse_parser_field (b0 := b0) hr19 R_a0_0)) rfl ⟨(.tail _ hm_H_a0_0), trivial⟩ (fun _ e => k_then_panic (k_blk_panic (k_then_panic (k_blk_panic (k_then_panic (kpn 1 e rfl)))))) fun r19 h => ?_)))))
    rintro _ _ ⟨h20, A21, k22, o23, rfl, rfl⟩
    refine nx_ret2 (kns #[iv r19.1, sv r19.2.1, iv r19.2.2.1, iv r19.2.2.2.1, .slice A21 r19.2.2.2.2.1.length k22] 24 1 fun b25 => (K.mv1 (K.mv1 (k_row (T := 24) (n := 1) (xs := [(Tree.mk r19.1 r19.2.1 r19.2.2.1 r19.2.2.2.1 r19.2.2.2.2.1)]) (RowI.one (treeO_mk (k := r19.1) (t := r19.2.1) (n := r19.2.2.1) (a := r19.2.2.2.1) 24 o23)) rfl rfl (Nat.le_of_ble_eq_true rfl) fun h26 o27 => (K.mv2 (bnd h fun l28 hl28 h => (kapR rfl ety22 rfl hl28 o14 o27 fun h29 A30 k31 o32 => (kx 1 (knt ?_)))))))))
    obtain ⟨J35, hJ35, h⟩ := joinSplit h
    refine k_cut (τ := Bool × Int) (fun t => [(0, pt b0), (3, .slice A30 l28.length k31), (19, bv t.1)]) (fun t => h29 :: bk b0 #[.slice A_a0_0 a0_0.length c_a0_0, iv t.2] 46 :: X) (fun t => J35 t.1 t.2 = some r) ?_ ?_
    ·rintro ⟨x33, x34⟩ h
     subst hJ35
     refine kcn h (fun h => ?_) fun h => ?_
     ·exact k_exit (k_there rfl (k_then_exit (k_here (k_then (K.mv1 (k_meet (l28, x34, h29, A30, k31) ⟨h, o32⟩ sb rfl))))))
     ·exact k_skip (k_blk (k_then (K.mv1 (k_again m16 (l28, x34, h29, A30, k31) (Nat.lt_succ_self _) ⟨h, o32⟩ sb rfl))))
    ·skip
     refine k_region (kx 1 (K.mv1 (bnd h fun r37 hr37 h => (kc1 (parse_parser_got.ok (b0 := b0) hr37 R_a0_0) rfl ⟨(.tail _ hm_H_a0_0), trivial⟩ (kx 2 ?_)))))
     refine kcs 15 h (fun h => ?_) fun h => ?_
     ·exact kx 1 (bnd h fun r39 hr39 h => (kc1 (parse_parser_got.ok (b0 := b0) hr39 R_a0_0) rfl ⟨(.tail _ hm_H_a0_0), trivial⟩ (kx 2 (knt (K.mv1 (k_meet (!r39.1, r39.2) h sb rfl))))))
     ·exact kx 4 (knt (K.mv1 (k_meet (false, r37.2) h sb rfl)))
   ·exact k_exit (k_then_exit (k_then_exit (k_here (k_then (k_meet (l10, x15, h11, A12, k13) ⟨h, o14⟩ sb rfl)))))
def parse_parser_field.g (Rc : PE) (k : Nat) (a0_0 : List (Int × ByteArray × Int × Int)) (a0_1 : Int) : Option (PR (Int × ByteArray × Int × Int × List Tree × Int)) := (parse_parser_now.f k a0_0 a0_1).bind fun r2 => joinF (fun (x5 : Int) (l6 : List Tree) (x11 : Int) => PR.bind (Rc.parse_parser_exp a0_0 x11 0) fun r13 => (apd 64 l6 [(Tree.mk r13.1 r13.2.1 r13.2.2.1 r13.2.2.2.1 r13.2.2.2.2.1)]).bind fun l22 => some (PR.ok (x5, (⟨#[]⟩ : ByteArray), 0, r2.2.2.2, l22, r13.2.2.2.2.2))) (fun J12 => (parse_parser_got.f k a0_0 a0_1 (⟨#[91]⟩ : ByteArray)).bind fun r27 => cond r27.1 (PR.bind (Rc.parse_parser_exp a0_0 r27.2 0) fun r29 => PR.bind (parse_parser_want.f k a0_0 r29.2.2.2.2.2 (⟨#[93]⟩ : ByteArray)) fun r36 => PR.bind (parse_parser_want.f k a0_0 r36 (⟨#[61]⟩ : ByteArray)) fun r38 => J12 14 ([(Tree.mk r29.1 r29.2.1 r29.2.2.1 r29.2.2.2.1 r29.2.2.2.2.1)]) r38) ((cond (r2.1 == 1) ((lIdx a0_0 (IntKind.i64.wrap (r27.2 + 1))).bind fun x57 => cond (x57.1 == 5) ((lIdx a0_0 (IntKind.i64.wrap (r27.2 + 1))).bind fun x65 => some (x65.2.1.toList == (⟨#[61]⟩ : ByteArray).toList)) (some false)) (some false) : Option Bool).bind fun q42 => cond q42 (PR.bind (parse_parser_name.f k a0_0 r27.2) fun r44 => PR.bind (parse_parser_want.f k a0_0 r44.2.2.2.2.2 (⟨#[61]⟩ : ByteArray)) fun r52 => J12 14 ([(Tree.mk 5 r44.2.1 r44.2.2.1 r44.2.2.2.1 r44.2.2.2.2.1)]) r52) (J12 13 ([]) r27.2)))
set_option maxRecDepth 100000 in
theorem parse_parser_field.okg {Rc : PE} (hR : Rc.Good) {k : Nat} {a0_0 : List (Int × ByteArray × Int × Int)} {a0_1 : Int} {b0 : Nat} {H_a0_0 : Frag} {A_a0_0 : Option Addr} {c_a0_0 : Nat} {r : PR (Int × ByteArray × Int × Int × List Tree × Int)} (h : parse_parser_field.g Rc k a0_0 a0_1 = some r) (R_a0_0 : RdT e49 4 H_a0_0 (.slice A_a0_0 a0_0.length c_a0_0) a0_0) : Ct Tryz.prog 125 #[pt b0] [bk b0 #[.slice A_a0_0 a0_0.length c_a0_0, iv a0_1] 46] [H_a0_0] (PR.Post failV (fun (r : Int × ByteArray × Int × Int × List Tree × Int) e l1 => ∃ (H0_ : Frag) (A0_ : Option Addr) (c0_ : Nat), OwnR (rTree 24) 24 H0_ (.slice A0_ r.2.2.2.2.1.length c0_) r.2.2.2.2.1 ∧ e = .returned (.agg #[iv r.1, sv r.2.1, iv r.2.2.1, iv r.2.2.2.1, .slice A0_ r.2.2.2.2.1.length c0_]) ∧ l1 = [H0_, bk b0 #[.slice A_a0_0 a0_0.length c_a0_0, iv r.2.2.2.2.2] 46]) r) := by
 refine ct_enter (args := [pt b0]) Tryz.func125 rfl (Nat.le_of_ble_eq_true rfl) ?_
 intro A X hh_
 obtain ⟨hm_H_a0_0, _⟩ := hh_
 unfold parse_parser_field.g at h
 refine K.eq (env' := [(0, pt b0)]) (l' := bk b0 #[.slice A_a0_0 a0_0.length c_a0_0, iv a0_1] 46 :: X) rfl rfl (ksr (knp #[iv 0, sv noS, iv 0, iv 0, nS] 24 fun b1 => (kns' (kx 1 (K.mv1 (bnd h fun r2 hr2 h => (kc1 (parse_parser_now.ok (b0 := b0) hr2 R_a0_0) rfl ⟨(.tail _ hm_H_a0_0), trivial⟩ (knp #[iv 0, sv noS, iv 0, iv 0] 49 fun b3 => (kst 0 4 #[iv r2.1, sv r2.2.1, iv r2.2.2.1, iv r2.2.2.2] (kns' ?_))))))))))
 refine kx 1 (kld 0 3 rfl (kx 1 (knp #[iv 0, sv noS, iv 0, iv 0, nS] 24 fun b4 => (kst 0 5 #[iv 14, sv noS, iv 0, iv r2.2.2.2, nS] (knt ?_)))))
 obtain ⟨J12, hJ12, h⟩ := joinSplit h
 refine k_cut (τ := Int × (List Tree) × Int × Frag × (Option Addr) × Nat) (fun t => [(0, pt b0), (2, pt b1), (4, pt b4)]) (fun t => bk b4 #[iv t.1, sv noS, iv 0, iv r2.2.2.2, .slice t.2.2.2.2.1 t.2.1.length t.2.2.2.2.2] 24 :: bk b0 #[.slice A_a0_0 a0_0.length c_a0_0, iv t.2.2.1] 46 :: bk b1 #[iv 0, sv noS, iv 0, iv 0, nS] 24 :: t.2.2.2.1 :: X) (fun t => J12 t.1 t.2.1 t.2.2.1 = some r ∧ OwnR (rTree 24) 24 t.2.2.2.1 (.slice t.2.2.2.2.1 t.2.1.length t.2.2.2.2.2) t.2.1) ?_ ?_
 ·rintro ⟨x5, l6, x11, h7, A8, k9⟩ ⟨h, o10⟩
  subst hJ12
  refine k_seq (kpr [(0, 0), (1, 3), (2, 0), (3, 1), (4, 1)] [0] (kpx 1 (kpd 0 4 rfl (kpx 1 (kpt (K.mv1 (ocp h (fun _ hr13 => (hR.parse_parser_exp (b0 := b0) hr13 R_a0_0)) rfl ⟨(t3 hm_H_a0_0), trivial⟩ (fun _ e => k_then_panic (kpn 3 e rfl)) fun r13 h => ?_)))))))
  rintro _ _ ⟨h14, A15, k16, o17, rfl, rfl⟩
  refine nx_ret2 (kan [2] rfl (kpt (ons #[iv r13.1, sv r13.2.1, iv r13.2.2.1, iv r13.2.2.2.1, .slice A15 r13.2.2.2.2.1.length k16] 24 1 fun b19 => (kan [3] rfl (kpz (K.mv1 (K.mv1 (k_row (T := 24) (n := 1) (xs := [(Tree.mk r13.1 r13.2.1 r13.2.2.1 r13.2.2.2.1 r13.2.2.2.2.1)]) (RowI.one (treeO_mk (k := r13.1) (t := r13.2.1) (n := r13.2.2.1) (a := r13.2.2.2.1) 24 o17)) rfl rfl (Nat.le_of_ble_eq_true rfl) fun h20 o21 => (K.mv4 (bnd h fun l22 hl22 h => ?_))))))))))
  refine kapR rfl ety22 rfl hl22 o10 o21 fun h23 A24 k25 o26 => (kx 1 (K.mv2 (kst 4 1 #[iv x5, sv noS, iv 0, iv r2.2.2.2, .slice A24 l22.length k25] (kns' (kla 0 0 5 rfl (K.drop (K.mv2 (kst 0 5 #[iv x5, sv noS, iv 0, iv r2.2.2.2, .slice A24 l22.length k25] (knt (k_ret ?_))))))))))
  obtain rfl := Option.some.inj h
  exact kda 0 5 rfl [h23, bk b0 #[.slice A_a0_0 a0_0.length c_a0_0, iv r13.2.2.2.2.2] 46] (K.drop (k_end (PR.okI ⟨h23, A24, k25, o26, rfl, rfl⟩)))
 ·skip
  refine k_block (ksr (kx 1 (K.mv2 (bnd h fun r27 hr27 h => (kc1 (parse_parser_got.ok (b0 := b0) hr27 R_a0_0) rfl ⟨(t3 hm_H_a0_0), trivial⟩ (kx 1 (knt ?_)))))))
  refine kcn h (fun h => ?_) fun h => ?_
  ·refine ksr (kx 1 (kcp h (fun _ hr29 => (hR.parse_parser_exp (b0 := b0) hr29 R_a0_0)) rfl ⟨(t3 hm_H_a0_0), trivial⟩ (fun _ e => k_then_panic (k_blk_panic (k_then_panic (kpn 3 e rfl)))) fun r29 h => ?_))
   rintro _ _ ⟨h30, A31, k32, o33, rfl, rfl⟩
   refine nx_ret2 (K.mv3 (K.drop (kns #[iv r29.1, sv r29.2.1, iv r29.2.2.1, iv r29.2.2.2.1, .slice A31 r29.2.2.2.2.1.length k32] 24 1 fun b35 => (kx 1 (K.mv3 (kst 4 1 #[iv 14, sv noS, iv 0, iv r2.2.2.2, .slice (some ⟨b35, 0, none⟩) 1 1] (kns' (kx 1 (K.mv3 (kcp h (fun _ hr36 => (parse_parser_want.ok (b0 := b0) hr36 R_a0_0)) rfl ⟨(t4 hm_H_a0_0), trivial⟩ (fun _ e => k_then_panic (k_blk_panic (k_then_panic (kpn 4 e rfl)))) fun r36 h => ?_))))))))))
   rintro _ _ ⟨rfl, rfl⟩
   refine nx_ret1 (knr (kx 1 (kcp h (fun _ hr38 => (parse_parser_want.ok (b0 := b0) hr38 R_a0_0)) rfl ⟨(t4 hm_H_a0_0), trivial⟩ (fun _ e => k_blk_panic (k_then_panic (kpn 4 e rfl))) fun r38 h => ?_)))
   rintro _ _ ⟨rfl, rfl⟩
   exact nx_ret1 (knl (k_blk (k_then (K.mv3 (K.mv3 (k_row (T := 24) (n := 1) (xs := [(Tree.mk r29.1 r29.2.1 r29.2.2.1 r29.2.2.2.1 r29.2.2.2.2.1)]) (RowI.one (treeO_mk (k := r29.1) (t := r29.2.1) (n := r29.2.2.1) (a := r29.2.2.2.1) 24 o33)) rfl rfl (Nat.le_of_ble_eq_true rfl) fun h40 o41 => (K.mv3 (K.mv2 (K.mv3 (k_meet (14, [(Tree.mk r29.1 r29.2.1 r29.2.2.1 r29.2.2.2.1 r29.2.2.2.2.1)], r38, h40, (some ⟨b35, 0, none⟩), 1) ⟨h, o41⟩ sb rfl))))))))))
  ·refine bnd h fun q42 hq42 h => ?_
   refine k_cut1 [(0, pt b0), (2, pt b1), (4, pt b4), (23, bv q42)] (bk b0 #[.slice A_a0_0 a0_0.length c_a0_0, iv r27.2] 46 :: bk b4 #[iv 14, sv noS, iv 0, iv r2.2.2.2, nS] 24 :: bk b1 #[iv 0, sv noS, iv 0, iv 0, nS] 24 :: X) ?_ ?_
   ·clear hq42
    refine kcn h (fun h => ?_) fun h => ?_
    ·refine ksr (kx 1 (kcp h (fun _ hr44 => (parse_parser_name.ok (b0 := b0) hr44 R_a0_0)) rfl ⟨(t2 hm_H_a0_0), trivial⟩ (fun _ e => k_then_panic (k_blk_panic (k_then_panic (kpn 2 e rfl)))) fun r44 h => ?_))
     rintro _ _ ⟨h45, A46, k47, o48, rfl, rfl⟩
     refine nx_ret2 (knp #[iv 0, sv noS, iv 0, iv 0, nS] 24 fun b50 => (kst 0 5 #[iv r44.1, sv r44.2.1, iv r44.2.2.1, iv r44.2.2.2.1, .slice A46 r44.2.2.2.2.1.length k47] (kns' (kx 1 (kst 0 1 #[iv 5, sv r44.2.1, iv r44.2.2.1, iv r44.2.2.2.1, .slice A46 r44.2.2.2.2.1.length k47] (kns' (kla 0 0 5 rfl (K.drop (kns #[iv 5, sv r44.2.1, iv r44.2.2.1, iv r44.2.2.2.1, .slice A46 r44.2.2.2.2.1.length k47] 24 1 fun b51 => (kx 1 ?_))))))))))
     refine K.mv3 (kst 4 1 #[iv 14, sv noS, iv 0, iv r2.2.2.2, .slice (some ⟨b51, 0, none⟩) 1 1] (knr (kx 1 (K.mv3 (kcp h (fun _ hr52 => (parse_parser_want.ok (b0 := b0) hr52 R_a0_0)) rfl ⟨(t4 hm_H_a0_0), trivial⟩ (fun _ e => k_blk_panic (k_then_panic (kpn 4 e rfl))) fun r52 h => ?_)))))
     rintro _ _ ⟨rfl, rfl⟩
     exact nx_ret1 (knl (k_blk (k_then (K.mv3 (K.mv3 (k_row (T := 24) (n := 1) (xs := [(Tree.mk 5 r44.2.1 r44.2.2.1 r44.2.2.2.1 r44.2.2.2.2.1)]) (RowI.one (treeO_mk (k := 5) (t := r44.2.1) (n := r44.2.2.1) (a := r44.2.2.2.1) 24 o48)) rfl rfl (Nat.le_of_ble_eq_true rfl) fun h54 o55 => (K.mv3 (K.mv2 (K.mv3 (k_meet (14, [(Tree.mk 5 r44.2.1 r44.2.2.1 r44.2.2.2.1 r44.2.2.2.2.1)], r52, h54, (some ⟨b51, 0, none⟩), 1) ⟨h, o55⟩ sb rfl))))))))))
    ·refine k_region (kx 1 (K.mv1 (kst 0 1 #[iv 13, sv noS, iv 0, iv r2.2.2.2, nS] (knl (k_blk (k_then (k_none (K.mv3 (K.mv3 (K.mv3 ?_))))))))))
     exact k_meet (13, [], r27.2, none_, none, 0) ⟨h, (OwnR.nil (rTree 24) 24 none_)⟩ sb rfl
   ·have h := hq42
    clear hq42
    refine kprs [(0, 0), (1, 3), (2, 0), (3, 0), (4, 0), (5, 0), (6, 0), (7, 3), (8, 0), (9, 0), (10, 0), (11, 3), (12, 0), (13, 0), (14, 0), (15, 3), (16, 0), (17, 0), (18, 0), (19, 0), (20, 0), (21, 0), (22, 3), (23, 0), (24, 0), (25, 0), (26, 3), (27, 0)] [bk b0 #[.slice A_a0_0 a0_0.length c_a0_0, iv r27.2] 46, bk b3 #[iv r2.1, sv r2.2.1, iv r2.2.2.1, iv r2.2.2.2] 49, H_a0_0] (fun w h_ => ⟨h_.sat.on _ (.head _), h_.sat.on _ (.tail _ (.tail _ (.head _))), h_.sat.on _ (t4 hm_H_a0_0), trivial⟩) (kpx 1 (kpd 1 0 rfl (kpx 2 ?_)))
    refine kcs 27 h (fun h => ?_) fun h => ?_
    ·refine kpx 3 (kpd 0 0 rfl (kpx 3 (kpd 0 1 rfl (kpx 1 (bnd h fun x57 hx57 h => (kpelP (T := 49) (kd := .i64) e49_ok rfl hx57 R_a0_0 fun p58 e59 y60 => ?_))))))
     have e59 : Elem _ p58 [iv x57.1, sv x57.2.1, iv x57.2.2.1, iv x57.2.2.2] := e59
     refine kpefP (off := 0) rfl e59 y60 fun p61 e62 y63 => ?_
     have e62 : Elem _ p61 [iv x57.1, sv x57.2.1, iv x57.2.2.1, iv x57.2.2.2] := e62
     refine kp_eload1 rfl (by kernel_rfl) (by kernel_rfl) (by kernel_rfl) (by kernel_rfl) e62 (fun w h_ => h_.mem _ (.tail _ (.tail _ (.head _)))) (kpx 3 ?_)
     refine kcs 42 h (fun h => ?_) fun h => ?_
     ·refine kpx 3 (kpd 0 0 rfl (kpx 3 (kpd 0 1 rfl (kpx 1 (kpz (bnd h fun x65 hx65 h => (kelP (T := 49) (kd := .i64) e49_ok rfl hx65 R_a0_0 fun p66 e67 y68 => ?_)))))))
      have e67 : Elem _ p66 [iv x65.1, sv x65.2.1, iv x65.2.2.1, iv x65.2.2.2] := e67
      refine K.mv2 (K.drop (kefP (off := 1) rfl e67 y68 fun p69 e70 y71 => ?_))
      have e70 : Elem _ p69 [sv x65.2.1, iv x65.2.2.1, iv x65.2.2.2] := e70
      exact kl_eload1 rfl (by kernel_rfl) (by kernel_rfl) (by kernel_rfl) (by kernel_rfl) e70 (t3 hm_H_a0_0) (kx 3 (knt (k_meet1 ⟨gr, gr, gr, gb (Option.some.inj h), trivial⟩)))
     ·exact kpx 3 (kp_skip3 (by kernel_rfl) (by kernel_rfl) (kpx 3 (kp_skip3 (by kernel_rfl) (by kernel_rfl) (kpx 1 (kpz (kx 6 (knt (K.mv2 (K.drop (k_meet1 ⟨gr, gr, gr, gb (Option.some.inj h), trivial⟩))))))))))
    ·refine kpx 3 (kp_skip3 (by kernel_rfl) (by kernel_rfl) (kpx 3 (kp_skip3 (by kernel_rfl) (by kernel_rfl) (kpx 3 (kp_skip3 (by kernel_rfl) (by kernel_rfl) (kpx 6 (kp_skip3 (by kernel_rfl) (by kernel_rfl) (kpx 3 (kp_skip3 (by kernel_rfl) (by kernel_rfl) (kpx 1 ?_))))))))))
     exact kpz (kx 6 (knt (K.mv2 (K.drop (k_meet1 ⟨gr, gr, gr, gb (Option.some.inj h), trivial⟩)))))
def parse_parser_exps.l0 : Nat → (Rc : PE) → (a0_0 : List (Int × ByteArray × Int × Int)) → (J14 : (List Tree) → Int → Option (PR (List Tree × Int))) → (l15 : List Tree) → (x20 : Int) → Option (PR (List Tree × Int))
 | 0, _, _, _, _, _ => none
 | m21 + 1, Rc, a0_0, J14, l15, x20 => (parse_parser_got.f m21 a0_0 x20 (⟨#[44]⟩ : ByteArray)).bind fun r24 => cond r24.1 (PR.bind (Rc.parse_parser_exp a0_0 r24.2 0) fun r26 => (apd 64 l15 [(Tree.mk r26.1 r26.2.1 r26.2.2.1 r26.2.2.2.1 r26.2.2.2.2.1)]).bind fun l35 => parse_parser_exps.l0 m21 Rc a0_0 J14 l35 r26.2.2.2.2.2) (J14 l15 r24.2)
def parse_parser_exps.g (Rc : PE) (k : Nat) (a0_0 : List (Int × ByteArray × Int × Int)) (a0_1 : Int) : Option (PR (List Tree × Int)) := PR.bind (Rc.parse_parser_exp a0_0 a0_1 0) fun r1 => joinF (fun (l8 : List Tree) (x13 : Int) => some (PR.ok (l8, x13))) (fun J14 => parse_parser_exps.l0 k Rc a0_0 J14 ([(Tree.mk r1.1 r1.2.1 r1.2.2.1 r1.2.2.2.1 r1.2.2.2.2.1)]) r1.2.2.2.2.2)
set_option maxRecDepth 100000 in
theorem parse_parser_exps.okg {Rc : PE} (hR : Rc.Good) {k : Nat} {a0_0 : List (Int × ByteArray × Int × Int)} {a0_1 : Int} {b0 : Nat} {H_a0_0 : Frag} {A_a0_0 : Option Addr} {c_a0_0 : Nat} {r : PR (List Tree × Int)} (h : parse_parser_exps.g Rc k a0_0 a0_1 = some r) (R_a0_0 : RdT e49 4 H_a0_0 (.slice A_a0_0 a0_0.length c_a0_0) a0_0) : Ct Tryz.prog 26 #[pt b0] [bk b0 #[.slice A_a0_0 a0_0.length c_a0_0, iv a0_1] 46] [H_a0_0] (PR.Post failV (fun (r : List Tree × Int) e l1 => ∃ (H0_ : Frag) (A0_ : Option Addr) (c0_ : Nat), OwnR (rTree 24) 24 H0_ (.slice A0_ r.1.length c0_) r.1 ∧ e = .returned (.slice A0_ r.1.length c0_) ∧ l1 = [H0_, bk b0 #[.slice A_a0_0 a0_0.length c_a0_0, iv r.2] 46]) r) := by
 refine ct_enter (args := [pt b0]) Tryz.func26 rfl (Nat.le_of_ble_eq_true rfl) ?_
 intro A X hh_
 obtain ⟨hm_H_a0_0, _⟩ := hh_
 unfold parse_parser_exps.g at h
 refine K.eq (env' := [(0, pt b0)]) (l' := bk b0 #[.slice A_a0_0 a0_0.length c_a0_0, iv a0_1] 46 :: X) rfl rfl (ksr (kx 1 (kns' (kx 1 (kcp h (fun _ hr1 => (hR.parse_parser_exp (b0 := b0) hr1 R_a0_0)) rfl ⟨hm_H_a0_0, trivial⟩ (fun _ e => k_then_panic (kpn 0 e rfl)) fun r1 h => ?_)))))
 rintro _ _ ⟨h2, A3, k4, o5, rfl, rfl⟩
 refine nx_ret2 (kns #[iv r1.1, sv r1.2.1, iv r1.2.2.1, iv r1.2.2.2.1, .slice A3 r1.2.2.2.2.1.length k4] 24 1 fun b7 => (kx 1 (knt ?_)))
 obtain ⟨J14, hJ14, h⟩ := joinSplit h
 refine k_cut (τ := (List Tree) × Int × Frag × (Option Addr) × Nat) (fun t => [(3, .slice t.2.2.2.1 t.1.length t.2.2.2.2)]) (fun t => bk b0 #[.slice A_a0_0 a0_0.length c_a0_0, iv t.2.1] 46 :: t.2.2.1 :: X) (fun t => J14 t.1 t.2.1 = some r ∧ OwnR (rTree 24) 24 t.2.2.1 (.slice t.2.2.2.1 t.1.length t.2.2.2.2) t.1) ?_ ?_
 ·rintro ⟨l8, x13, h9, A10, k11⟩ ⟨h, o12⟩
  subst hJ14
  refine ksr (kx 2 (knt (k_ret ?_)))
  obtain rfl := Option.some.inj h
  exact kdv (.slice A10 l8.length k11) [h9, bk b0 #[.slice A_a0_0 a0_0.length c_a0_0, iv x13] 46] (K.mv1 (k_end (PR.okI ⟨h9, A10, k11, o12, rfl, rfl⟩)))
 ·skip
  refine k_block (K.mv1 (K.mv1 (k_row (T := 24) (n := 1) (xs := [(Tree.mk r1.1 r1.2.1 r1.2.2.1 r1.2.2.2.1 r1.2.2.2.2.1)]) (RowI.one (treeO_mk (k := r1.1) (t := r1.2.1) (n := r1.2.2.1) (a := r1.2.2.2.1) 24 o5)) rfl rfl (Nat.le_of_ble_eq_true rfl) fun h22 o23 => (K.mv1 (k_loop (τ := (List Tree) × Int × Frag × (Option Addr) × Nat) (fun t => [(0, pt b0), (3, .slice t.2.2.2.1 t.1.length t.2.2.2.2)]) (fun t => bk b0 #[.slice A_a0_0 a0_0.length c_a0_0, iv t.2.1] 46 :: t.2.2.1 :: X) (fun m t => parse_parser_exps.l0 m Rc a0_0 J14 t.1 t.2.1 = some r ∧ OwnR (rTree 24) 24 t.2.2.1 (.slice t.2.2.2.1 t.1.length t.2.2.2.2) t.1) k ([(Tree.mk r1.1 r1.2.1 r1.2.2.1 r1.2.2.2.1 r1.2.2.2.2.1)], r1.2.2.2.2.2, h22, (some ⟨b7, 0, none⟩), 1) ⟨h, o23⟩ sb rfl ?_)))))
  clear h
  rintro m21 ⟨l15, x20, h16, A17, k18⟩ ⟨h, o19⟩
  cases m21 with
  | zero => simp [parse_parser_exps.l0] at h
  | succ m21 =>
   simp only [parse_parser_exps.l0] at h
   refine k_seq (ksr (kx 1 (bnd h fun r24 hr24 h => (kc1 (parse_parser_got.ok (b0 := b0) hr24 R_a0_0) rfl ⟨(.tail _ hm_H_a0_0), trivial⟩ (knt ?_)))))
   refine kcn h (fun h => ?_) fun h => ?_
   ·refine k_skip (k_then (k_block (k_region (kx 2 (kcp h (fun _ hr26 => (hR.parse_parser_exp (b0 := b0) hr26 R_a0_0)) rfl ⟨(.tail _ hm_H_a0_0), trivial⟩ (fun _ e => k_blk_panic (k_then_panic (k_blk_panic (k_then_panic (kpn 1 e rfl))))) fun r26 h => ?_)))))
    rintro _ _ ⟨h27, A28, k29, o30, rfl, rfl⟩
    refine nx_ret2 (kns #[iv r26.1, sv r26.2.1, iv r26.2.2.1, iv r26.2.2.2.1, .slice A28 r26.2.2.2.2.1.length k29] 24 1 fun b32 => (K.mv1 (K.mv1 (k_row (T := 24) (n := 1) (xs := [(Tree.mk r26.1 r26.2.1 r26.2.2.1 r26.2.2.2.1 r26.2.2.2.2.1)]) (RowI.one (treeO_mk (k := r26.1) (t := r26.2.1) (n := r26.2.2.1) (a := r26.2.2.2.1) 24 o30)) rfl rfl (Nat.le_of_ble_eq_true rfl) fun h33 o34 => (K.mv2 (bnd h fun l35 hl35 h => (kapR rfl ety22 rfl hl35 o19 o34 fun h36 A37 k38 o39 => (kx 1 (knl (k_blk ?_))))))))))
    exact k_then (K.mv1 (k_again m21 (l35, r26.2.2.2.2.2, h36, A37, k38) (Nat.lt_succ_self _) ⟨h, o39⟩ sb rfl))
   ·exact k_exit (k_then_exit (k_then_exit (k_here (k_then (k_meet (l15, r24.2, h16, A17, k18) ⟨h, o19⟩ sb rfl)))))
def PE.at : Nat → PE
 | 0 => ⟨fun _ _ _ => none, fun _ _ => none, fun _ _ => none, fun _ _ => none, fun _ _ => none, fun _ _ => none⟩
 | k + 1 => ⟨fun a0_0 a0_1 a1 => parse_parser_exp.g (PE.at k) k a0_0 a0_1 a1, fun a0_0 a0_1 => parse_parser_operand.g (PE.at k) k a0_0 a0_1, fun a0_0 a0_1 => parse_parser_suffixed.g (PE.at k) k a0_0 a0_1, fun a0_0 a0_1 => parse_parser_fields.g (PE.at k) k a0_0 a0_1, fun a0_0 a0_1 => parse_parser_field.g (PE.at k) k a0_0 a0_1, fun a0_0 a0_1 => parse_parser_exps.g (PE.at k) k a0_0 a0_1⟩
theorem PE.good : ∀ k, (PE.at k).Good
 | 0 => ⟨fun h _ => (by cases (show (none : Option _) = some _ from h)), fun h _ => (by cases (show (none : Option _) = some _ from h)), fun h _ => (by cases (show (none : Option _) = some _ from h)), fun h _ => (by cases (show (none : Option _) = some _ from h)), fun h _ => (by cases (show (none : Option _) = some _ from h)), fun h _ => (by cases (show (none : Option _) = some _ from h))⟩
 | k + 1 => ⟨fun h R_a0_0 => parse_parser_exp.okg (PE.good k) h R_a0_0, fun h R_a0_0 => parse_parser_operand.okg (PE.good k) h R_a0_0, fun h R_a0_0 => parse_parser_suffixed.okg (PE.good k) h R_a0_0, fun h R_a0_0 => parse_parser_fields.okg (PE.good k) h R_a0_0, fun h R_a0_0 => parse_parser_field.okg (PE.good k) h R_a0_0, fun h R_a0_0 => parse_parser_exps.okg (PE.good k) h R_a0_0⟩
def parse_parser_exp.f (k : Nat) (a0_0 : List (Int × ByteArray × Int × Int)) (a0_1 : Int) (a1 : Int) : Option (PR (Int × ByteArray × Int × Int × List Tree × Int)) := parse_parser_exp.g (PE.at k) k a0_0 a0_1 a1
theorem parse_parser_exp.ok {k : Nat} {a0_0 : List (Int × ByteArray × Int × Int)} {a0_1 : Int} {a1 : Int} {b0 : Nat} {H_a0_0 : Frag} {A_a0_0 : Option Addr} {c_a0_0 : Nat} {r : PR (Int × ByteArray × Int × Int × List Tree × Int)} (h : parse_parser_exp.f k a0_0 a0_1 a1 = some r) (R_a0_0 : RdT e49 4 H_a0_0 (.slice A_a0_0 a0_0.length c_a0_0) a0_0) : Ct Tryz.prog 58 #[pt b0, iv a1] [bk b0 #[.slice A_a0_0 a0_0.length c_a0_0, iv a0_1] 46] [H_a0_0] (PR.Post failV (fun (r : Int × ByteArray × Int × Int × List Tree × Int) e l1 => ∃ (H0_ : Frag) (A0_ : Option Addr) (c0_ : Nat), OwnR (rTree 24) 24 H0_ (.slice A0_ r.2.2.2.2.1.length c0_) r.2.2.2.2.1 ∧ e = .returned (.agg #[iv r.1, sv r.2.1, iv r.2.2.1, iv r.2.2.2.1, .slice A0_ r.2.2.2.2.1.length c0_]) ∧ l1 = [H0_, bk b0 #[.slice A_a0_0 a0_0.length c_a0_0, iv r.2.2.2.2.2] 46]) r) := parse_parser_exp.okg (PE.good k) h R_a0_0
def parse_parser_suffixed.f (k : Nat) (a0_0 : List (Int × ByteArray × Int × Int)) (a0_1 : Int) : Option (PR (Int × ByteArray × Int × Int × List Tree × Int)) := parse_parser_suffixed.g (PE.at k) k a0_0 a0_1
theorem parse_parser_suffixed.ok {k : Nat} {a0_0 : List (Int × ByteArray × Int × Int)} {a0_1 : Int} {b0 : Nat} {H_a0_0 : Frag} {A_a0_0 : Option Addr} {c_a0_0 : Nat} {r : PR (Int × ByteArray × Int × Int × List Tree × Int)} (h : parse_parser_suffixed.f k a0_0 a0_1 = some r) (R_a0_0 : RdT e49 4 H_a0_0 (.slice A_a0_0 a0_0.length c_a0_0) a0_0) : Ct Tryz.prog 90 #[pt b0] [bk b0 #[.slice A_a0_0 a0_0.length c_a0_0, iv a0_1] 46] [H_a0_0] (PR.Post failV (fun (r : Int × ByteArray × Int × Int × List Tree × Int) e l1 => ∃ (H0_ : Frag) (A0_ : Option Addr) (c0_ : Nat), OwnR (rTree 24) 24 H0_ (.slice A0_ r.2.2.2.2.1.length c0_) r.2.2.2.2.1 ∧ e = .returned (.agg #[iv r.1, sv r.2.1, iv r.2.2.1, iv r.2.2.2.1, .slice A0_ r.2.2.2.2.1.length c0_]) ∧ l1 = [H0_, bk b0 #[.slice A_a0_0 a0_0.length c_a0_0, iv r.2.2.2.2.2] 46]) r) := parse_parser_suffixed.okg (PE.good k) h R_a0_0
def parse_parser_exps.f (k : Nat) (a0_0 : List (Int × ByteArray × Int × Int)) (a0_1 : Int) : Option (PR (List Tree × Int)) := parse_parser_exps.g (PE.at k) k a0_0 a0_1
theorem parse_parser_exps.ok {k : Nat} {a0_0 : List (Int × ByteArray × Int × Int)} {a0_1 : Int} {b0 : Nat} {H_a0_0 : Frag} {A_a0_0 : Option Addr} {c_a0_0 : Nat} {r : PR (List Tree × Int)} (h : parse_parser_exps.f k a0_0 a0_1 = some r) (R_a0_0 : RdT e49 4 H_a0_0 (.slice A_a0_0 a0_0.length c_a0_0) a0_0) : Ct Tryz.prog 26 #[pt b0] [bk b0 #[.slice A_a0_0 a0_0.length c_a0_0, iv a0_1] 46] [H_a0_0] (PR.Post failV (fun (r : List Tree × Int) e l1 => ∃ (H0_ : Frag) (A0_ : Option Addr) (c0_ : Nat), OwnR (rTree 24) 24 H0_ (.slice A0_ r.1.length c0_) r.1 ∧ e = .returned (.slice A0_ r.1.length c0_) ∧ l1 = [H0_, bk b0 #[.slice A_a0_0 a0_0.length c_a0_0, iv r.2] 46]) r) := parse_parser_exps.okg (PE.good k) h R_a0_0
end Go.Proofs.YtidiahkobapnjaaGreatDoor
