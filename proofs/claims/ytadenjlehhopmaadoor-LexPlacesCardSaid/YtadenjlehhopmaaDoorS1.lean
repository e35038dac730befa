/- The reference's reckoning of a rune is decL. Plain lists. -/
import Derived.Test.YtadenjlehhopmaaDoorP2
import Derived.Test.YtadenjlehhopmaaDoorG1
namespace Go.Proofs.YtadenjlehhopmaaDoor
set_option linter.unusedSimpArgs false
set_option linter.unusedVariables false
open Go Go.RowKit Lx
namespace Lx
def lenR (r : Nat) : Nat := if r < 128 then 1 else if r < 2048 then 2 else if r < 65536 then 3 else 4
theorem letterR_iff (r : Nat) : letterR r = decide (97 ≤ r ∧ r ≤ 122 ∨ 65 ≤ r ∧ r ≤ 90 ∨ r = 95 ∨ (128 ≤ r ∧ r ≤ 1114111 ∧ r ≠ 65533 ∧ Utf8.valid (r : Int) = true)) := by
  unfold letterR
  generalize Utf8.valid (r : Int) = v
  rw [Bool.eq_iff_iff]
  cases v <;> simp only [decide_eq_true_eq, Bool.or_eq_true, Bool.and_eq_true, beq_iff_eq, bne_iff_ne, Bool.false_eq_true, and_false, or_false, and_true, ne_eq] <;> omega
theorem valid_top (r : Nat) (h : 1114111 < r) : Utf8.valid (r : Int) = false := by
  unfold Utf8.valid
  simp
  omega
def stepsR : Nat → Nat → Bs → Option Nat
  | 0, r, _ => some r
  | _ + 1, _, [] => none
  | k + 1, r, b :: t => if 128 ≤ b.toNat ∧ b.toNat < 192 then stepsR k (r * 64 + b.toNat - 128) t else none
theorem stepsR_short : ∀ (k r : Nat) (t : Bs), t.length < k → stepsR k r t = none
  | 0, _, _, h => by omega
  | k + 1, r, [], _ => rfl
  | k + 1, r, b :: t, h => by
    simp only [stepsR]
    split
    · exact stepsR_short k _ t (by simpa using h)
    · rfl
def headR (b : Nat) : Nat × Nat := if 192 ≤ b ∧ b < 224 then (2, b - 192) else if 224 ≤ b ∧ b < 240 then (3, b - 224) else if 240 ≤ b ∧ b < 248 then (4, b - 240) else (1, b)
def endR (n : Nat) (x : Option Nat) : Nat × Nat := match x with | none => (65533, 1) | some r => if Utf8.valid r = true ∧ lenR r = n then (r, n) else (65533, 1)
theorem valid_low (r : Nat) (h : r < 55296) : Utf8.valid (r : Int) = true := by
  unfold Utf8.valid
  simp
  omega
theorem cont_iff (c : UInt8) : (c.toNat / 64 == 2) = decide (128 ≤ c.toNat ∧ c.toNat < 192) := by
  rw [Bool.eq_iff_iff]
  simp
  omega
theorem end1 (b : UInt8) (t : Bs) (h : b.toNat < 128) : endR 1 (stepsR 0 b.toNat t) = decL (b :: t) := by
  rw [decL_low b t h]
  simp only [stepsR, endR]
  rw [if_pos ⟨valid_low _ (by omega), if_pos h⟩]
theorem end2 (b : UInt8) (t : Bs) (h1 : 192 ≤ b.toNat) (h2 : b.toNat < 224) : endR 2 (stepsR 1 (b.toNat - 192) t) = decL (b :: t) := by
  have a0 : ¬ b.toNat < 128 := by omega
  have a1 : (b.toNat / 32 == 6) = true := by rw [beq_iff_eq]; omega
  have a2 : (b.toNat / 16 == 14) = false := by rw [beq_eq_false_iff_ne]; omega
  have a3 : (b.toNat / 8 == 30) = false := by rw [beq_eq_false_iff_ne]; omega
  cases t with
  | nil => simp [decL, stepsR, endR, a0, a1, a2, a3]
  | cons c t =>
    by_cases hc : 128 ≤ c.toNat ∧ c.toNat < 192
    · have ev : (b.toNat - 192) * 64 + c.toNat - 128 = b.toNat % 32 * 64 + c.toNat % 64 := by omega
      simp only [stepsR, if_pos hc, endR]
      rw [ev]
      have hv : Utf8.valid ((b.toNat % 32 * 64 + c.toNat % 64 : Nat) : Int) = true := valid_low _ (by omega)
      have hl : lenR (b.toNat % 32 * 64 + c.toNat % 64) = 2 ↔ 128 ≤ b.toNat % 32 * 64 + c.toNat % 64 := by
        unfold lenR
        (repeat' split) <;> omega
      simp only [decL, List.getD_cons_zero, List.getD_cons_succ, List.length_cons, cont_iff, a0, a1, hc, hv, hl]
      simp
    · simp [decL, stepsR, endR, a0, a1, a2, a3, cont_iff, hc]
theorem end3 (b : UInt8) (t : Bs) (h1 : 224 ≤ b.toNat) (h2 : b.toNat < 240) : endR 3 (stepsR 2 (b.toNat - 224) t) = decL (b :: t) := by
  have a0 : ¬ b.toNat < 128 := by omega
  have a1 : (b.toNat / 32 == 6) = false := by rw [beq_eq_false_iff_ne]; omega
  have a2 : (b.toNat / 16 == 14) = true := by rw [beq_iff_eq]; omega
  have a3 : (b.toNat / 8 == 30) = false := by rw [beq_eq_false_iff_ne]; omega
  match t with
  | [] => simp [decL, stepsR, endR, a0, a1, a2, a3]
  | [c] =>
    by_cases hc : 128 ≤ c.toNat ∧ c.toNat < 192 <;> simp [decL, stepsR, endR, a0, a1, a2, a3, cont_iff, hc]
  | c :: d :: t =>
    by_cases hc : 128 ≤ c.toNat ∧ c.toNat < 192
    · by_cases hd : 128 ≤ d.toNat ∧ d.toNat < 192
      · have ev : ((b.toNat - 224) * 64 + c.toNat - 128) * 64 + d.toNat - 128 = b.toNat % 16 * 4096 + c.toNat % 64 * 64 + d.toNat % 64 := by omega
        simp only [stepsR, if_pos hc, if_pos hd, endR]
        rw [ev]
        have hl : lenR (b.toNat % 16 * 4096 + c.toNat % 64 * 64 + d.toNat % 64) = 3 ↔ 2048 ≤ b.toNat % 16 * 4096 + c.toNat % 64 * 64 + d.toNat % 64 := by
          unfold lenR
          (repeat' split) <;> omega
        simp only [decL, List.getD_cons_zero, List.getD_cons_succ, List.length_cons, cont_iff, a0, a1, a2, hc, hd, hl]
        simp [and_comm]
      · simp [decL, stepsR, endR, a0, a1, a2, a3, cont_iff, hc, hd]
    · simp [decL, stepsR, endR, a0, a1, a2, a3, cont_iff, hc]
theorem end4 (b : UInt8) (t : Bs) (h1 : 240 ≤ b.toNat) (h2 : b.toNat < 248) : endR 4 (stepsR 3 (b.toNat - 240) t) = decL (b :: t) := by
  have a0 : ¬ b.toNat < 128 := by omega
  have a1 : (b.toNat / 32 == 6) = false := by rw [beq_eq_false_iff_ne]; omega
  have a2 : (b.toNat / 16 == 14) = false := by rw [beq_eq_false_iff_ne]; omega
  have a3 : (b.toNat / 8 == 30) = true := by rw [beq_iff_eq]; omega
  match t with
  | [] => simp [decL, stepsR, endR, a0, a1, a2, a3]
  | [c] =>
    by_cases hc : 128 ≤ c.toNat ∧ c.toNat < 192 <;> simp [decL, stepsR, endR, a0, a1, a2, a3, cont_iff, hc]
  | [c, d] =>
    by_cases hc : 128 ≤ c.toNat ∧ c.toNat < 192 <;> by_cases hd : 128 ≤ d.toNat ∧ d.toNat < 192 <;> simp [decL, stepsR, endR, a0, a1, a2, a3, cont_iff, hc, hd]
  | c :: d :: e :: t =>
    by_cases hc : 128 ≤ c.toNat ∧ c.toNat < 192
    · by_cases hd : 128 ≤ d.toNat ∧ d.toNat < 192
      · by_cases he : 128 ≤ e.toNat ∧ e.toNat < 192
        · have ev : (((b.toNat - 240) * 64 + c.toNat - 128) * 64 + d.toNat - 128) * 64 + e.toNat - 128 = b.toNat % 8 * 262144 + c.toNat % 64 * 4096 + d.toNat % 64 * 64 + e.toNat % 64 := by omega
          simp only [stepsR, if_pos hc, if_pos hd, if_pos he, endR]
          rw [ev]
          have hl : lenR (b.toNat % 8 * 262144 + c.toNat % 64 * 4096 + d.toNat % 64 * 64 + e.toNat % 64) = 4 ↔ 65536 ≤ b.toNat % 8 * 262144 + c.toNat % 64 * 4096 + d.toNat % 64 * 64 + e.toNat % 64 := by
            unfold lenR
            (repeat' split) <;> omega
          simp only [decL, List.getD_cons_zero, List.getD_cons_succ, List.length_cons, cont_iff, a0, a1, a2, a3, hc, hd, he, hl]
          simp [and_comm]
        · simp [decL, stepsR, endR, a0, a1, a2, a3, cont_iff, hc, hd, he]
      · simp [decL, stepsR, endR, a0, a1, a2, a3, cont_iff, hc, hd]
    · simp [decL, stepsR, endR, a0, a1, a2, a3, cont_iff, hc]
theorem end_bad (b : UInt8) (t : Bs) (h0 : 128 ≤ b.toNat) (h : b.toNat < 192 ∨ 248 ≤ b.toNat) : decL (b :: t) = (65533, 1) := by
  have a0 : ¬ b.toNat < 128 := by omega
  have a1 : (b.toNat / 32 == 6) = false := by rw [beq_eq_false_iff_ne]; have := b.toNat_lt; omega
  have a2 : (b.toNat / 16 == 14) = false := by rw [beq_eq_false_iff_ne]; omega
  have a3 : (b.toNat / 8 == 30) = false := by rw [beq_eq_false_iff_ne]; omega
  simp [decL, a0, a1, a2, a3]
end Lx
end Go.Proofs.YtadenjlehhopmaaDoor

namespace Go.Proofs.YtadenjlehhopmaaDoor
open Go Go.RowKit Lx
/-- From some number of rounds on. -/
def Evt {α : Type} (g : Nat → Option α) (r : α) : Prop := ∃ K, ∀ k, K ≤ k → g k = some r
theorem Evt.of {α : Type} {g : Nat → Option α} {r : α} (h : ∀ k, g k = some r) : Evt g r := ⟨0, fun k _ => h k⟩
theorem Evt.bind {α β : Type} {g : Nat → Option α} {f : Nat → α → Option β} {a : α} {r : β} (h1 : Evt g a) (h2 : Evt (fun k => f k a) r) : Evt (fun k => (g k).bind (f k)) r := by
  obtain ⟨K1, h1⟩ := h1
  obtain ⟨K2, h2⟩ := h2
  exact ⟨max K1 K2, fun k hk => by show (g k).bind (f k) = some r; rw [h1 k (by omega)]; exact h2 k (by omega)⟩
theorem Evt.succ {α : Type} {g : Nat → Option α} {r : α} (h : Evt (fun k => g (k + 1)) r) : Evt g r := by
  obtain ⟨K, h⟩ := h
  exact ⟨K + 1, fun k hk => by obtain ⟨k, rfl⟩ : ∃ m, k = m + 1 := ⟨k - 1, by omega⟩; exact h k (by omega)⟩
theorem Evt.congr {α : Type} {g g' : Nat → Option α} {r : α} (h : Evt g' r) (e : ∀ k, g k = g' k) : Evt g r := by
  obtain ⟨K, h⟩ := h
  exact ⟨K, fun k hk => by rw [e]; exact h k hk⟩
theorem wi (x : Int) (h0 : -9223372036854775808 ≤ x) (h1 : x ≤ 9223372036854775807) : IntKind.i64.wrap x = x := by unfold IntKind.wrap; simp [IntKind.bits, IntKind.signed]; omega
theorem wb (c : UInt8) : IntKind.i64.wrap (c.toNat : Int) = c.toNat := wi _ (by omega) (by have := c.toNat_lt; omega)
theorem cond_dec {α : Type} (p : Prop) [Decidable p] (a b : α) : cond (decide p) a b = if p then a else b := Bool.cond_decide p a b
theorem cond_beq {α : Type} (x y : Int) (a b : α) : cond (x == y) a b = if x = y then a else b := by rw [← cond_dec]; rfl
theorem cond_bne {α : Type} (x y : Int) (a b : α) : cond (x != y) a b = if x = y then b else a := by
  by_cases h : x = y
  · subst h; simp
  · rw [if_neg h, show (x != y) = true from bne_iff_ne.2 h]; rfl
theorem sIdx_nat (s : ByteArray) (i : Nat) : sIdx s (i : Int) = (bs s)[i]? := by
  unfold sIdx
  rw [if_pos (by omega), Int.toNat_natCast]
  simp only [bs]
  rcases Nat.lt_or_ge i s.size with h | h
  · rw [getElem?_pos s i h, List.getElem?_eq_getElem (by simpa using h)]
    rfl
  · rw [getElem?_neg s i (by omega), List.getElem?_eq_none (by simpa using h)]
theorem sIdx_head (s : ByteArray) (i : Nat) : sIdx s (i : Int) = ((bs s).drop i).head? := by rw [sIdx_nat, List.head?_drop]
theorem good_eq (k : Nat) (r : Nat) : r01_good.f k (r : Int) = some (Utf8.valid (r : Int)) := by
  have hv : Utf8.valid (r : Int) = decide (r < 55296 ∨ (57343 < r ∧ r ≤ 1114111)) := by
    unfold Utf8.valid
    rw [Bool.eq_iff_iff]
    simp
    omega
  unfold r01_good.f
  simp only [cond_dec]
  rw [hv]
  rw [if_pos (by omega)]
  by_cases h1 : (r : Int) ≤ 1114111
  · rw [if_pos h1]
    by_cases h2 : (r : Int) < 55296
    · rw [if_pos h2]
      simp only [Option.bind_some, Option.some.injEq, Bool.true_eq, decide_eq_true_eq]
      omega
    · rw [if_neg h2]
      simp only [Option.bind_some, Option.some.injEq, decide_eq_decide]
      omega
  · rw [if_neg h1]
    simp only [Option.bind_some, Option.some.injEq, Bool.false_eq, decide_eq_false_iff_not]
    omega
theorem bytes_eq (k : Nat) (r : Nat) : r01_bytes.f k (r : Int) = some ((lenR r : Nat) : Int) := by
  unfold r01_bytes.f joinF lenR
  simp only [cond_dec, wi 2 (by omega) (by omega), show (1 : Int) + 1 = 2 from rfl, show (2 : Int) + 1 = 3 from rfl, show (3 : Int) + 1 = 4 from rfl]
  by_cases h1 : r < 128
  · simp [show ¬ (r : Int) ≥ 128 by omega, show ¬ (r : Int) ≥ 2048 by omega, show ¬ (r : Int) ≥ 65536 by omega, h1]
  by_cases h2 : r < 2048
  · simp [show (r : Int) ≥ 128 by omega, show ¬ (r : Int) ≥ 2048 by omega, show ¬ (r : Int) ≥ 65536 by omega, h1, h2]
  by_cases h3 : r < 65536
  · simp [show (r : Int) ≥ 128 by omega, show (r : Int) ≥ 2048 by omega, show ¬ (r : Int) ≥ 65536 by omega, h1, h2, h3, wi 3 (by omega) (by omega)]
  · simp [show (r : Int) ≥ 128 by omega, show (r : Int) ≥ 2048 by omega, show (r : Int) ≥ 65536 by omega, h1, h2, h3, wi 3 (by omega) (by omega), wi 4 (by omega) (by omega)]
theorem rdigit_eq (k : Nat) (r : Nat) : r01_Digit.f k (r : Int) = some (digitR r) := by
  unfold r01_Digit.f digitR
  simp only [cond_dec]
  by_cases h : (r : Int) ≥ 48
  · rw [if_pos h]
    simp only [Option.bind_some, Option.some.injEq]
    rw [Bool.eq_iff_iff]; simp; omega
  · rw [if_neg h]
    simp only [Option.bind_some, Option.some.injEq]
    rw [Bool.eq_iff_iff]; simp; omega
theorem rletter_eq (k : Nat) (r : Nat) : r01_Letter.f k (r : Int) = some (letterR r) := by
  have hv := valid_top r
  unfold r01_Letter.f
  simp only [cond_dec, cond_beq, cond_bne, good_eq, Option.bind_some]
  rw [letterR_iff]
  generalize Utf8.valid (r : Int) = v at *
  cases v
  · (repeat' split) <;> simp <;> omega
  · have hv : r ≤ 1114111 := by
      rcases Nat.lt_or_ge 1114111 r with h | h
      · cases hv h
      · exact h
    (repeat' split) <;> simp <;> omega
/-- The loop of 'At'. -/
theorem at_loop (s : ByteArray) (at_ n : Nat) (hs : s.size ≤ 1000000) (hn : n ≤ 4) (hn1 : 1 ≤ n) (J : Int → Option (Int × Int × Int)) : ∀ (d i r k : Nat), d = n - i → 1 ≤ i → i ≤ n → at_ < s.size → r < 64 ^ i * 2 → d < k →
    r01_At.l0 k s (at_ : Int) (n : Int) J (r : Int) (i : Int) = match stepsR d r ((bs s).drop (at_ + i)) with | none => some ((at_ : Int), 1, 65533) | some r' => J (r' : Int)
  | 0, i, r, k, hd, h1, h2, ha, hr, hk => by
    obtain ⟨k, rfl⟩ : ∃ m, k = m + 1 := ⟨k - 1, by omega⟩
    have : i = n := by omega
    subst this
    simp only [r01_At.l0, cond_dec, stepsR]
    rw [if_neg (by omega)]
  | d + 1, i, r, k, hd, h1, h2, ha, hr, hk => by
    obtain ⟨k, rfl⟩ : ∃ m, k = m + 1 := ⟨k - 1, by omega⟩
    have hlt : (i : Int) < n := by omega
    have hr4 : r < 33554432 := by
      have : 64 ^ i ≤ 64 ^ 4 := Nat.pow_le_pow_right (by omega) (by omega)
      omega
    simp only [r01_At.l0, cond_dec]
    rw [if_pos hlt, wi ((s.size : Int) - at_) (by omega) (by omega), wi ((at_ : Int) + i) (by omega) (by omega)]
    by_cases hsh : s.size < at_ + n
    · rw [if_pos (by omega)]
      simp only [Option.bind_some, cond_true]
      rw [stepsR_short _ _ _ (by rw [List.length_drop, bs_length]; omega)]
    · rw [if_neg (by omega)]
      have hai : at_ + i < (bs s).length := by rw [bs_length]; omega
      have hc : sIdx s ((at_ : Int) + i) = some (bs s)[at_ + i] := by rw [show (at_ : Int) + i = ((at_ + i : Nat) : Int) by omega, sIdx_nat, List.getElem?_eq_getElem hai]
      rw [hc]
      simp only [Option.bind_some]
      have hdr : (bs s).drop (at_ + i) = (bs s)[at_ + i] :: (bs s).drop (at_ + (i + 1)) := by rw [← Nat.add_assoc]; exact List.drop_eq_getElem_cons hai
      rw [hdr]
      generalize (bs s)[at_ + i] = c
      have hcl := c.toNat_lt
      by_cases hc1 : c.toNat < 128
      · rw [if_pos (by omega)]
        simp only [Option.bind_some, cond_true, stepsR]
        rw [if_neg (by omega)]
      · rw [if_neg (by omega)]
        simp only [Option.bind_some, cond_dec, stepsR]
        by_cases hc2 : c.toNat < 192
        · rw [if_neg (by omega), if_pos (by omega), wb, wi ((r : Int) * 64) (by omega) (by omega), wi ((r : Int) * 64 + (c.toNat : Int)) (by omega) (by omega), wi ((r : Int) * 64 + (c.toNat : Int) - 128) (by omega) (by omega), wi ((i : Int) + 1) (by omega) (by omega)]
          have hpw := Nat.pow_succ 64 i
          have := at_loop s at_ n hs hn hn1 J d (i + 1) (r * 64 + c.toNat - 128) k (by omega) (by omega) (by omega) ha (by omega) (by omega)
          rw [← this]
          congr 1 <;> omega
        · rw [if_pos (by omega), if_neg (by omega)]
set_option maxRecDepth 100000 in
theorem at_eq (s : ByteArray) (at_ : Nat) (k : Nat) (hs : s.size ≤ 1000000) (ha : at_ < s.size) (hk : 4 < k) :
    r01_At.f k s (at_ : Int) = some ((at_ : Int), (((decL ((bs s).drop at_)).2 : Nat) : Int), (((decL ((bs s).drop at_)).1 : Nat) : Int)) := by
  have hal : at_ < (bs s).length := by rw [bs_length]; omega
  have hdr : (bs s).drop at_ = (bs s)[at_] :: (bs s).drop (at_ + 1) := List.drop_eq_getElem_cons hal
  have hc : sIdx s (at_ : Int) = some (bs s)[at_] := by rw [sIdx_nat, List.getElem?_eq_getElem hal]
  unfold r01_At.f joinF
  rw [hc, hdr]
  generalize (bs s)[at_] = c at hdr
  have hcl := c.toNat_lt
  have key : ∀ (n r0 : Nat), 1 ≤ n → n ≤ 4 → r0 < 128 → endR n (stepsR (n - 1) r0 ((bs s).drop (at_ + 1))) = decL (c :: (bs s).drop (at_ + 1)) →
      r01_At.l0 k s (at_ : Int) (n : Int) (fun x6 => (((r01_good.f k x6).bind fun r10 => cond (!r10) (some true) ((r01_bytes.f k x6).bind fun r12 => some (r12 != (n : Int)))) : Option Bool).bind fun q8 => cond q8 (some ((at_ : Int), (1 : Int), (65533 : Int))) (some ((at_ : Int), (n : Int), x6))) (r0 : Int) 1 =
        some ((at_ : Int), (((decL (c :: (bs s).drop (at_ + 1))).2 : Nat) : Int), (((decL (c :: (bs s).drop (at_ + 1))).1 : Nat) : Int)) := by
    intro n r0 h1 h2 h3 he
    have := at_loop s at_ n hs h2 h1 (fun x6 => (((r01_good.f k x6).bind fun r10 => cond (!r10) (some true) ((r01_bytes.f k x6).bind fun r12 => some (r12 != (n : Int)))) : Option Bool).bind fun q8 => cond q8 (some ((at_ : Int), (1 : Int), (65533 : Int))) (some ((at_ : Int), (n : Int), x6))) (n - 1) 1 r0 k rfl (Nat.le_refl _) h1 ha (by omega) (by omega)
    rw [show ((1 : Nat) : Int) = 1 from rfl] at this
    rw [this, ← he]
    cases hst : stepsR (n - 1) r0 ((bs s).drop (at_ + 1)) with
    | none => simp [endR]
    | some r =>
      simp only [good_eq, bytes_eq, Option.bind_some, endR]
      cases hv : Utf8.valid (r : Int) with
      | false => simp
      | true =>
        simp only [Bool.not_true, cond_false, Option.bind_some, cond_bne, true_and]
        by_cases hl : lenR r = n
        · rw [if_pos (by omega), if_pos hl]
        · rw [if_neg (by omega), if_neg hl]; rfl
  simp only [Option.bind_some, cond_dec, wb]
  by_cases h1 : c.toNat < 128
  · rw [if_neg (by omega), if_neg (by omega), if_neg (by omega)]
    simp only [Option.bind_some, cond_false]
    rw [if_neg (by omega)]
    exact key 1 c.toNat (by omega) (by omega) h1 (end1 c _ h1)
  by_cases h2 : c.toNat < 192
  · rw [if_neg (by omega), if_neg (by omega), if_neg (by omega)]
    simp only [Option.bind_some, cond_false]
    rw [if_pos (by omega), end_bad c _ (by omega) (.inl h2)]
    rfl
  by_cases h3 : c.toNat < 224
  · rw [if_pos (by omega)]
    simp only [Option.bind_some, cond_dec]
    rw [if_pos (by omega), wi _ (by omega) (by omega)]
    have := key 2 (c.toNat - 192) (by omega) (by omega) (by omega) (end2 c _ (by omega) h3)
    rw [← this]
    congr 1
    omega
  rw [if_pos (by omega)]
  simp only [Option.bind_some, cond_dec]
  rw [if_neg (by omega)]
  by_cases h4 : c.toNat < 240
  · rw [if_pos (by omega)]
    simp only [Option.bind_some, cond_dec]
    rw [if_pos (by omega), wi _ (by omega) (by omega)]
    have := key 3 (c.toNat - 224) (by omega) (by omega) (by omega) (end3 c _ (by omega) h4)
    rw [← this]
    congr 1
    omega
  rw [if_pos (by omega)]
  simp only [Option.bind_some, cond_dec]
  rw [if_neg (by omega), if_pos (by omega)]
  simp only [Option.bind_some, cond_dec]
  by_cases h5 : c.toNat < 248
  · rw [if_pos (by omega), wi _ (by omega) (by omega)]
    have := key 4 (c.toNat - 240) (by omega) (by omega) (by omega) (end4 c _ (by omega) h5)
    rw [← this]
    congr 1
    omega
  · rw [if_neg (by omega), if_pos (by omega), end_bad c _ (by omega) (.inr (by omega))]
    rfl
end Go.Proofs.YtadenjlehhopmaaDoor
