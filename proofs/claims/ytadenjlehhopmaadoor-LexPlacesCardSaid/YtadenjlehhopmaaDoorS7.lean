/- The reference's numerals: the printed function is the plain one. -/
import Derived.Test.YtadenjlehhopmaaDoorS5
import Derived.Test.YtadenjlehhopmaaDoorG3
import Derived.Test.YtadenjlehhopmaaDoorK0
namespace Go.Proofs.YtadenjlehhopmaaDoor
set_option linter.unusedSimpArgs false
set_option linter.unusedVariables false
open Go Go.RowKit Lx
/-- A digit's worth. -/
def wD (hex : Bool) (b : UInt8) : Option Nat :=
  if 48 ≤ b.toNat ∧ b.toNat ≤ 57 then some (b.toNat - 48) else if hex = true ∧ 97 ≤ b.toNat ∧ b.toNat ≤ 102 then some (b.toNat - 87) else if hex = true ∧ 65 ≤ b.toNat ∧ b.toNat ≤ 70 then some (b.toNat - 55) else none
theorem wD_lt {hex : Bool} {b : UInt8} {d : Nat} (h : wD hex b = some d) : d < 16 ∧ (hex = false → d < 10) := by
  unfold wD at h
  split at h
  · cases h; omega
  · split at h
    · rename_i h2; cases h; exact ⟨by omega, fun e => by rw [e] at h2; simp at h2⟩
    · split at h
      · rename_i h3; cases h; exact ⟨by omega, fun e => by rw [e] at h3; simp at h3⟩
      · cases h
def wZ (hex : Bool) (b : UInt8) : Int := match wD hex b with | some d => d | none => -1
theorem worth_eq (k : Nat) (b : UInt8) (hex : Bool) : r02_worth.f k (b.toNat : Int) hex = some (wZ hex b) := by
  have hb := b.toNat_lt
  unfold r02_worth.f wZ wD
  rw [wb, wi ((b.toNat : Int) - 48) (by omega) (by omega), wi ((b.toNat : Int) - 97) (by omega) (by omega), wi ((b.toNat : Int) - 97 + 10) (by omega) (by omega), wi ((b.toNat : Int) - 65) (by omega) (by omega), wi ((b.toNat : Int) - 65 + 10) (by omega) (by omega)]
  have hq : b.toNat < 48 ∨ (48 ≤ b.toNat ∧ b.toNat ≤ 57) ∨ (57 < b.toNat ∧ b.toNat < 65) ∨ (65 ≤ b.toNat ∧ b.toNat ≤ 70) ∨ (70 < b.toNat ∧ b.toNat < 97) ∨ (97 ≤ b.toNat ∧ b.toNat ≤ 102) ∨ 102 < b.toNat := by omega
  rcases hq with h | h | h | h | h | h | h
  · rw [dF (p := (b.toNat : Int) ≥ 48) (by omega), dF (p := (b.toNat : Int) ≥ 97) (by omega), dF (p := (b.toNat : Int) ≥ 65) (by omega), if_neg (by omega), if_neg (by omega), if_neg (by omega)]
    cases hex <;> rfl
  · rw [dT (p := (b.toNat : Int) ≥ 48) (by omega), dT (p := (b.toNat : Int) ≤ 57) (by omega), if_pos h]
    simp only [cond_true, Option.bind_some]
    congr 1; omega
  · rw [dT (p := (b.toNat : Int) ≥ 48) (by omega), dF (p := (b.toNat : Int) ≤ 57) (by omega), dF (p := (b.toNat : Int) ≥ 97) (by omega), dF (p := (b.toNat : Int) ≥ 65) (by omega), if_neg (by omega), if_neg (by omega), if_neg (by omega)]
    cases hex <;> rfl
  · rw [dT (p := (b.toNat : Int) ≥ 48) (by omega), dF (p := (b.toNat : Int) ≤ 57) (by omega), dF (p := (b.toNat : Int) ≥ 97) (by omega), dT (p := (b.toNat : Int) ≥ 65) (by omega), dT (p := (b.toNat : Int) ≤ 70) (by omega), if_neg (by omega), if_neg (by omega)]
    cases hex
    · rfl
    · rw [if_pos ⟨rfl, h⟩]
      simp only [cond_true, cond_false, Option.bind_some]
      congr 1; omega
  · rw [dT (p := (b.toNat : Int) ≥ 48) (by omega), dF (p := (b.toNat : Int) ≤ 57) (by omega), dF (p := (b.toNat : Int) ≥ 97) (by omega), dT (p := (b.toNat : Int) ≥ 65) (by omega), dF (p := (b.toNat : Int) ≤ 70) (by omega), if_neg (by omega), if_neg (by omega), if_neg (by omega)]
    cases hex <;> rfl
  · rw [dT (p := (b.toNat : Int) ≥ 48) (by omega), dF (p := (b.toNat : Int) ≤ 57) (by omega), dT (p := (b.toNat : Int) ≥ 97) (by omega), dT (p := (b.toNat : Int) ≤ 102) (by omega), dT (p := (b.toNat : Int) ≥ 65) (by omega), dF (p := (b.toNat : Int) ≤ 70) (by omega), if_neg (by omega)]
    cases hex
    · rw [if_neg (by simp), if_neg (by simp)]; rfl
    · rw [if_pos ⟨rfl, h⟩]
      simp only [cond_true, cond_false, Option.bind_some]
      congr 1; omega
  · rw [dT (p := (b.toNat : Int) ≥ 48) (by omega), dF (p := (b.toNat : Int) ≤ 57) (by omega), dT (p := (b.toNat : Int) ≥ 97) (by omega), dF (p := (b.toNat : Int) ≤ 102) (by omega), dT (p := (b.toNat : Int) ≥ 65) (by omega), dF (p := (b.toNat : Int) ≤ 70) (by omega), if_neg (by omega), if_neg (by omega), if_neg (by omega)]
    cases hex <;> rfl
def stepU (hex : Bool) (n d : Nat) : Nat := if hex then (n * 16 + d) % 18446744073709551616 else min (10 * n + d) 18446744073709551615
/-- The size of a numeral, byte by byte. -/
def szB (hex : Bool) : Nat → Bs → Option Nat
  | n, [] => some n
  | n, b :: t => match wD hex b with | none => none | some d => szB hex (stepU hex n d) t
theorem decL_high (b : UInt8) (t : Bs) (h : 128 ≤ b.toNat) : 128 ≤ (decL (b :: t)).1 := by
  have hb := b.toNat_lt
  unfold decL
  simp only [List.getD_cons_zero]
  rw [if_neg (by omega)]
  (repeat' split) <;> simp_all <;> omega
theorem sizeG_szB (hex : Bool) : ∀ (f n : Nat) (l : Bs), l.length ≤ f → sizeG hex f n l = szB hex n l
  | 0, n, l, h => by
    have : l = [] := List.eq_nil_of_length_eq_zero (by omega)
    subst this; rfl
  | f + 1, n, [], h => rfl
  | f + 1, n, b :: t, h => by
    simp only [List.length_cons] at h
    simp only [sizeG, szB]
    by_cases hb : b.toNat < 128
    · rw [decL_low b t hb]
      simp only [List.drop_succ_cons, List.drop_zero]
      have ih := fun m => sizeG_szB hex f m t (by omega)
      simp only [ih]
      unfold digR wD stepU
      by_cases h1 : 48 ≤ b.toNat ∧ b.toNat ≤ 57
      · rw [if_pos h1, if_pos h1]
        simp only []
        rw [if_neg (by simp; omega)]
      · rw [if_neg h1, if_neg h1]
        by_cases h2 : 97 ≤ b.toNat ∧ b.toNat ≤ 102
        · rw [if_pos h2]
          cases hex with
          | true => rw [if_pos ⟨rfl, h2⟩]; simp
          | false => rw [if_neg (by simp), if_neg (by simp)]; simp; omega
        · rw [if_neg h2, if_neg (show ¬ (hex = true ∧ 97 ≤ b.toNat ∧ b.toNat ≤ 102) from fun h => h2 h.2)]
          by_cases h3 : 65 ≤ b.toNat ∧ b.toNat ≤ 70
          · rw [if_pos h3]
            cases hex with
            | true => rw [if_pos ⟨rfl, h3⟩]; simp
            | false => rw [if_neg (by simp)]; simp; omega
          · rw [if_neg h3, if_neg (show ¬ (hex = true ∧ 65 ≤ b.toNat ∧ b.toNat ≤ 70) from fun h => h3 h.2)]
    · have hh := decL_high b t (by omega)
      have e : digR (decL (b :: t)).1 = none := by
        unfold digR
        rw [if_neg (by omega), if_neg (by omega), if_neg (by omega)]
      have e2 : wD hex b = none := by
        unfold wD
        rw [if_neg (by omega), if_neg (by omega), if_neg (by omega)]
      rw [e, e2]
theorem szB_all (hex : Bool) : ∀ (l : Bs) (n : Nat), (szB hex n l).isSome = l.all fun b => (wD hex b).isSome
  | [], _ => rfl
  | b :: t, n => by
    simp only [szB, List.all_cons]
    cases hw : wD hex b with
    | none => rfl
    | some d => simp only [Option.isSome_some, Bool.true_and]; exact szB_all hex t _
theorem check_loop (s : ByteArray) (hs : s.size ≤ 1000000) (hex : Bool) (J : Unit → Option (Int × Int)) : ∀ (d i k : Nat), s.size - i ≤ d → i ≤ s.size → d < k →
    r02_read.l2 k hex s J (i : Int) = if (((bs s).drop i).all fun b => (wD hex b).isSome) = true then J () else some (0, 4)
  | d, i, k, hd, hi, hk => by
    obtain ⟨k, rfl⟩ : ∃ m, k = m + 1 := ⟨k - 1, by omega⟩
    simp only [r02_read.l2]
    rcases Nat.lt_or_ge i s.size with h | h
    · obtain ⟨d, rfl⟩ : ∃ m, d = m + 1 := ⟨d - 1, by omega⟩
      rw [dT (p := (i : Int) < s.size) (by omega), sIdx_at s i h, drop_s s i h, wi ((i : Int) + 1) (by omega) (by omega), show (i : Int) + 1 = ((i + 1 : Nat) : Int) by omega]
      simp only [cond_true, Option.bind_some, worth_eq, List.all_cons]
      rw [check_loop s hs hex J d (i + 1) k (by omega) (by omega) (by omega)]
      by_cases hw : (wD hex s[i]).isSome = true
      · obtain ⟨x, hx⟩ := Option.isSome_iff_exists.1 hw
        have hz : wZ hex s[i] = x := by unfold wZ; rw [hx]
        rw [hz, dF (by omega)]
        simp only [hw, Bool.true_and, cond_false]
      · have hx : wD hex s[i] = none := by simpa using hw
        have hz : wZ hex s[i] = -1 := by unfold wZ; rw [hx]
        rw [hz, dT (by omega)]
        simp only [hw, Bool.false_and, cond_true, Bool.false_eq_true, if_false]
    · rw [dF (p := (i : Int) < s.size) (by omega), List.drop_of_length_le (by rw [bs_length]; omega)]
      rfl
theorem hexstep (u d : Nat) (hu : u < 18446744073709551616) (hd : d < 16) : IntKind.i64.wrap (IntKind.i64.wrap (sint u * 16) + (d : Int)) = sint ((u * 16 + d) % 18446744073709551616) := by
  unfold IntKind.wrap sint
  simp [IntKind.bits, IntKind.signed]
  omega
theorem hex_loop (s : ByteArray) (hs : s.size ≤ 1000000) (J : Int → Option (Int × Int)) : ∀ (d i k u u' : Nat), s.size - i ≤ d → i ≤ s.size → d < k → u < 18446744073709551616 → szB true u ((bs s).drop i) = some u' →
    r02_read.l0 k s J (sint u) (i : Int) = J (sint u')
  | d, i, k, u, u', hd, hi, hk, hu, hz => by
    obtain ⟨k, rfl⟩ : ∃ m, k = m + 1 := ⟨k - 1, by omega⟩
    simp only [r02_read.l0]
    rcases Nat.lt_or_ge i s.size with h | h
    · obtain ⟨d, rfl⟩ : ∃ m, d = m + 1 := ⟨d - 1, by omega⟩
      rw [dT (p := (i : Int) < s.size) (by omega), sIdx_at s i h, wi ((i : Int) + 1) (by omega) (by omega), show (i : Int) + 1 = ((i + 1 : Nat) : Int) by omega]
      rw [drop_s s i h] at hz
      simp only [cond_true, Option.bind_some, worth_eq]
      simp only [szB] at hz
      cases hw : wD true s[i] with
      | none => rw [hw] at hz; cases hz
      | some x =>
        rw [hw] at hz
        have hx := (wD_lt hw).1
        have hzz : wZ true s[i] = x := by unfold wZ; rw [hw]
        rw [hzz, hexstep u x hu hx]
        exact hex_loop s hs J d (i + 1) k _ u' (by omega) (by omega) (by omega) (Nat.mod_lt _ (by omega)) hz
    · rw [dF (p := (i : Int) < s.size) (by omega)]
      rw [List.drop_of_length_le (by rw [bs_length]; omega)] at hz
      cases hz
      rfl
theorem szB_mono : ∀ (l : Bs) (u u' : Nat), szB false u l = some u' → u ≤ 18446744073709551615 → u ≤ u'
  | [], u, u', h, _ => by cases h; exact Nat.le_refl _
  | b :: t, u, u', h, hu => by
    simp only [szB] at h
    cases hw : wD false b with
    | none => rw [hw] at h; cases h
    | some d =>
      rw [hw] at h
      have := szB_mono t _ u' h (by unfold stepU; simp; omega)
      unfold stepU at this
      simp at this
      omega
theorem tdiv10 (x : Int) (h : x ≤ 0) : Int.tdiv x 10 = -((-x) / 10) := by
  obtain ⟨n, hn⟩ : ∃ n : Nat, x = -(n : Int) := ⟨x.natAbs, by omega⟩
  subst hn
  rw [Int.neg_tdiv, show (10 : Int) = ((10 : Nat) : Int) from rfl, td]
  omega
theorem dec_loop2 (s : ByteArray) (hs : s.size ≤ 1000000) (J : Int → Option (Int × Int)) : ∀ (d i k u u' : Nat), s.size - i ≤ d → i ≤ s.size → d < k → u ≤ 9223372036854775808 → szB false u ((bs s).drop i) = some u' →
    r02_read.l1 k s J (-(u : Int)) (i : Int) = if u' > 9223372036854775808 then some (0, 14) else J (-(u' : Int))
  | d, i, k, u, u', hd, hi, hk, hu, hz => by
    obtain ⟨k, rfl⟩ : ∃ m, k = m + 1 := ⟨k - 1, by omega⟩
    simp only [r02_read.l1]
    rcases Nat.lt_or_ge i s.size with h | h
    · obtain ⟨d, rfl⟩ : ∃ m, d = m + 1 := ⟨d - 1, by omega⟩
      rw [dT (p := (i : Int) < s.size) (by omega), sIdx_at s i h, wi ((i : Int) + 1) (by omega) (by omega), show (i : Int) + 1 = ((i + 1 : Nat) : Int) by omega]
      rw [drop_s s i h] at hz
      simp only [cond_true, Option.bind_some, worth_eq]
      simp only [szB] at hz
      cases hw : wD false s[i] with
      | none => rw [hw] at hz; cases hz
      | some x =>
        rw [hw] at hz
        have hx := (wD_lt hw).2 rfl
        have hzz : wZ false s[i] = x := by unfold wZ; rw [hw]
        rw [hzz, wi ((-9223372036854775808 : Int) + (x : Int)) (by omega) (by omega), tdiv10 _ (by omega)]
        have hm := szB_mono _ _ u' hz (by unfold stepU; simp; omega)
        have hst : stepU false u x = min (10 * u + x) 18446744073709551615 := rfl
        rw [wi (-(-(-9223372036854775808 + (x : Int)) / 10)) (by omega) (by omega)]
        by_cases hb : 10 * u + x > 9223372036854775808
        · rw [dT (by omega), if_pos (by omega)]
          rfl
        · rw [dF (by omega)]
          simp only [cond_false]
          rw [wi (-(u : Int) * 10) (by omega) (by omega), wi (-(u : Int) * 10 - (x : Int)) (by omega) (by omega)]
          have he : stepU false u x = 10 * u + x := by rw [hst]; omega
          have hz : szB false (stepU false u x) ((bs s).drop (i + 1)) = some u' := hz
          rw [he] at hz
          rw [show -(u : Int) * 10 - (x : Int) = -((10 * u + x : Nat) : Int) by omega]
          exact dec_loop2 s hs J d (i + 1) k _ u' (by omega) (by omega) (by omega) (by omega) hz
    · rw [dF (p := (i : Int) < s.size) (by omega)]
      rw [List.drop_of_length_le (by rw [bs_length]; omega)] at hz
      cases hz
      rw [if_neg (by omega)]
      rfl
theorem szB_lt : ∀ (l : Bs) (hex : Bool) (u u' : Nat), szB hex u l = some u' → u < 18446744073709551616 → u' < 18446744073709551616
  | [], _, u, u', h, hu => by cases h; exact hu
  | b :: t, hex, u, u', h, hu => by
    simp only [szB] at h
    cases hw : wD hex b with
    | none => rw [hw] at h; cases h
    | some d =>
      rw [hw] at h
      refine szB_lt t hex _ u' h ?_
      unfold stepU
      split
      · exact Nat.mod_lt _ (by omega)
      · omega
/-- What stands behind the head. -/
def readT (k : Nat) (hex : Bool) (x2 : ByteArray) : Option (Int × Int) :=
  cond ((x2.size : Int) == (0 : Int)) (some ((0 : Int), (4 : Int))) (joinF (fun (_ : Unit) => cond hex (joinF (fun (x7 : Int) => joinF (fun (x9 : Int) => some (x9, (0 : Int))) (fun J10 => cond false (J10 (IntKind.i64.wrap (0 - x7))) (J10 x7))) (fun J8 => r02_read.l0 k x2 J8 (0 : Int) (0 : Int))) (joinF (fun (x18 : Int) => cond false (some (x18, (0 : Int))) (cond (x18 == (-9223372036854775808 : Int)) (some ((0 : Int), (14 : Int))) (some (IntKind.i64.wrap (0 - x18), (0 : Int))))) (fun J19 => r02_read.l1 k x2 J19 (0 : Int) (0 : Int)))) (fun J5 => r02_read.l2 k hex x2 J5 (0 : Int)))
theorem readT_eq (k : Nat) (hex : Bool) (x : ByteArray) (hs : x.size ≤ 1000000) (hk : x.size < k) : readT k hex x = some (if bs x = [] then ((0, 4) : Int × Int) else match szB hex 0 (bs x) with | none => (0, 4) | some u => if !hex && decide (u > 9223372036854775807) then (0, 14) else (sint u, 0)) := by
  unfold readT joinF
  by_cases he : bs x = []
  · have h0 : x.size = 0 := by rw [← bs_length, he]; rfl
    rw [if_pos he, show ((x.size : Int) == 0) = true by rw [beq_iff_eq]; omega]
    rfl
  · have h0 : x.size ≠ 0 := fun h => he (List.eq_nil_of_length_eq_zero (by rw [bs_length]; exact h))
    rw [if_neg he, show ((x.size : Int) == 0) = false by rw [beq_eq_false_iff_ne]; omega]
    simp only [cond_false]
    have hc := check_loop x hs hex (fun (_ : Unit) => cond hex (r02_read.l0 k x (fun x7 => some (x7, 0)) 0 0) (r02_read.l1 k x (fun x18 => cond (x18 == (-9223372036854775808 : Int)) (some ((0 : Int), (14 : Int))) (some (IntKind.i64.wrap (0 - x18), (0 : Int)))) 0 0)) x.size 0 k (by omega) (by omega) hk
    rw [show ((0 : Nat) : Int) = 0 from rfl, List.drop_zero] at hc
    refine hc.trans ?_
    rw [← szB_all hex (bs x) 0]
    cases hz : szB hex 0 (bs x) with
    | none => simp
    | some u =>
      rw [if_pos (show (some u).isSome = true from rfl)]
      have hlt := szB_lt _ _ _ _ hz (by omega)
      cases hex with
      | true =>
        have := hex_loop x hs (fun x7 => some (x7, 0)) x.size 0 k 0 u (by omega) (by omega) hk (by omega) hz
        rw [show sint 0 = 0 from rfl, show ((0 : Nat) : Int) = 0 from rfl] at this
        simp only [cond_true, this, Bool.not_true, Bool.false_and, Bool.false_eq_true, if_false]
      | false =>
        have := dec_loop2 x hs (fun x18 => cond (x18 == (-9223372036854775808 : Int)) (some ((0 : Int), (14 : Int))) (some (IntKind.i64.wrap (0 - x18), (0 : Int)))) x.size 0 k 0 u (by omega) (by omega) hk (by omega) hz
        rw [show -((0 : Nat) : Int) = 0 from rfl, show ((0 : Nat) : Int) = 0 from rfl] at this
        simp only [cond_false, this, Bool.not_false, Bool.true_and]
        by_cases h1 : u > 9223372036854775808
        · rw [if_pos h1, if_pos (by simp; omega)]
        · rw [if_neg h1]
          by_cases h2 : u = 9223372036854775808
          · rw [show ((-(u : Int)) == (-9223372036854775808 : Int)) = true by rw [beq_iff_eq]; omega, if_pos (by simp; omega)]
            rfl
          · rw [show ((-(u : Int)) == (-9223372036854775808 : Int)) = false by rw [beq_eq_false_iff_ne]; omega, if_neg (by simp; omega), wi _ (by omega) (by omega)]
            simp only [cond_false]
            unfold sint
            rw [if_pos (by omega)]
            congr 2
            omega
theorem hexHead_short : ∀ (l : Bs), l.length ≤ 1 → hexHead l = false
  | [], _ => rfl
  | [a], _ => by
    unfold hexHead
    simp only [List.isPrefixOf, Bool.and_false, Bool.or_self]
  | a :: b :: t, h => by simp at h
theorem parse_eq (k : Nat) (s : ByteArray) (hs : s.size ≤ 1000000) (hk : s.size < k) : r02_Parse.f k s = some (parseF (bs s)) := by
  have hq : ((cond (decide ((s.size : Int) ≥ (2 : Int))) ((sIdx s (0 : Int)).bind fun c38 : UInt8 => cond ((c38.toNat : Int) == (48 : Int)) ((sIdx s (1 : Int)).bind fun c40 : UInt8 => cond ((c40.toNat : Int) == (120 : Int)) (some true) ((sIdx s (1 : Int)).bind fun c42 : UInt8 => some ((c42.toNat : Int) == (88 : Int)))) (some false)) (some false)) : Option Bool) = some (hexHead (bs s)) := by
    unfold hexHead
    rcases Nat.lt_or_ge 1 s.size with h | h
    · rw [dT (p := (s.size : Int) ≥ 2) (by omega)]
      have e0 := sIdx_at s 0 (by omega)
      have e1 := sIdx_at s 1 h
      have d0 := drop_s s 0 (by omega)
      have d1 := drop_s s 1 h
      rw [show ((0 : Nat) : Int) = 0 from rfl] at e0
      rw [show ((1 : Nat) : Int) = 1 from rfl] at e1
      rw [List.drop_zero] at d0
      rw [d0, d1, e0, e1]
      generalize s[0] = a
      generalize s[1] = b
      simp only [cond_true, Option.bind_some]
      rw [show ((a.toNat : Int) == 48) = decide (a = 48) from bq a 48, show ((b.toNat : Int) == 120) = decide (b = 120) from bq b 120, show ((b.toNat : Int) == 88) = decide (b = 88) from bq b 88]
      by_cases ha : a = 48
      · subst ha
        rw [dT rfl]
        have hx : ∀ y : UInt8, ([48, y].isPrefixOf (48 :: b :: (bs s).drop (1 + 1))) = ((y == b) && true) := fun y => rfl
        rw [hx, hx]
        simp only [cond_true]
        by_cases hb : b = 120
        · subst hb; rfl
        · rw [dF hb, show ((120 : UInt8) == b) = false by rw [beq_eq_false_iff_ne]; exact fun e => hb e.symm]
          simp only [cond_false, Bool.false_or]
          have e : ((88 : UInt8) == b) = decide (b = 88) := by
            rw [Bool.eq_iff_iff, beq_iff_eq, decide_eq_true_eq]
            exact eq_comm
          rw [e]
          cases decide (b = 88) <;> rfl
      · rw [dF ha]
        simp only [cond_false, List.isPrefixOf]
        rw [show ((48 : UInt8) == a) = false by rw [beq_eq_false_iff_ne]; exact fun e => ha e.symm]
        rfl
    · rw [dF (p := (s.size : Int) ≥ 2) (by omega)]
      have hl : (bs s).length ≤ 1 := by rw [bs_length]; omega
      have := hexHead_short (bs s) hl
      unfold hexHead at this
      rw [this]
      rfl
  unfold r02_Parse.f r02_read.f
  rw [hq]
  unfold parseF
  simp only [Option.bind_some]
  have hT : ∀ hex x2, readT k hex x2 = cond ((x2.size : Int) == (0 : Int)) (some ((0 : Int), (4 : Int))) (joinF (fun (_ : Unit) => cond hex (joinF (fun (x7 : Int) => joinF (fun (x9 : Int) => some (x9, (0 : Int))) (fun J10 => cond false (J10 (IntKind.i64.wrap (0 - x7))) (J10 x7))) (fun J8 => r02_read.l0 k x2 J8 (0 : Int) (0 : Int))) (joinF (fun (x18 : Int) => cond false (some (x18, (0 : Int))) (cond (x18 == (-9223372036854775808 : Int)) (some ((0 : Int), (14 : Int))) (some (IntKind.i64.wrap (0 - x18), (0 : Int))))) (fun J19 => r02_read.l1 k x2 J19 (0 : Int) (0 : Int)))) (fun J5 => r02_read.l2 k hex x2 J5 (0 : Int))) := fun _ _ => rfl
  simp only [← hT]
  have hz := fun hex x => sizeG_szB hex (x : Bs).length 0 x (Nat.le_refl _)
  unfold sizeL
  simp only [hz]
  unfold joinF
  generalize hexHead (bs s) = hex at *
  cases hex with
  | false =>
    simp only [cond_false, Bool.false_eq_true, if_false]
    rw [readT_eq k false s hs hk]
    simp only [Option.bind_some]
    rfl
  | true =>
    simp only [cond_true, if_true]
    rcases Nat.lt_or_ge 1 s.size with h | h
    · have := sSub_str s 2 s.size (by omega) (Nat.le_refl _)
      rw [show ((2 : Nat) : Int) = 2 from rfl, List.take_of_length_le (by rw [List.length_drop, bs_length]; omega)] at this
      rw [this]
      simp only [Option.bind_some]
      rw [readT_eq k true _ (by rw [str_size, List.length_drop, bs_length]; omega) (by rw [str_size, List.length_drop, bs_length]; omega), bs_str]
      rfl
    · exfalso
      rw [dF (p := (s.size : Int) ≥ 2) (by omega)] at hq
      cases hq
end Go.Proofs.YtadenjlehhopmaaDoor

namespace Go.Proofs.YtadenjlehhopmaaDoor
open Go Go.RowKit Lx
/-- How many bytes till the end of the line. -/
def nlen (l : Bs) : Nat := (l.takeWhile (fun b => b != 10)).length
theorem rune_lf (b : UInt8) (t : Bs) : (decL (b :: t)).1 = 10 ↔ b = 10 := by
  by_cases h : b.toNat < 128
  · rw [decL_low b t h]
    constructor
    · intro e; exact UInt8.toNat_inj.1 (by show b.toNat = 10; exact e)
    · intro e; subst e; rfl
  · have := decL_high b t (by omega)
    constructor
    · intro e; omega
    · intro e; subst e; exact absurd (by decide) h
theorem nlen_app (x y : Bs) (h : ∀ b ∈ x, b ≠ 10) : nlen (x ++ y) = x.length + nlen y := by
  unfold nlen
  rw [List.takeWhile_append_of_pos (fun b hb => by simpa using h b hb), List.length_append]
theorem run_line_eq : ∀ (n : Nat) (l : Bs), l.length ≤ n → runL inLineR l = nlen l
  | n, [], _ => rfl
  | 0, b :: t, h => by simp at h
  | n + 1, b :: t, h => by
    rw [runL_step inLineR (b :: t) (by simp)]
    unfold inLineR
    by_cases hb : b = 10
    · subst hb
      rw [if_neg (by simp [(rune_lf 10 t).2 rfl])]
      rfl
    · have hr : (decL (b :: t)).1 ≠ 10 := fun e => hb ((rune_lf b t).1 e)
      rw [if_pos (by simpa using hr)]
      have hw := decL_width (b :: t)
      have hw3 := hw.2.2 (by simp)
      have ih := run_line_eq n ((b :: t).drop (decL (b :: t)).2) (by rw [List.length_drop]; omega)
      unfold inLineR at ih
      rw [ih]
      conv => rhs; rw [← List.take_append_drop (decL (b :: t)).2 (b :: t)]
      rw [nlen_app _ _ (fun x hx => ?_), List.length_take, Nat.min_eq_left hw3]
      intro e
      subst e
      have := decL_bytes (b :: t) 10 hx (by decide)
      exact hr this.1
theorem line_loop (s : ByteArray) (hs : s.size ≤ 1000000) (J : Int → Option (List (Int × ByteArray × Int × Int) × Int × Int)) : ∀ (d i k : Nat), s.size - i ≤ d → i ≤ s.size → d < k →
    r11_Scan.l1 k s J (i : Int) = J ((i + nlen ((bs s).drop i) : Nat) : Int)
  | d, i, k, hd, hi, hk => by
    obtain ⟨k, rfl⟩ : ∃ m, k = m + 1 := ⟨k - 1, by omega⟩
    simp only [r11_Scan.l1]
    rcases Nat.lt_or_ge i s.size with h | h
    · obtain ⟨d, rfl⟩ : ∃ m, d = m + 1 := ⟨d - 1, by omega⟩
      rw [dT (p := (i : Int) < s.size) (by omega), sIdx_at s i h, wi ((i : Int) + 1) (by omega) (by omega), show (i : Int) + 1 = ((i + 1 : Nat) : Int) by omega]
      have ih := line_loop s hs J d (i + 1) k (by omega) (by omega) (by omega)
      rw [drop_s s i h]
      simp only [cond_true, Option.bind_some]
      rw [show ((s[i].toNat : Int) != 10) = decide (s[i] ≠ 10) from bn s[i] 10]
      by_cases hb : s[i] = 10
      · rw [dF (by simpa using hb), show nlen (s[i] :: (bs s).drop (i + 1)) = 0 by unfold nlen; rw [List.takeWhile_cons_of_neg (by simpa using hb)]; rfl]
        rfl
      · rw [dT hb, show nlen (s[i] :: (bs s).drop (i + 1)) = nlen ((bs s).drop (i + 1)) + 1 by unfold nlen; rw [List.takeWhile_cons_of_pos (by simpa using hb)]; rfl]
        simp only [cond_true]
        rw [ih]
        congr 2
        omega
    · rw [dF (p := (i : Int) < s.size) (by omega), List.drop_of_length_le (by rw [bs_length]; omega)]
      rfl
def scanP : (Int × Int) ⊕ List Tok → List (Int × ByteArray × Int × Int) × Int × Int
  | .inl (c, p) => ([], c, p)
  | .inr l => (l.map tokT, 0, 0)
def scanJ (s : ByteArray) (l3 : List (Int × ByteArray × Int × Int)) : Option (List (Int × ByteArray × Int × Int) × Int × Int) :=
  (apd 40 l3 [((6 : Int), (⟨#[]⟩ : ByteArray), (0 : Int), (s.size : Int))]).bind fun l10 => some (l10, (0 : Int), (0 : Int))
theorem runB_no (b : UInt8) (t : Bs) (h : blankB b = false) : runL blankR (b :: t) = 0 := by
  rw [runL_step blankR (b :: t) (by simp), if_neg]
  intro he
  by_cases hb : b.toNat < 128
  · rw [decL_low b t hb] at he
    rw [blank_of he] at h
    cases h
  · have := decL_high b t (by omega)
    unfold blankR at he
    simp at he
    omega
theorem rune_q (b : UInt8) (t : Bs) : (decL (b :: t)).1 = 34 ∨ (decL (b :: t)).1 = 39 ↔ b = 34 ∨ b = 39 := by
  by_cases hb : b.toNat < 128
  · rw [decL_low b t hb]
    constructor
    · rintro (h | h)
      · exact .inl (UInt8.toNat_inj.1 h)
      · exact .inr (UInt8.toNat_inj.1 h)
    · rintro (h | h) <;> subst h
      · exact .inl rfl
      · exact .inr rfl
  · have := decL_high b t (by omega)
    constructor
    · rintro (h | h) <;> omega
    · rintro (h | h) <;> (subst h; exact absurd (by decide) hb)
theorem textG_fuel (q : UInt8) : ∀ (f g : Nat) (l acc : Bs) (i : Nat), l.length < f → l.length < g → textG q f l acc i = textG q g l acc i
  | 0, _, l, _, _, h, _ => by omega
  | _, 0, l, _, _, _, h => by omega
  | f + 1, g + 1, [], _, _, _, _ => rfl
  | f + 1, g + 1, b :: t, acc, i, h, h' => by
    simp only [List.length_cons] at h h'
    rw [textG_cons, textG_cons]
    split
    · rfl
    · split
      · rfl
      · split
        · cases hE : escF t with
          | ended => rfl
          | unfit => rfl
          | ok e n =>
            have := escF_len hE
            exact textG_fuel q f g _ _ _ (by rw [List.length_drop]; simp; omega) (by rw [List.length_drop]; simp; omega)
        · exact textG_fuel q f g _ _ _ (by omega) (by omega)
set_option maxRecDepth 100000 in
set_option maxHeartbeats 1000000 in
theorem scan_loop (s : ByteArray) (hs : s.size ≤ 20000) : ∀ (d at_ k : Nat) (acc : List Tok), s.size - at_ ≤ d → at_ ≤ s.size → acc.length ≤ at_ → d + 30000 ≤ k →
    r11_Scan.l0 k s (scanJ s) (acc.map tokT) (at_ : Int) = some (scanP (scanL ((bs s).drop at_) at_ acc)) := by
    intro d
    induction d using Nat.strongRecOn with
    | _ d IH =>
    intro at_ k acc hd ha hacc hk
    have hs1 : s.size ≤ 1000000 := by omega
    obtain ⟨k, rfl⟩ : ∃ m, k = m + 1 := ⟨k - 1, by omega⟩
    simp only [r11_Scan.l0]
    rcases Nat.lt_or_ge at_ s.size with h | h
    · obtain ⟨d, rfl⟩ : ∃ m, d = m + 1 := ⟨d - 1, by omega⟩
      have ih := fun (n : Nat) (acc : List Tok) (h1 : 1 ≤ n) (h2 : at_ + n ≤ s.size) (h3 : acc.length ≤ at_ + n) => IH d (by omega) (at_ + n) k acc (by omega) h2 h3 (by omega)
      have hat := at_eq s at_ k hs1 h (by omega)
      have hnm := names_eq s hs1 at_ k (by omega) (by omega)
      have htx := text_eq s hs1 at_ k h (by omega)
      have hsg := sign_eq k s at_ hs1 h
      have hln := fun J => line_loop s hs1 J (s.size - at_) at_ k (Nat.le_refl _) ha (by omega)
      have hrl := runL_le' partR ((bs s).drop at_)
      have hdr := drop_s s at_ h
      have hlen : ((bs s).drop (at_ + 1)).length = s.size - (at_ + 1) := by rw [List.length_drop, bs_length]
      rw [List.length_drop, bs_length] at hrl
      have hnext : at_ + 1 < s.size → sIdx s ((at_ + 1 : Nat) : Int) = ((bs s).drop (at_ + 1)).head? := fun _ => sIdx_head s (at_ + 1)
      have hsub := fun (n : Nat) (h2 : at_ + n ≤ s.size) => sSub_str s at_ (at_ + n) (by omega) h2
      rw [dT (p := (at_ : Int) < s.size) (by omega), sIdx_at s at_ h, wi ((at_ : Int) + 1) (by omega) (by omega), show (at_ : Int) + 1 = ((at_ + 1 : Nat) : Int) by omega]
      rw [hdr] at hat hnm hsg hln hrl hsub ⊢
      have hdd : ∀ n, (s[at_] :: (bs s).drop (at_ + 1)).drop n = (bs s).drop (at_ + n) := fun n => by rw [← hdr, List.drop_drop]
      generalize hc : s[at_] = c at *
      generalize ht : (bs s).drop (at_ + 1) = t at *
      have hcl := c.toNat_lt
      simp only [cond_true, Option.bind_some]
      have hbl : ((cond ((c.toNat : Int) == (32 : Int)) (some true) (cond ((c.toNat : Int) == (9 : Int)) (some true) (cond ((c.toNat : Int) == (10 : Int)) (some true) (some ((c.toNat : Int) == (13 : Int)))))) : Option Bool) = some (blankB c) := by
        unfold blankB
        rw [show ((c.toNat : Int) == 32) = (c == 32) from beq_byte c 32, show ((c.toNat : Int) == 9) = (c == 9) from beq_byte c 9, show ((c.toNat : Int) == 10) = (c == 10) from beq_byte c 10, show ((c.toNat : Int) == 13) = (c == 13) from beq_byte c 13]
        cases (c == 32) <;> cases (c == 9) <;> cases (c == 10) <;> rfl
      rw [hbl]
      simp only [Option.bind_some]
      cases hB : blankB c with
      | true =>
        simp only [cond_true]
        have := scanL_blanks t at_ acc [c] (by simpa using hB)
        rw [show c :: t = [c] ++ t from rfl, this, ← ht]
        exact ih 1 acc (by omega) (by omega) (by omega)
      | false =>
        simp only [cond_false]
        have hr0 := runB_no c t hB
        have hstep := scanL_step (c :: t) at_ acc
        rw [hr0, List.drop_zero] at hstep
        simp only [Nat.add_zero] at hstep
        have hst : stepF (c :: t) = if [45, 45].isPrefixOf (c :: t) then .skip (runL inLineR (c :: t)) else if letterR (decL (c :: t)).1 then (if runL partR (c :: t) > 40 then .bad 14 0 else .tok (if isWordF ((c :: t).take (runL partR (c :: t))) then 2 else 1) ((c :: t).take (runL partR (c :: t))) 0 (runL partR (c :: t)))
          else if digitR (decL (c :: t)).1 then (if (parseF ((c :: t).take (runL partR (c :: t)))).2 ≠ 0 then .bad (parseF ((c :: t).take (runL partR (c :: t)))).2 0 else .tok 3 ((c :: t).take (runL partR (c :: t))) (parseF ((c :: t).take (runL partR (c :: t)))).1 (runL partR (c :: t)))
          else if (decL (c :: t)).1 = 34 ∨ (decL (c :: t)).1 = 39 then (match textG (UInt8.ofNat (decL (c :: t)).1) (c :: t).length t [] 1 with | .bad c r => .bad c r | .ok v k => .tok 4 v 0 k)
          else (match signF (c :: t) with | none => .bad 4 0 | some s => .tok 5 s 0 s.length) := by
          unfold stepF
          rw [if_neg (by simp)]
          rfl
        have hdash : ((cond ((c.toNat : Int) == (45 : Int)) (cond (decide (((at_ + 1 : Nat) : Int) < (s.size : Int))) ((sIdx s ((at_ + 1 : Nat) : Int)).bind fun c74 : UInt8 => some ((c74.toNat : Int) == (45 : Int))) (some false)) (some false)) : Option Bool) = some ([45, 45].isPrefixOf (c :: t)) := by
          rw [show ((c.toNat : Int) == 45) = decide (c = 45) from bq c 45]
          by_cases h45 : c = 45
          · subst h45
            rw [dT rfl]
            simp only [cond_true]
            rcases Nat.lt_or_ge (at_ + 1) s.size with h1 | h1
            · rw [dT (p := ((at_ + 1 : Nat) : Int) < s.size) (by omega), hnext h1]
              cases t with
              | nil => simp at hlen; omega
              | cons e t =>
                simp only [cond_true, List.head?_cons, Option.bind_some]
                rw [show ((e.toNat : Int) == 45) = (e == 45) from beq_byte e 45]
                show some (e == 45) = some ((45 == (45 : UInt8)) && ((45 == e) && true))
                rw [show ((45 : UInt8) == e) = (e == 45) by rw [Bool.eq_iff_iff, beq_iff_eq, beq_iff_eq]; exact eq_comm]
                cases (e == 45) <;> rfl
            · rw [dF (p := ((at_ + 1 : Nat) : Int) < s.size) (by omega)]
              have : t = [] := List.eq_nil_of_length_eq_zero (by omega)
              subst this
              rfl
          · rw [dF h45]
            show some false = some ((45 == c) && _)
            rw [show ((45 : UInt8) == c) = false by rw [beq_eq_false_iff_ne]; exact fun e => h45 e.symm]
            rfl
        rw [hdash]
        simp only [Option.bind_some]
        have htok : ∀ (n : Nat) (kind : Int) (text : Bs) (v : Int), 1 ≤ n → at_ + n ≤ s.size → stepF (c :: t) = .tok kind text v n →
            ((apd 40 (acc.map tokT) [(kind, str text, v, (at_ : Int))]).bind fun l45 => r11_Scan.l0 k s (scanJ s) l45 (IntKind.i64.wrap ((at_ : Int) + (n : Int)))) = some (scanP (scanL (c :: t) at_ acc)) := by
          intro n kind text v h1 h2 h3
          rw [h3] at hstep
          rw [hstep, apd_ok _ _ _ (by simp; omega)]
          simp only [Option.bind_some]
          rw [wi _ (by omega) (by omega), show (at_ : Int) + (n : Int) = ((at_ + n : Nat) : Int) by omega, hdd]
          have := ih n (acc ++ [⟨kind, text, v, at_⟩]) h1 h2 (by simp; omega)
          rw [List.map_append] at this
          exact this
        have hbad : ∀ (cd : Int) (rel : Nat), stepF (c :: t) = .bad cd rel → scanP (scanL (c :: t) at_ acc) = ([], cd, ((at_ + rel : Nat) : Int)) := by
          intro cd rel h3
          rw [h3] at hstep
          rw [hstep]
          rfl
        cases hp : [45, 45].isPrefixOf (c :: t) with
        | true =>
          rw [hp, if_pos rfl] at hst
          rw [hst] at hstep
          rw [run_line_eq _ _ (Nat.le_refl _)] at hstep
          simp only [cond_true, joinF]
          rw [hln]
          have hn1 : 1 ≤ nlen (c :: t) ∧ nlen (c :: t) ≤ s.size - at_ := by
            have := (stepF_take (c :: t)).1 _ hst
            rw [run_line_eq _ _ (Nat.le_refl _)] at this
            simp only [List.length_cons] at this
            omega
          rw [hstep]
          show _ = some (scanP (scanL (List.drop (nlen (c :: t)) (c :: t)) (at_ + nlen (c :: t)) acc))
          rw [hdd]
          exact ih (nlen (c :: t)) acc hn1.1 (by omega) (by omega)
        | false =>
          rw [hp, if_neg (by simp)] at hst
          simp only [cond_false]
          rw [hat]
          simp only [Option.bind_some, joinF, rletter_eq, rdigit_eq]
          have hrq := rune_q c t
          have hwd := (decL_width (c :: t)).1
          have hrun1 : letterR (decL (c :: t)).1 = true ∨ digitR (decL (c :: t)).1 = true → 1 ≤ runL partR (c :: t) := fun h => by
            rw [runL_step partR _ (by simp), if_pos (by unfold partR; rcases h with h | h <;> simp [h])]
            omega
          cases hL : letterR (decL (c :: t)).1 with
          | true =>
            rw [hL, if_pos rfl] at hst
            have h1 := hrun1 (.inl hL)
            simp only [cond_true]
            rw [hnm]
            simp only [Option.bind_some]
            by_cases h40 : runL partR (c :: t) > 40
            · rw [dT (p := ((runL partR (c :: t) : Nat) : Int) > 40) (by omega)]
              rw [if_pos h40] at hst
              rw [hbad _ _ hst]
              rfl
            · rw [dF (p := ((runL partR (c :: t) : Nat) : Int) > 40) (by omega)]
              rw [if_neg h40] at hst
              simp only [cond_false]
              rw [wi ((at_ : Int) + (runL partR (c :: t) : Nat)) (by omega) (by omega), show (at_ : Int) + ((runL partR (c :: t) : Nat) : Int) = ((at_ + runL partR (c :: t) : Nat) : Int) by omega, hsub _ (by omega), Nat.add_sub_cancel_left]
              simp only [Option.bind_some, isWord_eq, bs_str]
              cases hW : isWordF ((c :: t).take (runL partR (c :: t))) with
              | true =>
                rw [hW] at hst
                simp only [cond_true]
                rw [show ((at_ + runL partR (c :: t) : Nat) : Int) = (at_ : Int) + ((runL partR (c :: t) : Nat) : Int) by omega]
                have := htok (runL partR (c :: t)) 2 _ 0 h1 (by omega) hst
                rw [wi _ (by omega) (by omega)] at this
                exact this
              | false =>
                rw [hW] at hst
                simp only [cond_false]
                rw [show ((at_ + runL partR (c :: t) : Nat) : Int) = (at_ : Int) + ((runL partR (c :: t) : Nat) : Int) by omega]
                have := htok (runL partR (c :: t)) 1 _ 0 h1 (by omega) hst
                rw [wi _ (by omega) (by omega)] at this
                exact this
          | false =>
            rw [hL, if_neg (by simp)] at hst
            simp only [cond_false]
            cases hD : digitR (decL (c :: t)).1 with
            | true =>
              rw [hD, if_pos rfl] at hst
              have h1 := hrun1 (.inr hD)
              simp only [cond_true]
              rw [hnm]
              simp only [Option.bind_some]
              rw [wi ((at_ : Int) + (runL partR (c :: t) : Nat)) (by omega) (by omega), show (at_ : Int) + ((runL partR (c :: t) : Nat) : Int) = ((at_ + runL partR (c :: t) : Nat) : Int) by omega, hsub _ (by omega), Nat.add_sub_cancel_left]
              simp only [Option.bind_some]
              have hsz : (str ((c :: t).take (runL partR (c :: t)))).size ≤ 20000 := by rw [str_size, List.length_take]; simp only [List.length_cons]; omega
              rw [parse_eq k _ (by omega) (by omega), bs_str]
              simp only [Option.bind_some]
              by_cases hP : (parseF ((c :: t).take (runL partR (c :: t)))).2 = 0
              · rw [show ((parseF ((c :: t).take (runL partR (c :: t)))).2 != 0) = false by rw [hP]; rfl]
                rw [if_neg (by simpa using hP)] at hst
                simp only [cond_false]
                rw [show ((at_ + runL partR (c :: t) : Nat) : Int) = (at_ : Int) + ((runL partR (c :: t) : Nat) : Int) by omega]
                have := htok (runL partR (c :: t)) 3 _ _ h1 (by omega) hst
                rw [wi _ (by omega) (by omega)] at this
                exact this
              · rw [show ((parseF ((c :: t).take (runL partR (c :: t)))).2 != 0) = true by rw [bne_iff_ne]; exact hP]
                rw [if_pos hP] at hst
                rw [hbad _ _ hst]
                rfl
            | false =>
              rw [hD, if_neg (by simp)] at hst
              simp only [cond_false]
              have hqb : ((cond ((c.toNat : Int) == (34 : Int)) (some true) (some ((c.toNat : Int) == (39 : Int)))) : Option Bool) = some (decide (c = 34 ∨ c = 39)) := by
                rw [show ((c.toNat : Int) == 34) = decide (c = 34) from bq c 34, show ((c.toNat : Int) == 39) = decide (c = 39) from bq c 39]
                by_cases q1 : c = 34
                · rw [dT q1, dT (show c = 34 ∨ c = 39 from .inl q1)]; rfl
                · rw [dF q1]
                  by_cases q2 : c = 39
                  · rw [dT q2, dT (show c = 34 ∨ c = 39 from .inr q2)]; rfl
                  · rw [dF q2, dF (show ¬ (c = 34 ∨ c = 39) from fun h => h.elim q1 q2)]; rfl
              rw [hqb]
              simp only [Option.bind_some]
              by_cases hQ : c = 34 ∨ c = 39
              · rw [dT hQ]
                rw [if_pos (hrq.2 hQ)] at hst
                simp only [cond_true]
                have hrc : UInt8.ofNat (decL (c :: t)).1 = c := by
                  rw [decL_low c t (by rcases hQ with rfl | rfl <;> decide)]
                  simp
                rw [hrc, textG_fuel c (c :: t).length (s.size - at_) t [] 1 (by simp) (by omega)] at hst
                rw [htx]
                simp only [Option.bind_some]
                cases hT : textG c (s.size - at_) t [] 1 with
                | bad cd rel =>
                  rw [hT] at hst
                  have hcd : cd ≠ 0 := bad_ne _ _ _ hst
                  simp only [textP]
                  rw [show (cd != 0) = true by rw [bne_iff_ne]; exact hcd, hbad _ _ hst]
                  rfl
                | ok v n =>
                  rw [hT] at hst
                  have hn := (stepF_take (c :: t)).2 _ _ _ _ hst
                  simp only [List.length_cons] at hn
                  simp only [textP]
                  rw [show ((0 : Int) != 0) = false from rfl]
                  simp only [cond_false]
                  exact htok n 4 v 0 hn.1 (by omega) hst
              · rw [dF hQ]
                rw [if_neg (fun h => hQ (hrq.1 h))] at hst
                simp only [cond_false]
                rw [hsg]
                simp only [Option.bind_some, sgnR]
                cases hS : signF (c :: t) with
                | none =>
                  rw [hS] at hst
                  rw [hbad _ _ hst]
                  rfl
                | some x =>
                  rw [hS] at hst
                  have hn := (stepF_take (c :: t)).2 _ _ _ _ hst
                  simp only [List.length_cons] at hn
                  simp only []
                  rw [str_size, show ((x.length : Int) == 0) = false by rw [beq_eq_false_iff_ne]; omega]
                  simp only [cond_false]
                  exact htok x.length 5 x 0 hn.1 (by omega) hst
    · have e : at_ = s.size := by omega
      rw [dF (p := (at_ : Int) < s.size) (by omega), List.drop_of_length_le (by rw [bs_length]; omega)]
      simp only [cond_false]
      have : scanL [] at_ acc = .inr (acc ++ [⟨6, [], 0, at_⟩]) := by rw [scanL_step]; rfl
      rw [this]
      unfold scanJ
      rw [apd_ok _ _ _ (by simp; omega)]
      simp only [Option.bind_some, scanP, List.map_append]
      rw [e]
      rfl
theorem scan_eq (k : Nat) (s : ByteArray) (hk : 50000 ≤ k) : r11_Scan.f k s = some (lexR s) := by
  unfold r11_Scan.f lexR
  by_cases h : s.size ≤ 20000
  · rw [dF (by omega), scanF_small _ (by rw [bs_length]; exact h)]
    simp only [cond_false]
    have := scan_loop s h s.size 0 k [] (by omega) (by omega) (by simp) (by omega)
    rw [List.drop_zero] at this
    refine Eq.trans this ?_
    cases scanL (bs s) 0 [] with
    | inl x => obtain ⟨c, p⟩ := x; rfl
    | inr l => rfl
  · rw [dT (by omega)]
    unfold scanF
    rw [if_pos (by rw [bs_length]; omega)]
    rfl
end Go.Proofs.YtadenjlehhopmaaDoor
