/- Plain facts of the scanner: runs, numerals, one step. -/
import Derived.Test.YtadenjlehhopmaaDoorD1
import Derived.Test.YtadenjlehhopmaaDoorW1
namespace Go.Proofs.YtadenjlehhopmaaDoor
set_option linter.unusedSimpArgs false
set_option linter.unusedVariables false
namespace Lx
theorem scanG_succ (f : Nat) (l : Bs) (at_ : Nat) (acc : List Tok) : scanG (f + 1) l at_ acc =
    match stepF (l.drop (runL blankR l)) with
    | .done => .inr (acc ++ [⟨6, [], 0, at_ + runL blankR l⟩])
    | .skip n => scanG f ((l.drop (runL blankR l)).drop n) (at_ + runL blankR l + n) acc
    | .tok kind text n len => scanG f ((l.drop (runL blankR l)).drop len) (at_ + runL blankR l + len) (acc ++ [⟨kind, text, n, at_ + runL blankR l⟩])
    | .bad c r => .inl (c, (at_ + runL blankR l + r : Nat)) := rfl
theorem decL_low (b : UInt8) (t : Bs) (h : b.toNat < 128) : decL (b :: t) = (b.toNat, 1) := by
  unfold decL
  simp only [List.getD_cons_zero]
  rw [if_pos h]
def dig (b : UInt8) : Prop := 48 ≤ b.toNat ∧ b.toNat ≤ 57
theorem dig_part {b : UInt8} (h : dig b) : partR b.toNat = true ∧ digitR b.toNat = true ∧ letterR b.toNat = false := by
  obtain ⟨h1, h2⟩ := h
  have hd : digitR b.toNat = true := by simp [digitR, h1, h2]
  refine ⟨by simp [partR, hd], hd, ?_⟩
  unfold letterR
  simp
  omega
theorem run_digits (t : Bs) (ht : t = [] ∨ partR (decL t).1 = false) : ∀ l : Bs, (∀ b ∈ l, dig b) → runL partR (l ++ t) = l.length
  | [], _ => by
    rcases ht with rfl | ht
    · rfl
    · cases t with
      | nil => rfl
      | cons a t => rw [List.nil_append, runL_step _ _ (by simp), ht]; rfl
  | b :: l, h => by
    have hb := h b (by simp)
    rw [List.cons_append, runL_step _ _ (by simp), decL_low b _ (by obtain ⟨_, h2⟩ := hb; omega)]
    simp only [(dig_part hb).1, if_true, List.drop_succ_cons, List.drop_zero]
    rw [run_digits t ht l (fun x hx => h x (by simp [hx]))]
    simp only [List.length_cons]; omega
theorem size_digits : ∀ (l : Bs) (f n : Nat), l.length ≤ f → (∀ b ∈ l, dig b) → sizeG false f n l = some (l.foldl (fun n b => min (10 * n + (b.toNat - 48)) 18446744073709551615) n)
  | [], 0, n, _, _ => rfl
  | [], f + 1, n, _, _ => rfl
  | b :: l, 0, n, h, _ => by simp at h
  | b :: l, f + 1, n, h, hd => by
    have hb := hd b (by simp)
    obtain ⟨h1, h2⟩ := hb
    simp only [sizeG]
    rw [decL_low b _ (by omega)]
    have e : digR b.toNat = some (b.toNat - 48) := by unfold digR; rw [if_pos ⟨h1, h2⟩]
    rw [e]
    simp only [List.drop_succ_cons, List.drop_zero, Bool.not_false, Bool.and_true, decide_eq_true_eq, Bool.false_eq_true, if_false]
    rw [if_neg (by omega)]
    exact size_digits l f _ (by simpa using h) (fun x hx => hd x (by simp [hx]))
end Lx
open Lx
theorem decR_dig : ∀ f m, ∀ b ∈ decR f m, dig b
  | 0, m => by simp [decR]
  | f + 1, m => by
    unfold decR
    split
    · simp
    · intro b hb
      rcases List.mem_cons.1 hb with rfl | hb
      · unfold dig
        rw [UInt8.toNat_ofNat']
        omega
      · exact decR_dig f _ b hb
theorem decR_val : ∀ f m, m < 10 ^ f → m ≤ 18446744073709551615 → (decR f m).foldr (fun b n => min (10 * n + (b.toNat - 48)) 18446744073709551615) 0 = m
  | 0, m, h, _ => by simp at h; subst h; rfl
  | f + 1, m, h, hm => by
    unfold decR
    split
    · rename_i h0; subst h0; rfl
    · rw [List.foldr_cons, decR_val f (m / 10) (by rw [Nat.pow_succ] at h; omega) (by omega), UInt8.toNat_ofNat']
      omega
theorem decD_dig (n : Nat) : ∀ b ∈ decD n, dig b := by
  unfold decD
  split
  · intro b hb
    simp only [List.mem_singleton] at hb
    subst hb
    exact ⟨by decide, by decide⟩
  · intro b hb
    exact decR_dig _ _ b (List.mem_reverse.1 hb)
theorem decD_ne (n : Nat) : decD n ≠ [] := by
  unfold decD
  split
  · simp
  · rename_i h
    intro h2
    have h3 : decR 20 n = [] := by simpa using h2
    unfold decR at h3
    rw [if_neg h] at h3
    cases h3
theorem decD_len (n : Nat) : (decD n).length ≤ 20 := by
  unfold decD
  split
  · simp
  · rw [List.length_reverse]; exact decR_len _ _
theorem hexHead_dig (l : Bs) (h : ∀ b ∈ l, dig b) : hexHead l = false := by
  unfold hexHead
  have key : ∀ c : UInt8, 57 < c.toNat → [48, c].isPrefixOf l = false := fun c hc => by
    rw [Bool.eq_false_iff]
    intro hp
    obtain ⟨t, rfl⟩ := List.isPrefixOf_iff_prefix.1 hp
    have := h c (by simp)
    obtain ⟨_, h2⟩ := this
    omega
  rw [key 120 (by decide), key 88 (by decide)]
  rfl
theorem parse_decD (n : Nat) (hn : n < 9223372036854775808) : parseF (decD n) = ((n : Int), 0) := by
  have hd := decD_dig n
  have hval : (decD n).foldl (fun n b => min (10 * n + (b.toNat - 48)) 18446744073709551615) 0 = n := by
    unfold decD
    split
    · rename_i h; subst h; rfl
    · rw [List.foldl_reverse]
      exact decR_val 20 n (by omega) (by omega)
  unfold parseF
  rw [hexHead_dig _ hd]
  simp only [Bool.false_eq_true, if_false, Bool.not_false, Bool.true_and, decide_eq_true_eq]
  rw [if_neg (decD_ne n)]
  have hs : sizeL false 0 (decD n) = some n := by
    unfold sizeL
    rw [size_digits _ _ 0 (Nat.le_refl _) hd, hval]
  rw [hs]
  simp only
  rw [if_neg (by omega)]
  simp only [sint]
  rw [if_pos hn]
theorem scan_numbers (n : Nat) (hn : n < 9223372036854775808) :
    scanF ([32, 45] ++ decD n ++ [10]) = .inr [⟨5, [45], 0, 1⟩, ⟨3, decD n, n, 2⟩, ⟨6, [], 0, (decD n).length + 3⟩] := by
  have hd := decD_dig n
  have hl := decD_len n
  have hp := parse_decD n hn
  have hne := decD_ne n
  generalize decD n = D at *
  obtain ⟨d, T, rfl⟩ : ∃ d T, D = d :: T := by
    cases D with
    | nil => exact absurd rfl hne
    | cons d T => exact ⟨d, T, rfl⟩
  have hdd := hd d (by simp)
  obtain ⟨hd1, hd2⟩ := hdd
  have hrun := run_digits [10] (.inr (by decide)) (d :: T) hd
  have hlow : ∀ t : Bs, decL (d :: t) = (d.toNat, 1) := fun t => decL_low d t (by omega)
  have hdn : ∀ k : UInt8, k.toNat < 48 → (k == d) = false := fun k hk => by
    rw [beq_eq_false_iff_ne]
    rintro rfl
    omega
  have hstep1 : stepF (45 :: d :: (T ++ [10])) = .tok 5 [45] 0 1 := by
    unfold stepF
    rw [if_neg (by simp), if_neg (by simp [List.isPrefixOf, hdn 45 (by decide)]), decL_low 45 _ (by decide)]
    rw [if_neg (by decide), if_neg (by decide), if_neg (by decide)]
    have : signF (45 :: d :: (T ++ [10])) = some [45] := by
      unfold signF signList
      simp [List.find?, List.isPrefixOf]
    rw [this]
    rfl
  have hstep2 : stepF (d :: (T ++ [10])) = .tok 3 (d :: T) n (d :: T).length := by
    unfold stepF
    have hpre : [45, 45].isPrefixOf (d :: (T ++ [10])) = false := by simp [List.isPrefixOf, hdn 45 (by decide)]
    rw [if_neg (by simp), if_neg (by rw [hpre]; simp), hlow]
    have hdp := dig_part (b := d) ⟨hd1, hd2⟩
    simp only [hdp.2.1, hdp.2.2, if_true, Bool.false_eq_true, if_false]
    have e : runL partR (d :: (T ++ [10])) = (d :: T).length := hrun
    rw [e]
    have et : (d :: (T ++ [10])).take (d :: T).length = d :: T := by
      rw [← List.cons_append, List.take_left']
      rfl
    rw [et, hp]
    simp
  have hb1 : runL blankR (32 :: 45 :: d :: (T ++ [10])) = 1 := by
    rw [runL_step _ _ (by simp), decL_low 32 _ (by decide)]
    rw [if_pos (by decide)]
    simp only [List.drop_succ_cons, List.drop_zero]
    rw [runL_step _ _ (by simp), decL_low 45 _ (by decide), if_neg (by decide)]
  have hb2 : runL blankR (d :: (T ++ [10])) = 0 := by
    rw [runL_step _ _ (by simp), hlow, if_neg]
    simp [blankR]
    omega
  have hb3 : runL blankR [10] = 1 := by decide
  have elist : ([32, 45] ++ d :: T ++ [10] : Bs) = 32 :: 45 :: d :: (T ++ [10]) := by simp
  have elen : (32 :: 45 :: d :: (T ++ [10]) : Bs).length + 1 = (T.length + 2) + 1 + 1 + 1 := by simp
  have ed : (d :: (T ++ [10])).drop (d :: T).length = [10] := by
    rw [← List.cons_append, List.drop_left']
    rfl
  have e0 : stepF (([10] : Bs).drop 1) = .done := rfl
  unfold scanF
  rw [elist, elen, if_neg (by simp only [List.length_cons, List.length_append, List.length_nil] at *; omega)]
  rw [scanG_succ, hb1, List.drop_succ_cons, List.drop_zero, hstep1]
  simp only
  rw [List.drop_succ_cons, List.drop_zero, scanG_succ, hb2, List.drop_zero, hstep2]
  simp only
  rw [ed, scanG_succ, hb3, e0]
  simp only
  have ea : 0 + 1 + 1 + 0 + (d :: T).length + 1 = (d :: T).length + 3 := by omega
  rw [ea]
  rfl
end Go.Proofs.YtadenjlehhopmaaDoor
