/- What a step takes. Plain lists. -/
import Derived.Test.YtadenjlehhopmaaDoorL0
namespace Go.Proofs.YtadenjlehhopmaaDoor
set_option linter.unusedSimpArgs false
set_option linter.unusedVariables false
namespace Lx
theorem runL_pos (p : Nat → Bool) (l : Bs) (hl : l ≠ []) (h : p (decL l).1 = true) : 1 ≤ runL p l := by
  rw [runL_step p l hl, if_pos h]
  have := (decL_width l).1
  omega
theorem stepF_skip (l : Bs) (n : Nat) (h : stepF l = .skip n) : 1 ≤ n ∧ n ≤ l.length := by
  unfold stepF at h
  by_cases h0 : l = []
  · rw [if_pos h0] at h; cases h
  rw [if_neg h0] at h
  by_cases h1 : [45, 45].isPrefixOf l = true
  · rw [if_pos h1] at h
    cases h
    refine ⟨runL_pos _ _ h0 ?_, runL_le' _ _⟩
    obtain ⟨t, rfl⟩ := List.isPrefixOf_iff_prefix.1 h1
    rfl
  · rw [if_neg h1] at h
    exfalso
    dsimp only at h
    (repeat' split at h) <;> cases h
theorem hexG_len : ∀ (m : Nat) (t : Bs) (n k : Nat), (hexG m t n k).2 ≤ k + t.length
  | 0, t, n, k => by simp [hexG]
  | m + 1, [], n, k => by simp [hexG]
  | m + 1, b :: t, n, k => by
    simp only [hexG]
    split
    · simp
    · rename_i d _
      have := hexG_len m t (16 * n + d) (k + 1)
      simp only [List.length_cons]; omega
theorem decG_len : ∀ (m : Nat) (t : Bs) (n k : Nat), (decG m t n k).2 ≤ k + t.length
  | 0, t, n, k => by simp [decG]
  | m + 1, [], n, k => by simp [decG]
  | m + 1, b :: t, n, k => by
    simp only [decG]
    split
    · have := decG_len m t (10 * n + (b.toNat - 48)) (k + 1)
      simp only [List.length_cons]; omega
    · simp
theorem hexG_ge : ∀ (m : Nat) (t : Bs) (n k : Nat), k ≤ (hexG m t n k).2
  | 0, t, n, k => by simp [hexG]
  | m + 1, [], n, k => by simp [hexG]
  | m + 1, b :: t, n, k => by
    simp only [hexG]
    split
    · simp
    · rename_i d _
      have := hexG_ge m t (16 * n + d) (k + 1)
      omega
theorem escF_room (l e : Bs) (n : Nat) (h : escF l = .ok e n) : 2 ≤ n ∧ n ≤ l.length + 1 := by
  cases l with
  | nil => cases h
  | cons c t =>
    simp only [escF] at h
    split at h
    · cases h; simp
    split at h
    · split at h
      · cases h
      · rename_i h2
        cases h
        have := hexG_len 2 t 0 0
        have : (hexG 2 t 0 0).2 ≤ 2 := by
          have hb : ∀ m (t : Bs) n k, (hexG m t n k).2 ≤ k + m := by
            intro m
            induction m with
            | zero => intros; simp [hexG]
            | succ m ih =>
              intro t n k
              cases t with
              | nil => simp [hexG]
              | cons b t =>
                simp only [hexG]
                split
                · simp
                · rename_i d _
                  have := ih t (16 * n + d) (k + 1)
                  omega
          exact hb 2 t 0 0
        simp only [List.length_cons]; omega
    split at h
    · rename_i h3
      split at h
      · cases h
      · rename_i h4
        simp only [Esc.ok.injEq] at h
        obtain ⟨-, rfl⟩ := h
        cases t with
        | nil => simp at h3
        | cons d t =>
          simp only [List.tail_cons, not_or, Decidable.not_not] at h4 ⊢
          have h5 := h4.2.2
          have : (hexG 8 t 0 0).2 < t.length := by
            rcases Nat.lt_or_ge (hexG 8 t 0 0).2 t.length with h | h
            · exact h
            · rw [List.drop_of_length_le h] at h5
              simp at h5
          simp only [List.length_cons]; omega
    · split at h
      · cases h
      · rename_i h4
        simp only [Esc.ok.injEq] at h
        obtain ⟨-, rfl⟩ := h
        have := decG_len 3 (c :: t) 0 0
        simp only [not_or] at h4
        omega
theorem textG_room (q : UInt8) : ∀ (f : Nat) (l acc : Bs) (i : Nat) (v : Bs) (k : Nat), textG q f l acc i = .ok v k → i < k ∧ k ≤ i + l.length
  | 0, l, acc, i, v, k, h => by cases h
  | f + 1, [], acc, i, v, k, h => by cases h
  | f + 1, b :: t, acc, i, v, k, h => by
    simp only [textG] at h
    split at h
    · cases h
    split at h
    · split at h
      · cases h
      · cases h; simp
    split at h
    · split at h
      · cases h
      · cases h
      · rename_i e n he
        have h1 := escF_room t e n he
        have h2 := textG_room q f _ _ _ v k h
        rw [List.length_drop] at h2
        simp only [List.length_cons] at h2 ⊢
        omega
    · have h2 := textG_room q f _ _ _ v k h
      simp only [List.length_cons]
      omega
theorem stepF_tok (l : Bs) (k : Int) (t : Bs) (n : Int) (len : Nat) (h : stepF l = .tok k t n len) : 1 ≤ len ∧ len ≤ l.length := by
  unfold stepF at h
  by_cases h0 : l = []
  · rw [if_pos h0] at h; cases h
  rw [if_neg h0] at h
  have hl : 1 ≤ l.length := by cases l with | nil => exact absurd rfl h0 | cons => simp
  by_cases h1 : [45, 45].isPrefixOf l = true
  · rw [if_pos h1] at h; cases h
  rw [if_neg h1] at h
  by_cases h2 : letterR (decL l).1 = true
  · rw [if_pos h2] at h
    dsimp only at h
    split at h
    · cases h
    · cases h
      exact ⟨runL_pos _ _ h0 (by unfold partR; rw [h2]; rfl), runL_le' _ _⟩
  rw [if_neg h2] at h
  by_cases h3 : digitR (decL l).1 = true
  · rw [if_pos h3] at h
    dsimp only at h
    split at h
    · cases h
    · cases h
      exact ⟨runL_pos _ _ h0 (by unfold partR; rw [h3]; simp), runL_le' _ _⟩
  rw [if_neg h3] at h
  split at h
  · split at h
    · cases h
    · rename_i v k' ht
      cases h
      have := textG_room _ _ _ _ _ _ _ ht
      rw [List.length_tail] at this
      omega
  · split at h
    · cases h
    · rename_i s hs
      cases h
      have hm := List.mem_of_find?_eq_some hs
      have hp := List.find?_some hs
      have : ∀ s ∈ signList, 1 ≤ s.length := by decide
      refine ⟨this _ hm, ?_⟩
      exact (List.isPrefixOf_iff_prefix.1 hp).length_le
theorem stepF_nil : stepF [] = .done := rfl
end Lx
end Go.Proofs.YtadenjlehhopmaaDoor
