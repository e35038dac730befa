/- Where a fault stands. Plain lists. -/
import Derived.Test.YtadenjlehhopmaaDoorP2
namespace Go.Proofs.YtadenjlehhopmaaDoor
set_option linter.unusedSimpArgs false
set_option linter.unusedVariables false
namespace Lx
theorem textG_place (q : UInt8) : ∀ (f : Nat) (l acc : Bs) (i : Nat) (c : Int) (r : Nat), textG q f l acc i = .bad c r → r = 0 ∨ (i ≤ r ∧ r < i + l.length)
  | 0, l, acc, i, c, r, h => by cases h; exact .inl rfl
  | f + 1, [], acc, i, c, r, h => by cases h; exact .inl rfl
  | f + 1, b :: t, acc, i, c, r, h => by
    simp only [textG] at h
    split at h
    · cases h; exact .inl rfl
    split at h
    · split at h
      · cases h; exact .inl rfl
      · cases h
    split at h
    · split at h
      · cases h; exact .inl rfl
      · cases h; exact .inr ⟨Nat.le_refl _, by simp⟩
      · rename_i e n he
        have h1 := escF_room t e n he
        rcases textG_place q f _ _ _ c r h with h2 | h2
        · exact .inl h2
        · rw [List.length_drop] at h2
          simp only [List.length_cons] at h2 ⊢
          exact .inr ⟨by omega, by omega⟩
    · rcases textG_place q f _ _ _ c r h with h2 | h2
      · exact .inl h2
      · simp only [List.length_cons]
        exact .inr ⟨by omega, by omega⟩
theorem bad_place (l : Bs) (c : Int) (r : Nat) (h : stepF l = .bad c r) : r < l.length := by
  unfold stepF at h
  by_cases h0 : l = []
  · rw [if_pos h0] at h; cases h
  rw [if_neg h0] at h
  have hl : 1 ≤ l.length := by cases l with | nil => exact absurd rfl h0 | cons => simp
  by_cases h1 : [45, 45].isPrefixOf l = true
  · rw [if_pos h1] at h; cases h
  rw [if_neg h1] at h
  by_cases h2 : letterR (decL l).1 = true
  · rw [if_pos h2] at h
    dsimp only at h
    split at h
    · cases h; omega
    · cases h
  rw [if_neg h2] at h
  by_cases h3 : digitR (decL l).1 = true
  · rw [if_pos h3] at h
    dsimp only at h
    split at h
    · cases h; omega
    · cases h
  rw [if_neg h3] at h
  split at h
  · split at h
    · rename_i c' r' hx
      cases h
      have := textG_place _ _ _ _ _ _ _ hx
      rw [List.length_tail] at this
      omega
    · cases h
  · split at h
    · cases h; omega
    · cases h
theorem scan_place : ∀ (n : Nat) (l : Bs) (at_ : Nat) (acc : List Tok) (c p : Int), l.length ≤ n → scanL l at_ acc = .inl (c, p) → at_ ≤ p ∧ p < at_ + l.length := by
  intro n
  induction n with
  | zero =>
    intro l at_ acc c p hn h
    have : l = [] := List.eq_nil_of_length_eq_zero (by omega)
    subst this
    rw [scanL_step] at h
    have e0 : stepF (([] : Bs).drop (runL blankR [])) = .done := rfl
    rw [e0] at h
    cases h
  | succ n ih =>
    intro l at_ acc c p hn h
    rw [scanL_step] at h
    have hk := runL_le' blankR l
    cases hst : stepF (l.drop (runL blankR l)) with
    | done => rw [hst] at h; cases h
    | bad c' r =>
      rw [hst] at h
      simp only [Sum.inl.injEq, Prod.mk.injEq] at h
      have := bad_place _ _ _ hst
      rw [List.length_drop] at this
      omega
    | skip q =>
      have := (stepF_take _).1 q hst
      rw [List.length_drop] at this
      rw [hst] at h
      have := ih _ _ _ _ _ (by rw [List.length_drop, List.length_drop]; omega) h
      rw [List.length_drop, List.length_drop] at this
      omega
    | tok kd tx x len =>
      have := (stepF_take _).2 _ _ _ _ hst
      rw [List.length_drop] at this
      rw [hst] at h
      have := ih _ _ _ _ _ (by rw [List.length_drop, List.length_drop]; omega) h
      rw [List.length_drop, List.length_drop] at this
      omega
/-- How many tokens there are at most, and where they stand. -/
theorem scan_count : ∀ (n : Nat) (l : Bs) (at_ : Nat) (acc t : List Tok), l.length ≤ n → scanL l at_ acc = .inr t → acc.length + 1 ≤ t.length ∧ t.length ≤ acc.length + l.length + 1 ∧ (∀ x ∈ t, x ∈ acc ∨ (at_ ≤ x.at_ ∧ x.at_ ≤ at_ + l.length)) := by
  intro n
  induction n with
  | zero =>
    intro l at_ acc t hn h
    have : l = [] := List.eq_nil_of_length_eq_zero (by omega)
    subst this
    rw [scanL_step] at h
    have e0 : stepF (([] : Bs).drop (runL blankR [])) = .done := rfl
    rw [e0] at h
    simp only [Sum.inr.injEq] at h
    subst h
    refine ⟨by simp, by simp, fun x hx => ?_⟩
    rcases List.mem_append.1 hx with hx | hx
    · exact .inl hx
    · simp only [List.mem_singleton] at hx
      subst hx
      exact .inr ⟨by simp, by simp [runL_nil]⟩
  | succ n ih =>
    intro l at_ acc t hn h
    rw [scanL_step] at h
    have hk := runL_le' blankR l
    cases hst : stepF (l.drop (runL blankR l)) with
    | done =>
      rw [hst] at h
      simp only [Sum.inr.injEq] at h
      subst h
      refine ⟨by simp, by simp, fun x hx => ?_⟩
      rcases List.mem_append.1 hx with hx | hx
      · exact .inl hx
      · simp only [List.mem_singleton] at hx
        subst hx
        exact .inr ⟨by simp, by simp; omega⟩
    | bad c' r => rw [hst] at h; cases h
    | skip q =>
      have := (stepF_take _).1 q hst
      rw [List.length_drop] at this
      rw [hst] at h
      obtain ⟨h1, h2, h3⟩ := ih _ _ _ _ (by rw [List.length_drop, List.length_drop]; omega) h
      rw [List.length_drop, List.length_drop] at h2 h3
      refine ⟨h1, by omega, fun x hx => ?_⟩
      rcases h3 x hx with h4 | h4
      · exact .inl h4
      · exact .inr ⟨by omega, by omega⟩
    | tok kd tx x len =>
      have := (stepF_take _).2 _ _ _ _ hst
      rw [List.length_drop] at this
      rw [hst] at h
      obtain ⟨h1, h2, h3⟩ := ih _ _ _ _ (by rw [List.length_drop, List.length_drop]; omega) h
      rw [List.length_drop, List.length_drop] at h2 h3
      rw [List.length_append, List.length_singleton] at h1 h2
      refine ⟨by omega, by omega, fun y hy => ?_⟩
      rcases h3 y hy with h4 | h4
      · rcases List.mem_append.1 h4 with h4 | h4
        · exact .inl h4
        · simp only [List.mem_singleton] at h4
          subst h4
          exact .inr ⟨by simp, by simp; omega⟩
      · exact .inr ⟨by omega, by omega⟩
end Lx
end Go.Proofs.YtadenjlehhopmaaDoor
