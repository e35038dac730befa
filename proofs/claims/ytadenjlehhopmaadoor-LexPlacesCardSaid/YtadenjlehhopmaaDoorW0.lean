/- The words of 'name': a text without blanks is in the spaced list iff it is one of the words. Plain lists. -/
import Derived.Test.YtadenjlehhopmaaDoorL0
import Derived.Lib.IndexMore
namespace Go.Proofs.YtadenjlehhopmaaDoor
set_option linter.unusedSimpArgs false
set_option linter.unusedVariables false
namespace Lx
def spaced (ws : List Bs) : Bs := 32 :: ws.flatMap (· ++ [32])
theorem split_unique : ∀ (t w x y : Bs), (∀ b ∈ t, b ≠ 32) → (∀ b ∈ w, b ≠ 32) → t ++ 32 :: x = w ++ 32 :: y → t = w
  | [], [], _, _, _, _, _ => rfl
  | [], c :: w, x, y, _, hw, h => by
    simp only [List.nil_append, List.cons_append, List.cons.injEq] at h
    exact absurd h.1.symm (hw c (by simp))
  | c :: t, [], x, y, ht, _, h => by
    simp only [List.nil_append, List.cons_append, List.cons.injEq] at h
    exact absurd h.1 (ht c (by simp))
  | c :: t, d :: w, x, y, ht, hw, h => by
    simp only [List.cons_append, List.cons.injEq] at h
    rw [h.1, split_unique t w x y (fun b hb => ht b (by simp [hb])) (fun b hb => hw b (by simp [hb])) h.2]
theorem infix_past (sub rest : Bs) : ∀ (w a b : Bs), (∀ c ∈ w, c ≠ 32) → sub.head? = some 32 → a ++ sub ++ b = w ++ rest → sub <:+: rest
  | [], a, b, _, _, h => ⟨a, b, h⟩
  | c :: w, [], b, hw, hs, h => by
    cases sub with
    | nil => simp at hs
    | cons d s =>
      simp only [List.head?_cons, Option.some.injEq] at hs
      simp only [List.nil_append, List.cons_append, List.cons.injEq] at h
      exact absurd (h.1.symm.trans hs) (hw c (by simp))
  | c :: w, d :: a, b, hw, hs, h => by
    simp only [List.cons_append, List.cons.injEq] at h
    exact infix_past sub rest w a b (fun x hx => hw x (by simp [hx])) hs h.2
theorem spaced_cons (w : Bs) (ws : List Bs) : spaced (w :: ws) = 32 :: (w ++ spaced ws) := by simp [spaced]
theorem infix_word (t : Bs) (ht : ∀ b ∈ t, b ≠ 32) : ∀ ws : List Bs, (∀ w ∈ ws, ∀ b ∈ w, b ≠ 32) → ((32 :: t ++ [32]) <:+: spaced ws) → t ∈ ws
  | [], _, h => by
    have := h.length_le
    simp [spaced] at this
  | w :: ws, hws, h => by
    obtain ⟨a, b, h⟩ := h
    rw [spaced_cons] at h
    cases a with
    | nil =>
      simp only [List.nil_append, List.cons_append, List.append_assoc, List.cons.injEq, true_and] at h
      rw [split_unique t w b (ws.flatMap (· ++ [32])) ht (hws w (by simp)) h]
      simp
    | cons c a =>
      simp only [List.cons_append, List.cons.injEq] at h
      have := infix_past (32 :: t ++ [32]) (spaced ws) w a b (hws w (by simp)) rfl (by simpa using h.2)
      exact List.mem_cons_of_mem _ (infix_word t ht ws (fun x hx => hws x (by simp [hx])) this)
theorem word_infix (t : Bs) : ∀ ws : List Bs, t ∈ ws → ((32 :: t ++ [32]) <:+: spaced ws)
  | w :: ws, h => by
    rw [spaced_cons]
    rcases List.mem_cons.1 h with h | h
    · subst h
      exact ⟨[], ws.flatMap (· ++ [32]), by simp [spaced]⟩
    · obtain ⟨a, b, e⟩ := word_infix t ws h
      exact ⟨32 :: w ++ a, b, by simp only [List.append_assoc, List.cons_append] at *; rw [e]⟩
theorem contains_infix (s sub : Bs) : Lib.contains s sub = true ↔ sub <:+: s := by
  unfold Lib.contains
  rw [decide_eq_true_iff]
  rcases Lib.index_spec s sub with ⟨h1, h2⟩ | ⟨i, h1, h2, h3, _⟩
  · constructor
    · intro h; omega
    · rintro ⟨a, b, e⟩
      have h3 := h2 a.length (by rw [← e]; simp)
      rw [← e] at h3
      simp only [Lib.occAt, List.append_assoc, List.drop_left] at h3
      rw [List.isPrefixOf_iff_prefix.2 ⟨b, rfl⟩] at h3
      exact absurd h3 (by decide)
  · constructor
    · intro _
      have := List.isPrefixOf_iff_prefix.1 h3
      obtain ⟨b, hb⟩ := this
      exact ⟨s.take i, b, by rw [List.append_assoc, hb, List.take_append_drop]⟩
    · intro _; omega
def wordBytes : Bs := spaced wordList
theorem contains_word (t : Bs) (ht : ∀ b ∈ t, b ≠ 32) : Lib.contains wordBytes (32 :: t ++ [32]) = isWordF t := by
  have hws : ∀ w ∈ wordList, ∀ b ∈ w, b ≠ 32 := by decide
  rw [Bool.eq_iff_iff, contains_infix]
  unfold isWordF
  rw [List.contains_iff_mem]
  exact ⟨infix_word t ht _ hws, word_infix t _⟩
theorem decL_no32 (p : Nat → Bool) (hp1 : p 32 = false) (hp2 : p 65533 = false) (l : Bs) (h : p (decL l).1 = true) : ∀ b ∈ l.take (decL l).2, b ≠ 32 := by
  intro b hb
  obtain ⟨i, hi⟩ := List.mem_iff_getElem?.1 hb
  rw [List.getElem?_take] at hi
  split at hi
  case isFalse => exact absurd hi (by simp)
  rename_i hlt
  have hg : l.getD i 0 = b := by rw [List.getD_eq_getElem?_getD, hi]; rfl
  rintro rfl
  have hg2 : (l.getD i 0).toNat = 32 := by rw [hg]; rfl
  clear hb hi hg
  unfold decL at h hlt
  dsimp only at h hlt
  have hi4 : i = 0 ∨ i = 1 ∨ i = 2 ∨ 3 ≤ i := by omega
  split at h
  · rename_i h0
    rw [if_pos h0] at hlt
    have : i = 0 := by simpa using hlt
    subst this
    rw [hg2] at h
    exact absurd h (by simp [hp1])
  · rename_i h0
    rw [if_neg h0] at hlt
    have hne : i ≠ 0 := by rintro rfl; omega
    split at h
    · rename_i h1
      rw [if_pos h1] at hlt
      simp only [Bool.and_eq_true, beq_iff_eq, decide_eq_true_eq] at h1
      split at h
      · rename_i h2; rw [if_pos h2] at hlt
        rcases hi4 with rfl | rfl | rfl | hi4 <;> dsimp only at hlt <;> omega
      · exact absurd h (by simp [hp2])
    · rename_i h1
      rw [if_neg h1] at hlt
      split at h
      · rename_i h1
        rw [if_pos h1] at hlt
        simp only [Bool.and_eq_true, beq_iff_eq, decide_eq_true_eq] at h1
        split at h
        · rename_i h2; rw [if_pos h2] at hlt
          rcases hi4 with rfl | rfl | rfl | hi4 <;> dsimp only at hlt <;> omega
        · exact absurd h (by simp [hp2])
      · rename_i h1
        rw [if_neg h1] at hlt
        split at h
        · rename_i h1
          rw [if_pos h1] at hlt
          simp only [Bool.and_eq_true, beq_iff_eq, decide_eq_true_eq] at h1
          split at h
          · rename_i h2; rw [if_pos h2] at hlt
            have : i = 3 ∨ 4 ≤ i ∨ i < 3 := by omega
            rcases hi4 with rfl | rfl | rfl | hi4 <;> dsimp only at hlt <;> try omega
            have : i = 3 := by omega
            subst this; omega
          · exact absurd h (by simp [hp2])
        · exact absurd h (by simp [hp2])
theorem runL_no32 (p : Nat → Bool) (hp1 : p 32 = false) (hp2 : p 65533 = false) : ∀ (n : Nat) (l : Bs), l.length ≤ n → ∀ b ∈ l.take (runL p l), b ≠ 32
  | 0, l, h => by
    have : l = [] := List.eq_nil_of_length_eq_zero (by omega)
    subst this; simp
  | n + 1, l, h => by
    by_cases hl : l = []
    · subst hl; simp
    · rw [runL_step p l hl]
      have hw := decL_width l
      split
      · rename_i hp
        rw [List.take_add]
        intro b hb
        rcases List.mem_append.1 hb with hb | hb
        · exact decL_no32 p hp1 hp2 l hp b hb
        · exact runL_no32 p hp1 hp2 n (l.drop (decL l).2) (by rw [List.length_drop]; have := hw.2.2 hl; omega) b hb
      · simp
end Lx
end Go.Proofs.YtadenjlehhopmaaDoor
