/- Two texts with a gap between. Plain lists. -/
import Derived.Test.YtadenjlehhopmaaDoorP1
namespace Go.Proofs.YtadenjlehhopmaaDoor
set_option linter.unusedSimpArgs false
set_option linter.unusedVariables false
namespace Lx
def blankB (b : UInt8) : Bool := b == 32 || b == 9 || b == 10 || b == 13
theorem blank_low {b : UInt8} (h : blankB b = true) : b.toNat < 128 ∧ blankR b.toNat = true := by
  simp only [blankB, Bool.or_eq_true, beq_iff_eq] at h
  rcases h with ((rfl | rfl) | rfl) | rfl <;> decide
theorem blank_of {b : UInt8} (h : blankR b.toNat = true) : blankB b = true := by
  simp only [blankR, Bool.or_eq_true, beq_iff_eq] at h
  simp only [blankB, Bool.or_eq_true, beq_iff_eq]
  rcases h with ((h | h) | h) | h
  · exact .inl (.inl (.inl (UInt8.toNat_inj.1 h)))
  · exact .inl (.inl (.inr (UInt8.toNat_inj.1 h)))
  · exact .inl (.inr (UInt8.toNat_inj.1 h))
  · exact .inr (UInt8.toNat_inj.1 h)
theorem run_blanks (x : Bs) : ∀ bl : Bs, (∀ b ∈ bl, blankB b = true) → runL blankR (bl ++ x) = bl.length + runL blankR x
  | [], _ => by simp
  | b :: bl, h => by
    have hb := blank_low (h b (by simp))
    rw [List.cons_append, runL_step _ _ (by simp), decL_low b _ hb.1]
    simp only [hb.2, if_true, List.drop_succ_cons, List.drop_zero]
    rw [run_blanks x bl (fun y hy => h y (by simp [hy]))]
    simp only [List.length_cons]; omega
/-- An ASCII byte among a rune's bytes is the rune. -/
theorem decL_bytes (l : Bs) (b : UInt8) (hb : b ∈ l.take (decL l).2) (hlow : b.toNat < 128) : (decL l).1 = b.toNat ∧ (decL l).2 = 1 := by
  obtain ⟨i, hi⟩ := List.mem_iff_getElem?.1 hb
  rw [List.getElem?_take] at hi
  split at hi
  case isFalse => exact absurd hi (by simp)
  rename_i hlt
  have hg : l.getD i 0 = b := by rw [List.getD_eq_getElem?_getD, hi]; rfl
  have hg2 : (l.getD i 0).toNat = b.toNat := by rw [hg]
  clear hb hi hg
  unfold decL at hlt ⊢
  dsimp only at hlt ⊢
  have hi4 : i = 0 ∨ i = 1 ∨ i = 2 ∨ 3 ≤ i := by omega
  by_cases h0 : (l.getD 0 0).toNat < 128
  · rw [if_pos h0] at hlt ⊢
    have : i = 0 := by simpa using hlt
    subst this
    exact ⟨hg2, rfl⟩
  · rw [if_neg h0] at hlt
    have hne : i ≠ 0 := by rintro rfl; omega
    exfalso
    split at hlt
    · rename_i h1
      simp only [Bool.and_eq_true, beq_iff_eq, decide_eq_true_eq] at h1
      split at hlt <;> dsimp only at hlt
      · rcases hi4 with rfl | rfl | rfl | hi4 <;> omega
      · omega
    · split at hlt
      · rename_i h1
        simp only [Bool.and_eq_true, beq_iff_eq, decide_eq_true_eq] at h1
        split at hlt <;> dsimp only at hlt
        · rcases hi4 with rfl | rfl | rfl | hi4 <;> omega
        · omega
      · split at hlt
        · rename_i h1
          simp only [Bool.and_eq_true, beq_iff_eq, decide_eq_true_eq] at h1
          split at hlt <;> dsimp only at hlt
          · have hi5 : i = 1 ∨ i = 2 ∨ i = 3 := by omega
            rcases hi5 with rfl | rfl | rfl <;> omega
          · omega
        · dsimp only at hlt; omega
/-- A run's bytes: the ASCII ones among them are of its sort. -/
theorem run_bytes (p : Nat → Bool) : ∀ (n : Nat) (l : Bs), l.length ≤ n → ∀ b ∈ l.take (runL p l), b.toNat < 128 → p b.toNat = true
  | 0, l, h => by
    have : l = [] := List.eq_nil_of_length_eq_zero (by omega)
    subst this; simp
  | n + 1, l, h => by
    by_cases hl : l = []
    · subst hl; simp
    · rw [runL_step p l hl]
      have hw := decL_width l
      split
      · rename_i hp
        rw [List.take_add]
        intro b hb hlow
        rcases List.mem_append.1 hb with hb | hb
        · rw [← (decL_bytes l b hb hlow).1]; exact hp
        · exact run_bytes p n (l.drop (decL l).2) (by rw [List.length_drop]; have := hw.2.2 hl; omega) b hb hlow
      · simp
theorem blank_bytes : ∀ (n : Nat) (l : Bs), l.length ≤ n → ∀ b ∈ l.take (runL blankR l), blankB b = true
  | 0, l, h => by
    have : l = [] := List.eq_nil_of_length_eq_zero (by omega)
    subst this; simp
  | n + 1, l, h => by
    by_cases hl : l = []
    · subst hl; simp
    · obtain ⟨c, t, rfl⟩ : ∃ c t, l = c :: t := by cases l with | nil => exact absurd rfl hl | cons c t => exact ⟨c, t, rfl⟩
      rw [runL_step _ _ hl]
      split
      · rename_i hp
        have hlow : (decL (c :: t)).1 < 128 := by
          simp only [blankR, Bool.or_eq_true, beq_iff_eq] at hp
          omega
        have hc : c.toNat < 128 := by
          have h1 : c.toNat = (decL (c :: t)).1 := decL_ascii (c :: t) hlow
          omega
        rw [decL_low c t hc] at hp ⊢
        simp only [List.drop_succ_cons, List.drop_zero]
        rw [Nat.add_comm, List.take_succ_cons]
        intro b hb
        rcases List.mem_cons.1 hb with rfl | hb
        · exact blank_of hp
        · exact blank_bytes n t (by simpa using h) b hb
      · simp
theorem scanL_blanks (x : Bs) (at_ : Nat) (acc : List Tok) (bl : Bs) (h : ∀ b ∈ bl, blankB b = true) : scanL (bl ++ x) at_ acc = scanL x (at_ + bl.length) acc := by
  rw [scanL_step (bl ++ x), scanL_step x, run_blanks x bl h]
  have e : (bl ++ x).drop (bl.length + runL blankR x) = x.drop (runL blankR x) := by
    rw [← List.drop_drop, List.drop_left']
    rfl
  rw [e, Nat.add_assoc]
/-- No comment runs into the end. -/
def Closed' (a : Bs) : Prop := ∀ i, [45, 45].isPrefixOf (a.drop i) = true → 10 ∈ a.drop i
theorem Closed'.drop {a : Bs} (h : Closed' a) (k : Nat) : Closed' (a.drop k) := fun i hi => by
  rw [List.drop_drop] at hi ⊢
  exact h _ hi
theorem skip_stops (l : Bs) (h : (10 : UInt8) ∈ l) : runL inLineR l < l.length := by
  rcases Nat.lt_or_ge (runL inLineR l) l.length with h' | h'
  · exact h'
  · have := run_bytes inLineR l.length l (Nat.le_refl _) 10 (by rw [List.take_of_length_le h']; exact h) (by decide)
    exact absurd this (by decide)
theorem skip_is {l : Bs} {n : Nat} (h : stepF l = .skip n) : l ≠ [] ∧ [45, 45].isPrefixOf l = true ∧ n = runL inLineR l := by
  unfold stepF at h
  by_cases h0 : l = []
  · rw [if_pos h0] at h; cases h
  rw [if_neg h0] at h
  by_cases h1 : [45, 45].isPrefixOf l = true
  · rw [if_pos h1] at h
    cases h
    exact ⟨h0, h1, rfl⟩
  · rw [if_neg h1] at h
    exfalso
    dsimp only at h
    (repeat' split at h) <;> cases h
theorem done_is {l : Bs} (h : stepF l = .done) : l = [] := by
  unfold stepF at h
  by_cases h0 : l = []
  · exact h0
  · rw [if_neg h0] at h
    exfalso
    dsimp only at h
    (repeat' split at h) <;> cases h
theorem gap_blank (r : Bs) (hr : Gap r) : ∀ l : Bs, True := fun _ => trivial
theorem scanL_append (r : Bs) (hr : Gap r) : ∀ (n : Nat) (l : Bs) (at_ : Nat) (acc toks : List Tok), l.length ≤ n → Closed' l → scanL l at_ acc = .inr toks →
    ∃ acc', toks = acc' ++ [⟨6, [], 0, at_ + l.length⟩] ∧ scanL (l ++ r) at_ acc = scanL r (at_ + l.length) acc' := by
  intro n
  induction n with
  | zero =>
    intro l at_ acc toks hn hc h
    have : l = [] := List.eq_nil_of_length_eq_zero (by omega)
    subst this
    refine ⟨acc, ?_, by simp⟩
    rw [scanL_step] at h
    have e0 : stepF (([] : Bs).drop (runL blankR [])) = .done := rfl
    rw [e0] at h
    simp only [Sum.inr.injEq] at h
    exact h.symm
  | succ n ih =>
    intro l at_ acc toks hn hc h
    have hk := runL_le' blankR l
    have hbl := blank_bytes l.length l (Nat.le_refl _)
    obtain ⟨k, hk0⟩ : ∃ k, runL blankR l = k := ⟨_, rfl⟩
    have hsplit : l = l.take k ++ l.drop k := (List.take_append_drop k l).symm
    have hlt : (l.take k).length = k := by rw [List.length_take]; omega
    rw [hk0] at hbl hk
    -- the blanks ahead go
    have e1 : scanL l at_ acc = scanL (l.drop k) (at_ + k) acc := by
      have := scanL_blanks (l.drop k) at_ acc (l.take k) hbl
      rw [← hsplit, hlt] at this
      exact this
    have e2 : scanL (l ++ r) at_ acc = scanL (l.drop k ++ r) (at_ + k) acc := by
      have := scanL_blanks (l.drop k ++ r) at_ acc (l.take k) hbl
      rw [← List.append_assoc, ← hsplit, hlt] at this
      exact this
    have hr0 : runL blankR (l.drop k) = 0 := by
      have h1 := run_blanks (l.drop k) (l.take k) hbl
      rw [← hsplit, hlt, hk0] at h1
      omega
    have hlen : at_ + l.length = at_ + k + (l.drop k).length := by rw [List.length_drop]; omega
    rw [e1] at h
    rw [e2, hlen]
    have hc' := hc.drop k
    have hn' : (l.drop k).length ≤ n + 1 := by rw [List.length_drop]; omega
    generalize l.drop k = m at *
    generalize at_ + k = p at *
    clear e1 e2 hsplit hlt hbl hlen hk0 hk hc hn
    rw [scanL_step, hr0, List.drop_zero, Nat.add_zero] at h
    cases hst : stepF m with
    | done =>
      have := done_is hst
      subst this
      rw [hst] at h
      simp only [Sum.inr.injEq] at h
      exact ⟨acc, by simpa using h.symm, by simp⟩
    | bad c rel => rw [hst] at h; cases h
    | skip q =>
      rw [hst] at h
      simp only at h
      obtain ⟨hm, hpre, hq⟩ := skip_is hst
      have hq2 : q < m.length := by rw [hq]; exact skip_stops m (hc' 0 hpre)
      have hq1 := ((stepF_take m).1 q hst).1
      obtain ⟨acc', ht, hs⟩ := ih (m.drop q) (p + q) acc toks (by rw [List.length_drop]; omega) (hc'.drop q) h
      have e : p + q + (m.drop q).length = p + m.length := by rw [List.length_drop]; omega
      rw [e] at ht hs
      refine ⟨acc', ht, ?_⟩
      have hrr : runL blankR (m ++ r) = 0 := by
        rw [runL_append blankR r hr.low m.length m (Nat.le_refl _) (.inl (by rw [hr0]; omega)), hr0]
      rw [scanL_step, hrr, List.drop_zero, Nat.add_zero, skip_append m r hm hr q hst hq2]
      simp only
      rw [drop_app _ _ _ (by omega)]
      exact hs
    | tok kd tx x len =>
      rw [hst] at h
      simp only at h
      have hl := (stepF_take m).2 _ _ _ _ hst
      have hm : m ≠ [] := by rintro rfl; simp at hl; omega
      obtain ⟨acc', ht, hs⟩ := ih (m.drop len) (p + len) _ toks (by rw [List.length_drop]; omega) (hc'.drop len) h
      have e : p + len + (m.drop len).length = p + m.length := by rw [List.length_drop]; omega
      rw [e] at ht hs
      refine ⟨acc', ht, ?_⟩
      have hrr : runL blankR (m ++ r) = 0 := by
        rw [runL_append blankR r hr.low m.length m (Nat.le_refl _) (.inl (by rw [hr0]; omega)), hr0]
      rw [scanL_step, hrr, List.drop_zero, Nat.add_zero, stepF_append m r hm hr _ _ _ _ hst]
      simp only
      rw [drop_app _ _ _ (by omega)]
      exact hs
/-- Tokens d bytes on. -/
def shift (d : Nat) (t : Tok) : Tok := { t with at_ := t.at_ + d }
theorem scanL_shift (d : Nat) : ∀ (n : Nat) (l : Bs) (at_ : Nat) (acc acc1 : List Tok), l.length ≤ n →
    scanL l (at_ + d) (acc ++ acc1.map (shift d)) = match scanL l at_ acc1 with | .inl (c, a) => .inl (c, a + d) | .inr t => .inr (acc ++ t.map (shift d)) := by
  intro n
  induction n with
  | zero =>
    intro l at_ acc acc1 hn
    have : l = [] := List.eq_nil_of_length_eq_zero (by omega)
    subst this
    rw [scanL_step, scanL_step]
    have e0 : stepF (([] : Bs).drop (runL blankR [])) = .done := rfl
    rw [e0]
    simp [shift, runL_nil]
  | succ n ih =>
    intro l at_ acc acc1 hn
    rw [scanL_step, scanL_step]
    have hk := runL_le' blankR l
    cases hst : stepF (l.drop (runL blankR l)) with
    | done => simp [shift, Nat.add_right_comm]
    | bad c r => simp; omega
    | skip q =>
      have := (stepF_take _).1 q hst
      rw [List.length_drop] at this
      simp only
      rw [show at_ + d + runL blankR l + q = at_ + runL blankR l + q + d by omega]
      exact ih _ _ _ _ (by rw [List.length_drop, List.length_drop]; omega)
    | tok kd tx x len =>
      have := (stepF_take _).2 _ _ _ _ hst
      rw [List.length_drop] at this
      simp only
      rw [show at_ + d + runL blankR l + len = at_ + runL blankR l + len + d by omega]
      have := ih ((l.drop (runL blankR l)).drop len) (at_ + runL blankR l + len) acc (acc1 ++ [⟨kd, tx, x, at_ + runL blankR l⟩]) (by rw [List.length_drop, List.length_drop]; omega)
      rw [← this]
      congr 1
      simp [shift, Nat.add_right_comm]
/-! The four gaps -/
def gapG (k : Nat) : Bs := match k with | 1 => [10, 9, 13, 32] | 2 => [32, 45, 45, 255, 32, 39, 97, 10] | 3 => [10, 45, 45, 10, 45, 45, 120, 10] | _ => [32]
theorem gapG_gap (k : Nat) (b : Bs) : Gap (gapG k ++ b) := by
  unfold gapG
  split
  · exact ⟨10, _, rfl, .inr rfl⟩
  · exact ⟨32, _, rfl, .inl rfl⟩
  · exact ⟨10, _, rfl, .inr rfl⟩
  · exact ⟨32, _, rfl, .inl rfl⟩
theorem run_line (w : Bs) (b : Bs) : (∀ x ∈ w, x.toNat < 128 ∧ x ≠ 10) → runL inLineR (w ++ 10 :: b) = w.length := by
  induction w with
  | nil =>
    intro _
    rw [List.nil_append, runL_step _ _ (by simp), decL_low 10 b (by decide)]
    rfl
  | cons c w ih =>
    intro h
    have hc := h c (by simp)
    have h10 : inLineR c.toNat = true := by
      unfold inLineR
      rw [bne_iff_ne]
      intro e
      exact hc.2 (UInt8.toNat_inj.1 e)
    rw [List.cons_append, runL_step _ _ (by simp), decL_low c _ hc.1]
    simp only [h10, if_true, List.drop_succ_cons, List.drop_zero]
    rw [ih (fun x hx => h x (by simp [hx]))]
    simp only [List.length_cons]; omega
theorem skip_step (w b : Bs) (p : Nat) (acc : List Tok) (n : Nat) (h : runL inLineR (45 :: 45 :: w) = n) (hd : (45 :: 45 :: w).drop n = 10 :: b) : scanL (45 :: 45 :: w) p acc = scanL b (p + n + 1) acc := by
  rw [scanL_step]
  have h0 : runL blankR (45 :: 45 :: w) = 0 := by
    rw [runL_step _ _ (by simp), decL_low 45 _ (by decide)]
    rfl
  rw [h0, List.drop_zero, Nat.add_zero]
  have hs : stepF (45 :: 45 :: w) = .skip n := by
    unfold stepF
    rw [if_neg (by simp), if_pos (by simp [List.isPrefixOf]), h]
  rw [hs]
  simp only
  rw [hd]
  exact scanL_blanks b (p + n) acc [10] (by simp [blankB])
theorem gap_scan (k : Nat) (b : Bs) (p : Nat) (acc : List Tok) : scanL (gapG k ++ b) p acc = scanL b (p + (gapG k).length) acc := by
  unfold gapG
  split
  · exact scanL_blanks b p acc [10, 9, 13, 32] (by simp [blankB])
  · have e1 := scanL_blanks (45 :: 45 :: 255 :: 32 :: 39 :: 97 :: 10 :: b) p acc [32] (by simp [blankB])
    have hrun : runL inLineR (45 :: 45 :: 255 :: 32 :: 39 :: 97 :: 10 :: b) = 6 := by
      have hr := run_line [32, 39, 97] b (by decide)
      have h255 : decL (255 :: 32 :: 39 :: 97 :: 10 :: b) = (65533, 1) := by simp [decL]
      rw [runL_step _ _ (by simp), decL_low 45 _ (by decide)]
      simp only [List.drop_succ_cons, List.drop_zero]
      rw [runL_step _ _ (by simp), decL_low 45 _ (by decide)]
      simp only [List.drop_succ_cons, List.drop_zero]
      rw [runL_step _ _ (by simp), h255]
      simp only [List.drop_succ_cons, List.drop_zero]
      rw [show (32 :: 39 :: 97 :: 10 :: b : Bs) = [32, 39, 97] ++ 10 :: b from rfl, hr]
      rfl
    have e2 := skip_step (255 :: 32 :: 39 :: 97 :: 10 :: b) b (p + 1) acc 6 hrun rfl
    exact e1.trans e2
  · have e1 := scanL_blanks (45 :: 45 :: 10 :: 45 :: 45 :: 120 :: 10 :: b) p acc [10] (by simp [blankB])
    have r1 : runL inLineR (45 :: 45 :: 10 :: 45 :: 45 :: 120 :: 10 :: b) = 2 := run_line [45, 45] (45 :: 45 :: 120 :: 10 :: b) (by decide)
    have e2 := skip_step (10 :: 45 :: 45 :: 120 :: 10 :: b) (45 :: 45 :: 120 :: 10 :: b) (p + 1) acc 2 r1 rfl
    have r2 : runL inLineR (45 :: 45 :: 120 :: 10 :: b) = 3 := run_line [45, 45, 120] b (by decide)
    have e3 := skip_step (120 :: 10 :: b) b (p + 1 + 2 + 1) acc 3 r2 rfl
    exact e1.trans (e2.trans e3)
  · exact scanL_blanks b p acc [32] (by simp [blankB])
theorem scan_between (a b : Bs) (k : Nat) (ta : List Tok) (hc : Closed' a) (h : scanL a 0 [] = .inr ta) :
    ∃ acc, ta = acc ++ [⟨6, [], 0, a.length⟩] ∧ scanL (a ++ (gapG k ++ b)) 0 [] = match scanL b 0 [] with | .inl (c, p) => .inl (c, p + (a.length + (gapG k).length : Nat)) | .inr tb => .inr (acc ++ tb.map (shift (a.length + (gapG k).length))) := by
  obtain ⟨acc, h1, h2⟩ := scanL_append (gapG k ++ b) (gapG_gap k b) a.length a 0 [] ta (Nat.le_refl _) hc h
  rw [Nat.zero_add] at h1 h2
  refine ⟨acc, h1, ?_⟩
  rw [h2, gap_scan]
  have := scanL_shift (a.length + (gapG k).length) b.length b 0 acc [] (Nat.le_refl _)
  rw [Nat.zero_add, List.map_nil, List.append_nil] at this
  exact this
/-- A fault's number is not nought. -/
theorem bad_ne (l : Bs) (c : Int) (r : Nat) (h : stepF l = .bad c r) : c ≠ 0 := by
  have ht : ∀ q f (l acc : Bs) i c r, textG q f l acc i = .bad c r → c ≠ 0 := by
    intro q f
    induction f with
    | zero => intro l acc i c r h; cases h; decide
    | succ f ih =>
      intro l acc i c r h
      cases l with
      | nil => cases h; decide
      | cons b t =>
        simp only [textG] at h
        split at h
        · cases h; decide
        split at h
        · split at h
          · cases h; decide
          · cases h
        split at h
        · split at h
          · cases h; decide
          · cases h; decide
          · exact ih _ _ _ _ _ h
        · exact ih _ _ _ _ _ h
  unfold stepF at h
  by_cases h0 : l = []
  · rw [if_pos h0] at h; cases h
  rw [if_neg h0] at h
  by_cases h1 : [45, 45].isPrefixOf l = true
  · rw [if_pos h1] at h; cases h
  rw [if_neg h1] at h
  by_cases h2 : letterR (decL l).1 = true
  · rw [if_pos h2] at h
    dsimp only at h
    split at h
    · cases h; decide
    · cases h
  rw [if_neg h2] at h
  by_cases h3 : digitR (decL l).1 = true
  · rw [if_pos h3] at h
    dsimp only at h
    split at h
    · rename_i hp
      cases h
      exact hp
    · cases h
  rw [if_neg h3] at h
  split at h
  · split at h
    · rename_i c' r' hx
      cases h
      exact ht _ _ _ _ _ _ _ hx
    · cases h
  · split at h
    · cases h; decide
    · cases h
theorem scan_ne : ∀ (n : Nat) (l : Bs) (at_ : Nat) (acc : List Tok) (c p : Int), l.length ≤ n → scanL l at_ acc = .inl (c, p) → c ≠ 0 := by
  intro n
  induction n with
  | zero =>
    intro l at_ acc c p hn h
    have : l = [] := List.eq_nil_of_length_eq_zero (by omega)
    subst this
    rw [scanL_step] at h
    have e0 : stepF (([] : Bs).drop (runL blankR [])) = .done := rfl
    rw [e0] at h
    cases h
  | succ n ih =>
    intro l at_ acc c p hn h
    rw [scanL_step] at h
    have hk := runL_le' blankR l
    cases hst : stepF (l.drop (runL blankR l)) with
    | done => rw [hst] at h; cases h
    | bad c' r =>
      rw [hst] at h
      simp only [Sum.inl.injEq, Prod.mk.injEq] at h
      rw [← h.1]
      exact bad_ne _ _ _ hst
    | skip q =>
      have := (stepF_take _).1 q hst
      rw [List.length_drop] at this
      rw [hst] at h
      exact ih _ _ _ _ _ (by rw [List.length_drop, List.length_drop]; omega) h
    | tok kd tx x len =>
      have := (stepF_take _).2 _ _ _ _ hst
      rw [List.length_drop] at this
      rw [hst] at h
      exact ih _ _ _ _ _ (by rw [List.length_drop, List.length_drop]; omega) h
theorem scanF_small (l : Bs) (h : l.length ≤ 20000) : scanF l = scanL l 0 [] := by
  unfold scanF scanL
  rw [if_neg (by omega)]
end Lx
end Go.Proofs.YtadenjlehhopmaaDoor
