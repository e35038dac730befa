/- Blanks and comments between two texts. Plain lists. -/
import Derived.Test.YtadenjlehhopmaaDoorP0
namespace Go.Proofs.YtadenjlehhopmaaDoor
set_option linter.unusedSimpArgs false
set_option linter.unusedVariables false
namespace Lx
/-! The scan without fuel -/
theorem stepF_take (l : Bs) : (∀ n, stepF l = .skip n → 1 ≤ n ∧ n ≤ l.length) ∧ (∀ k t n len, stepF l = .tok k t n len → 1 ≤ len ∧ len ≤ l.length) :=
  ⟨fun n h => stepF_skip l n h, fun k t n len h => stepF_tok l k t n len h⟩
theorem scanG_fuel : ∀ (f g : Nat) (l : Bs) (at_ : Nat) (acc : List Tok), l.length < f → l.length < g → scanG f l at_ acc = scanG g l at_ acc
  | 0, _, l, _, _, h, _ => by omega
  | _, 0, l, _, _, _, h => by omega
  | f + 1, g + 1, l, at_, acc, h, h' => by
    rw [scanG_succ, scanG_succ]
    have hd : (l.drop (runL blankR l)).length ≤ l.length := by rw [List.length_drop]; omega
    cases hst : stepF (l.drop (runL blankR l)) with
    | done => rfl
    | bad c r => rfl
    | skip n =>
      have := (stepF_take _).1 n hst
      exact scanG_fuel f g _ _ _ (by rw [List.length_drop]; omega) (by rw [List.length_drop]; omega)
    | tok k t n len =>
      have := (stepF_take _).2 k t n len hst
      exact scanG_fuel f g _ _ _ (by rw [List.length_drop]; omega) (by rw [List.length_drop]; omega)
def scanL (l : Bs) (at_ : Nat) (acc : List Tok) : (Int × Int) ⊕ List Tok := scanG (l.length + 1) l at_ acc
theorem scanL_step (l : Bs) (at_ : Nat) (acc : List Tok) : scanL l at_ acc =
    match stepF (l.drop (runL blankR l)) with
    | .done => .inr (acc ++ [⟨6, [], 0, at_ + runL blankR l⟩])
    | .skip n => scanL ((l.drop (runL blankR l)).drop n) (at_ + runL blankR l + n) acc
    | .tok kind text n len => scanL ((l.drop (runL blankR l)).drop len) (at_ + runL blankR l + len) (acc ++ [⟨kind, text, n, at_ + runL blankR l⟩])
    | .bad c r => .inl (c, (at_ + runL blankR l + r : Nat)) := by
  unfold scanL
  rw [scanG_succ]
  have hd : (l.drop (runL blankR l)).length ≤ l.length := by rw [List.length_drop]; omega
  cases hst : stepF (l.drop (runL blankR l)) with
  | done => rfl
  | bad c r => rfl
  | skip n =>
    have := (stepF_take _).1 n hst
    exact scanG_fuel _ _ _ _ _ (by rw [List.length_drop]; omega) (by omega)
  | tok k t n len =>
    have := (stepF_take _).2 k t n len hst
    exact scanG_fuel _ _ _ _ _ (by rw [List.length_drop]; omega) (by omega)
/-! What follows does not matter -/
theorem cont_low (x : UInt8) (h : x.toNat < 128) : (x.toNat / 64 == 2) = false := by rw [beq_eq_false_iff_ne]; omega
theorem decL_append : ∀ (l r : Bs), l ≠ [] → (∀ x t, r = x :: t → x.toNat < 128) → decL (l ++ r) = decL l
  | l, [], _, _ => by rw [List.append_nil]
  | [], _, h, _ => absurd rfl h
  | [a], x :: r, _, h => by have := cont_low x (h x r rfl); simp [decL, this]
  | [a, b], x :: r, _, h => by have := cont_low x (h x r rfl); simp [decL, this]
  | [a, b, c], x :: r, _, h => by have := cont_low x (h x r rfl); simp [decL, this]
  | a :: b :: c :: d :: l, x :: r, _, h => by simp [decL]
theorem drop_app (l r : Bs) (n : Nat) (h : n ≤ l.length) : (l ++ r).drop n = l.drop n ++ r := List.drop_append_of_le_length h
theorem runL_append (p : Nat → Bool) (r : Bs) (hr : ∀ x t, r = x :: t → x.toNat < 128) : ∀ (n : Nat) (l : Bs), l.length ≤ n → (runL p l < l.length ∨ runL p r = 0) → runL p (l ++ r) = runL p l
  | 0, l, h, hp => by
    have : l = [] := List.eq_nil_of_length_eq_zero (by omega)
    subst this
    rcases hp with hp | hp
    · simp at hp
    · rw [List.nil_append, hp]; rfl
  | n + 1, l, h, hp => by
    by_cases hl : l = []
    · subst hl
      rcases hp with hp | hp
      · simp at hp
      · rw [List.nil_append, hp]; rfl
    · have hw := decL_width l
      have hw3 := hw.2.2 hl
      rw [runL_step p (l ++ r) (by simp [hl]), decL_append l r hl hr, drop_app _ _ _ hw3]
      rw [runL_step p l hl] at hp ⊢
      by_cases hq : p (decL l).1 = true
      · rw [if_pos hq] at hp ⊢
        rw [if_pos hq]
        rw [runL_append p r hr n _ (by rw [List.length_drop]; omega) (by rw [List.length_drop]; rcases hp with hp | hp; exact .inl (by omega); exact .inr hp)]
      · rw [if_neg hq, if_neg hq]
theorem pre_append (s l r : Bs) (hs : s.length ≤ 2) (hl : l ≠ []) (hr : ∀ x t, r = x :: t → s[1]? ≠ some x) : s.isPrefixOf (l ++ r) = s.isPrefixOf l := by
  obtain ⟨c, l, rfl⟩ : ∃ c l', l = c :: l' := by cases l with | nil => exact absurd rfl hl | cons c l' => exact ⟨c, l', rfl⟩
  match s, hs with
  | [], _ => simp
  | [a], _ => simp [List.isPrefixOf]
  | [a, b], _ =>
    cases l with
    | cons d l => simp [List.isPrefixOf]
    | nil =>
      cases r with
      | nil => rfl
      | cons x t =>
        have := hr x t rfl
        have hb : (b == x) = false := by
          rw [beq_eq_false_iff_ne]
          rintro rfl
          exact this rfl
        simp [List.isPrefixOf, hb]
/-- A gap begins with a blank or a line's end. -/
def Gap (r : Bs) : Prop := ∃ x t, r = x :: t ∧ (x = 32 ∨ x = 10)
theorem Gap.low {r : Bs} (h : Gap r) : ∀ x t, r = x :: t → x.toNat < 128 := by
  obtain ⟨x, t, rfl, hx⟩ := h
  intro y u e
  cases e
  rcases hx with rfl | rfl <;> decide
theorem sign_second : ∀ s ∈ signList, s.length ≤ 2 ∧ s[1]? ≠ some 32 ∧ s[1]? ≠ some 10 := by decide
theorem find_congr {α : Type} (p q : α → Bool) : ∀ (l : List α), (∀ x ∈ l, p x = q x) → l.find? p = l.find? q
  | [], _ => rfl
  | a :: l, h => by
    rw [List.find?_cons, List.find?_cons, h a (by simp), find_congr p q l (fun x hx => h x (by simp [hx]))]
theorem signF_append (l r : Bs) (hl : l ≠ []) (hr : Gap r) : signF (l ++ r) = signF l := by
  unfold signF
  refine find_congr _ _ _ fun s hs => ?_
  obtain ⟨h1, h2, h3⟩ := sign_second s hs
  refine pre_append s l r h1 hl fun x t e => ?_
  obtain ⟨y, u, e2, hy⟩ := hr
  rw [e] at e2
  cases e2
  rcases hy with rfl | rfl
  · exact h2
  · exact h3
theorem hexD_gap (r : Bs) (h : Gap r) : ∀ m n k, hexG m r n k = (n, k) := by
  obtain ⟨x, t, rfl, hx⟩ := h
  intro m n k
  cases m with
  | zero => rfl
  | succ m =>
    have : hexD x = none := by rcases hx with rfl | rfl <;> decide
    simp [hexG, this]
theorem hexG_append (r : Bs) (hr : Gap r) : ∀ (m : Nat) (t : Bs) (n k : Nat), hexG m (t ++ r) n k = hexG m t n k
  | 0, t, n, k => rfl
  | m + 1, [], n, k => by rw [List.nil_append, hexD_gap r hr]; rfl
  | m + 1, b :: t, n, k => by
    simp only [List.cons_append, hexG]
    split
    · rfl
    · exact hexG_append r hr m t _ _
theorem decG_append (r : Bs) (hr : Gap r) : ∀ (m : Nat) (t : Bs) (n k : Nat), decG m (t ++ r) n k = decG m t n k
  | 0, t, n, k => rfl
  | m + 1, [], n, k => by
    obtain ⟨x, t, rfl, hx⟩ := hr
    have : ¬ (48 ≤ x.toNat ∧ x.toNat ≤ 57) := by rcases hx with rfl | rfl <;> decide
    simp only [List.nil_append, decG, if_neg this]
  | m + 1, b :: t, n, k => by
    simp only [List.cons_append, decG]
    split
    · exact decG_append r hr m t _ _
    · rfl
def uF (t : Bs) : Esc :=
  if (hexG 8 t 0 0).2 = 0 ∨ Utf8.valid (hexG 8 t 0 0).1 = false ∨ (t.drop (hexG 8 t 0 0).2).head? ≠ some 125 then .unfit
  else .ok (bs (Utf8.encode (hexG 8 t 0 0).1)) (4 + (hexG 8 t 0 0).2)
theorem escF_eq (c : UInt8) (t : Bs) : escF (c :: t) =
    if plainB c ≠ 0 then .ok [plainB c] 2
    else if c = 120 then
      if (hexG 2 t 0 0).2 < 2 then .unfit else .ok [UInt8.ofNat (hexG 2 t 0 0).1] 4
    else if c = 117 ∧ t.head? = some 123 then uF t.tail
    else if (decG 3 (c :: t) 0 0).2 = 0 ∨ (decG 3 (c :: t) 0 0).1 > 255 then .unfit
      else .ok [UInt8.ofNat (decG 3 (c :: t) 0 0).1] (1 + (decG 3 (c :: t) 0 0).2) := rfl
theorem escF_u (t : Bs) : escF (117 :: 123 :: t) = uF t := by
  rw [escF_eq, if_neg (by decide), if_neg (by decide), if_pos ⟨rfl, rfl⟩]
  rfl
theorem uF_append (t r e : Bs) (n : Nat) (hr : Gap r) (h : uF t = .ok e n) : uF (t ++ r) = .ok e n := by
  unfold uF at h ⊢
  rw [hexG_append r hr]
  split at h
  · cases h
  · rename_i h4
    split
    · rename_i h5
      exfalso
      refine h4 ?_
      rcases h5 with h5 | h5 | h5
      · exact .inl h5
      · exact .inr (.inl h5)
      · refine .inr (.inr fun h6 => h5 ?_)
        have hlen := hexG_len 8 t 0 0
        rw [drop_app _ _ _ (by omega)]
        cases hd : t.drop (hexG 8 t 0 0).2 with
        | nil => rw [hd] at h6; simp at h6
        | cons y u => rw [hd] at h6; exact h6
    · exact h
theorem escF_append (l r e : Bs) (n : Nat) (hr : Gap r) (h : escF l = .ok e n) : escF (l ++ r) = .ok e n := by
  cases l with
  | nil => cases h
  | cons c t =>
    rw [List.cons_append]
    by_cases h3 : c = 117 ∧ t.head? = some 123
    · obtain ⟨rfl, h3⟩ := h3
      cases t with
      | nil => simp at h3
      | cons d t =>
        simp only [List.head?_cons, Option.some.injEq] at h3
        subst h3
        rw [escF_u] at h
        rw [List.cons_append, escF_u]
        exact uF_append t r e n hr h
    have h3' : ¬ (c = 117 ∧ (t ++ r).head? = some 123) := by
      rintro ⟨hc, hh⟩
      cases t with
      | nil =>
        obtain ⟨x, u, rfl, hx⟩ := hr
        rw [List.nil_append, List.head?_cons] at hh
        cases hh
        rcases hx with hx | hx <;> exact absurd hx (by decide)
      | cons d t => exact h3 ⟨hc, hh⟩
    rw [escF_eq] at h ⊢
    by_cases h1 : plainB c ≠ 0
    · rw [if_pos h1] at h ⊢; exact h
    rw [if_neg h1] at h ⊢
    by_cases h2 : c = 120
    · rw [if_pos h2] at h ⊢
      rw [hexG_append r hr]
      exact h
    rw [if_neg h2] at h ⊢
    rw [if_neg h3] at h
    rw [if_neg h3', show c :: (t ++ r) = (c :: t) ++ r from rfl, decG_append r hr]
    exact h
theorem textG_append (q : UInt8) (r : Bs) (hr : Gap r) : ∀ (f g : Nat) (l acc : Bs) (i : Nat) (v : Bs) (k : Nat), f ≤ g → textG q f l acc i = .ok v k → textG q g (l ++ r) acc i = .ok v k
  | 0, _, l, acc, i, v, k, _, h => by cases h
  | f + 1, 0, _, _, _, _, _, hf, _ => by omega
  | f + 1, g + 1, [], acc, i, v, k, _, h => by cases h
  | f + 1, g + 1, b :: t, acc, i, v, k, hf, h => by
    rw [List.cons_append]
    simp only [textG] at h ⊢
    by_cases h1 : b = 10
    · rw [if_pos h1] at h; cases h
    rw [if_neg h1] at h ⊢
    by_cases h2 : b = q
    · rw [if_pos h2] at h ⊢; exact h
    rw [if_neg h2] at h ⊢
    by_cases h3 : b = 92
    · rw [if_pos h3] at h ⊢
      cases he : escF t with
      | ended => rw [he] at h; cases h
      | unfit => rw [he] at h; cases h
      | ok e n =>
        rw [he] at h
        rw [escF_append t r e n hr he]
        simp only at h ⊢
        have hroom := escF_room t e n he
        rw [show b :: (t ++ r) = (b :: t) ++ r from rfl, drop_app _ _ _ (by simp only [List.length_cons]; omega)]
        exact textG_append q r hr f g _ _ _ v k (by omega) h
    · rw [if_neg h3] at h ⊢
      exact textG_append q r hr f g _ _ _ v k (by omega) h
theorem gap_run (r : Bs) (hr : Gap r) : runL partR r = 0 := by
  obtain ⟨x, t, rfl, hx⟩ := hr
  rw [runL_step _ _ (by simp), decL_low x t (by rcases hx with rfl | rfl <;> decide)]
  rcases hx with rfl | rfl <;> rfl
theorem stepF_append (l r : Bs) (hl : l ≠ []) (hr : Gap r) (k : Int) (t : Bs) (n : Int) (len : Nat) (h : stepF l = .tok k t n len) : stepF (l ++ r) = .tok k t n len := by
  have hd := decL_append l r hl hr.low
  have hrun := runL_append partR r hr.low l.length l (Nat.le_refl _) (.inr (gap_run r hr))
  have hle := runL_le' partR l
  have htk : (l ++ r).take (runL partR l) = l.take (runL partR l) := List.take_append_of_le_length hle
  have hpre : [45, 45].isPrefixOf (l ++ r) = [45, 45].isPrefixOf l := pre_append [45, 45] l r (by simp) hl fun x t e => by
    obtain ⟨y, u, e2, hy⟩ := hr
    rw [e] at e2
    cases e2
    rcases hy with rfl | rfl <;> decide
  unfold stepF at h ⊢
  dsimp only at h ⊢
  rw [if_neg hl] at h
  rw [if_neg (by simp [hl])]
  simp only [hpre, hd, hrun, htk]
  by_cases h1 : [45, 45].isPrefixOf l = true
  · rw [if_pos h1] at h; cases h
  rw [if_neg h1] at h ⊢
  by_cases h2 : letterR (decL l).1 = true
  · rw [if_pos h2] at h ⊢; exact h
  rw [if_neg h2] at h ⊢
  by_cases h3 : digitR (decL l).1 = true
  · rw [if_pos h3] at h ⊢; exact h
  rw [if_neg h3] at h ⊢
  by_cases h4 : (decL l).1 = 34 ∨ (decL l).1 = 39
  · rw [if_pos h4] at h ⊢
    cases ht : textG (UInt8.ofNat (decL l).1) l.length l.tail [] 1 with
    | bad c r' => rw [ht] at h; cases h
    | ok v k' =>
      rw [ht] at h
      have htl : (l ++ r).tail = l.tail ++ r := by cases l with | nil => exact absurd rfl hl | cons => rfl
      rw [htl, textG_append _ r hr l.length (l ++ r).length l.tail [] 1 v k' (by rw [List.length_append]; omega) ht]
      exact h
  · rw [if_neg h4] at h ⊢
    rw [signF_append l r hl hr]
    exact h
theorem skip_append (l r : Bs) (hl : l ≠ []) (hr : Gap r) (n : Nat) (h : stepF l = .skip n) (hn : n < l.length) : stepF (l ++ r) = .skip n := by
  have hpre : [45, 45].isPrefixOf (l ++ r) = [45, 45].isPrefixOf l := pre_append [45, 45] l r (by simp) hl fun x t e => by
    obtain ⟨y, u, e2, hy⟩ := hr
    rw [e] at e2
    cases e2
    rcases hy with rfl | rfl <;> decide
  unfold stepF at h ⊢
  rw [if_neg hl] at h
  rw [if_neg (by simp [hl]), hpre]
  by_cases h1 : [45, 45].isPrefixOf l = true
  · rw [if_pos h1] at h ⊢
    cases h
    rw [runL_append inLineR r hr.low l.length l (Nat.le_refl _) (.inl hn)]
  · rw [if_neg h1] at h
    exfalso
    dsimp only at h
    (repeat' split at h) <;> cases h
end Lx
end Go.Proofs.YtadenjlehhopmaaDoor
