/- LexPlaces: where the tokens stand; the printed function answers true. -/
import Derived.Test.YtadenjlehhopmaaDoorS8
import Derived.Test.YtadenjlehhopmaaDoorG6
namespace Go.Proofs.YtadenjlehhopmaaDoor
set_option linter.unusedSimpArgs false
set_option linter.unusedVariables false
open Go Go.RowKit Lx
theorem scanF_ne' (l : Bs) (c p : Int) (h : scanF l = .inl (c, p)) : c ≠ 0 := by
  unfold scanF at h
  split at h
  · simp only [Sum.inl.injEq, Prod.mk.injEq] at h
    omega
  · exact scan_ne l.length l 0 [] c p (Nat.le_refl _) h
theorem decL_cut : ∀ (l : Bs) (n : Nat), (decL l).2 ≤ n → decL (l.take n) = decL l
  | [], n, _ => by rw [List.take_nil]
  | a :: t, 0, h => by have := (decL_width (a :: t)).1; omega
  | [a], n + 1, _ => by rw [List.take_succ_cons, List.take_nil]
  | a :: b :: t, 1, h => by
    have h1 : (decL (a :: b :: t)).2 ≤ 1 := h
    revert h1
    simp only [List.take_succ_cons, List.take_zero]
    unfold decL
    dsimp only
    intro h1
    simp only [List.getD_cons_zero, List.getD_cons_succ, List.length_cons, List.length_nil, show ¬ (1 < 0 + 1) by omega, show ¬ (2 < 0 + 1) by omega, show ¬ (3 < 0 + 1) by omega, show 1 < t.length + 1 + 1 by omega, decide_true, decide_false, Bool.true_and, Bool.false_and, Bool.and_false, Bool.false_eq_true, if_false] at h1 ⊢
    by_cases h0 : a.toNat < 128
    · rw [if_pos h0, if_pos h0]
    · rw [if_neg h0] at h1 ⊢; rw [if_neg h0]
      revert h1; (repeat' split) <;> intro h1 <;> first | rfl | exact absurd h1 (by simp)
  | [a, b], n + 2, _ => by simp
  | a :: b :: c :: t, 2, h => by
    have h1 : (decL (a :: b :: c :: t)).2 ≤ 2 := h
    revert h1
    simp only [List.take_succ_cons, List.take_zero]
    unfold decL
    dsimp only
    intro h1
    simp only [List.getD_cons_zero, List.getD_cons_succ, List.length_cons, List.length_nil, show (1 < 0 + 1 + 1) by omega, show ¬ (2 < 0 + 1 + 1) by omega, show ¬ (3 < 0 + 1 + 1) by omega, show 1 < t.length + 1 + 1 + 1 by omega, decide_true, decide_false, Bool.true_and, Bool.false_and, Bool.and_false, Bool.false_eq_true, if_false] at h1 ⊢
    by_cases h0 : a.toNat < 128
    · rw [if_pos h0, if_pos h0]
    · rw [if_neg h0] at h1 ⊢; rw [if_neg h0]
      by_cases q1 : (a.toNat / 32 == 6 && b.toNat / 64 == 2) = true
      · rw [if_pos q1, if_pos q1]
      · rw [if_neg q1] at h1 ⊢; rw [if_neg q1]
        revert h1; (repeat' split) <;> intro h1 <;> first | rfl | exact absurd h1 (by simp)
  | [a, b, c], n + 3, _ => by simp
  | a :: b :: c :: d :: t, 3, h => by
    have h1 : (decL (a :: b :: c :: d :: t)).2 ≤ 3 := h
    revert h1
    simp only [List.take_succ_cons, List.take_zero]
    unfold decL
    dsimp only
    intro h1
    simp only [List.getD_cons_zero, List.getD_cons_succ, List.length_cons, List.length_nil, show (1 < 0 + 1 + 1 + 1) by omega, show (2 < 0 + 1 + 1 + 1) by omega, show ¬ (3 < 0 + 1 + 1 + 1) by omega, show 1 < t.length + 1 + 1 + 1 + 1 by omega, show 2 < t.length + 1 + 1 + 1 + 1 by omega, decide_true, decide_false, Bool.true_and, Bool.false_and, Bool.and_false, Bool.false_eq_true, if_false] at h1 ⊢
    by_cases h0 : a.toNat < 128
    · rw [if_pos h0, if_pos h0]
    · rw [if_neg h0] at h1 ⊢; rw [if_neg h0]
      by_cases q1 : (a.toNat / 32 == 6 && b.toNat / 64 == 2) = true
      · rw [if_pos q1, if_pos q1]
      · rw [if_neg q1] at h1 ⊢; rw [if_neg q1]
        by_cases q2 : (a.toNat / 16 == 14 && b.toNat / 64 == 2 && c.toNat / 64 == 2) = true
        · rw [if_pos q2, if_pos q2]
        · rw [if_neg q2] at h1 ⊢; rw [if_neg q2]
          revert h1; (repeat' split) <;> intro h1 <;> first | rfl | exact absurd h1 (by simp)
  | a :: b :: c :: d :: t, n + 4, _ => by simp [decL]
theorem signF_pre (l x : Bs) (h : signF l = some x) : x ≠ [] ∧ l.take x.length = x := by
  cases l with
  | nil => revert h; rw [show signF [] = none by decide]; exact fun h => by cases h
  | cons c t =>
    rw [signF_eq] at h
    split at h
    · rename_i h2
      cases h
      have : (2 : Nat) ≤ (c :: t).length := by
        cases t with
        | nil => exact absurd h2 (by
            simp only [List.take_succ_cons, List.take_nil]
            have : ∀ c : UInt8, sgn2.contains [c] = false := fun c => by unfold sgn2; simp
            rw [this]; simp)
        | cons => simp
      refine ⟨by simp, by rw [List.length_take, Nat.min_eq_left this]⟩
    · split at h
      · cases h; exact ⟨by simp, rfl⟩
      · cases h
/-- What a token that is no string is. -/
theorem stepF_text (l : Bs) (k : Int) (t : Bs) (n : Int) (len : Nat) (h : stepF l = .tok k t n len) :
    k ≠ 6 ∧ (k ≠ 4 → t = l.take len ∧ t.length = len ∧ 1 ≤ len) ∧ (k = 1 → letterR (decL t).1 = true ∧ isWordF t = false) := by
  unfold stepF at h
  by_cases h0 : l = []
  · rw [if_pos h0] at h; cases h
  rw [if_neg h0] at h
  have hl : 1 ≤ l.length := by cases l with | nil => exact absurd rfl h0 | cons => simp
  by_cases h1 : [45, 45].isPrefixOf l = true
  · rw [if_pos h1] at h; cases h
  rw [if_neg h1] at h
  have hn := runL_le' partR l
  by_cases h2 : letterR (decL l).1 = true
  · rw [if_pos h2] at h
    dsimp only at h
    have hp : partR (decL l).1 = true := by unfold partR; simp [h2]
    have h1 := runL_step partR l h0
    rw [if_pos hp] at h1
    have hw := (decL_width l).1
    split at h
    · cases h
    · simp only [Step.tok.injEq] at h
      obtain ⟨rfl, rfl, rfl, rfl⟩ := h
      refine ⟨by split <;> decide, fun _ => ⟨rfl, by rw [List.length_take]; omega, by omega⟩, fun hk => ?_⟩
      rw [decL_cut l _ (by omega)]
      refine ⟨h2, ?_⟩
      cases hW : isWordF (l.take (runL partR l)) with
      | false => rfl
      | true => rw [hW] at hk; simp at hk
  rw [if_neg h2] at h
  by_cases h3 : digitR (decL l).1 = true
  · rw [if_pos h3] at h
    dsimp only at h
    have hp : partR (decL l).1 = true := by unfold partR; simp [h3]
    have h1 := runL_step partR l h0
    rw [if_pos hp] at h1
    have hw := (decL_width l).1
    split at h
    · cases h
    · simp only [Step.tok.injEq] at h
      obtain ⟨rfl, rfl, rfl, rfl⟩ := h
      exact ⟨by decide, fun _ => ⟨rfl, by rw [List.length_take]; omega, by omega⟩, fun hk => absurd hk (by decide)⟩
  rw [if_neg h3] at h
  split at h
  · split at h
    · cases h
    · simp only [Step.tok.injEq] at h
      obtain ⟨rfl, rfl, rfl, rfl⟩ := h
      exact ⟨by decide, fun hk => absurd rfl hk, fun hk => absurd hk (by decide)⟩
  · split at h
    · cases h
    · rename_i s hs
      simp only [Step.tok.injEq] at h
      obtain ⟨rfl, rfl, rfl, rfl⟩ := h
      obtain ⟨h5, h6⟩ := signF_pre _ _ hs
      exact ⟨by decide, fun _ => ⟨h6.symm, rfl, by cases s with | nil => exact absurd rfl h5 | cons => simp⟩, fun hk => absurd hk (by decide)⟩
def nextF (x : Tok) : Nat := if x.kind = 4 then x.at_ + 1 else x.at_ + x.text.length
def Places (S : Bs) : Nat → List Tok → Prop
  | _, [] => False
  | lo, x :: t => lo ≤ x.at_ ∧ x.at_ ≤ S.length ∧ ((x.kind = 6 ∧ t = [] ∧ x.text = [] ∧ x.at_ = S.length) ∨
      (x.kind ≠ 6 ∧ (x.kind ≠ 4 → x.text ≠ [] ∧ x.at_ + x.text.length ≤ S.length ∧ (S.drop x.at_).take x.text.length = x.text) ∧ (x.kind = 1 → letterR (decL x.text).1 = true ∧ isWordF x.text = false) ∧ Places S (nextF x) t))
theorem Places.ne {S : Bs} {lo : Nat} {t : List Tok} (h : Places S lo t) : t ≠ [] := by rintro rfl; exact h
theorem scan_places (S : Bs) : ∀ (n at_ : Nat) (acc t : List Tok), S.length - at_ ≤ n → at_ ≤ S.length → scanL (S.drop at_) at_ acc = .inr t → ∃ t', t = acc ++ t' ∧ ∀ lo, lo ≤ at_ → Places S lo t' := by
  intro n
  induction n with
  | zero =>
    intro at_ acc t hn ha h
    rw [List.drop_of_length_le (by omega), scanL_step] at h
    have e0 : stepF (([] : Bs).drop (runL blankR [])) = .done := rfl
    rw [e0] at h
    cases h
    exact ⟨_, rfl, fun lo hlo => ⟨by show lo ≤ _; simp; omega, by show at_ + _ ≤ _; rw [runL_nil]; omega, .inl ⟨rfl, rfl, rfl, by show at_ + _ = _; rw [runL_nil]; omega⟩⟩⟩
  | succ n ih =>
    intro at_ acc t hn ha h
    rw [scanL_step] at h
    have hk := runL_le' blankR (S.drop at_)
    rw [List.length_drop] at hk
    generalize hb : runL blankR (S.drop at_) = k at h hk
    rw [List.drop_drop] at h
    cases hst : stepF (S.drop (at_ + k)) with
    | done =>
      rw [hst] at h
      cases h
      have : S.drop (at_ + k) = [] := by
        cases hS : S.drop (at_ + k) with
        | nil => rfl
        | cons b u => exact absurd hst (by
            rw [hS]
            unfold stepF
            rw [if_neg (by simp)]
            dsimp only
            repeat' (split <;> try (intro h; cases h)))
      have := congrArg List.length this
      rw [List.length_drop, List.length_nil] at this
      exact ⟨_, rfl, fun lo hlo => ⟨by show lo ≤ at_ + k; omega, by show at_ + k ≤ _; omega, .inl ⟨rfl, rfl, rfl, by show at_ + k = _; omega⟩⟩⟩
    | bad c r => rw [hst] at h; cases h
    | skip q =>
      have hq := (stepF_take _).1 q hst
      rw [List.length_drop] at hq
      rw [hst] at h
      dsimp only at h
      rw [List.drop_drop] at h
      obtain ⟨t', e, hP⟩ := ih (at_ + k + q) acc t (by omega) (by omega) h
      exact ⟨t', e, fun lo hlo => hP lo (by omega)⟩
    | tok kd tx x len =>
      have hq := (stepF_take _).2 _ _ _ _ hst
      have hx := stepF_text _ _ _ _ _ hst
      rw [List.length_drop] at hq
      rw [hst] at h
      dsimp only at h
      rw [List.drop_drop] at h
      obtain ⟨t', e, hP⟩ := ih (at_ + k + len) _ t (by omega) (by omega) h
      refine ⟨⟨kd, tx, x, at_ + k⟩ :: t', by rw [e, List.append_assoc]; rfl, fun lo hlo => ⟨by show lo ≤ at_ + k; omega, by show at_ + k ≤ _; omega, .inr ⟨hx.1, fun h4 => ?_, hx.2.2, hP _ ?_⟩⟩⟩
      · obtain ⟨h5, h6, h7⟩ := hx.2.1 h4
        refine ⟨fun e => by change tx = [] at e; rw [e] at h6; simp at h6; omega, by show at_ + k + tx.length ≤ _; omega, ?_⟩
        show (S.drop (at_ + k)).take tx.length = tx
        rw [h6]; exact h5.symm
      · unfold nextF
        dsimp only
        split
        · omega
        · rename_i h4
          rw [(hx.2.1 h4).2.1]; omega
theorem places_loop (s : ByteArray) (hs : s.size ≤ 20000) (J : Unit → Option Bool) (c : Int × Int) : ∀ (t pre : List Tok) (k lo : Nat), pre.length + t.length ≤ 100000 → 50000 + t.length ≤ k → Places (bs s) lo t →
    law11_LexPlaces.l0 k s ((pre ++ t).map tokT, c) J (lo : Int) (pre.length : Int) = some true
  | [], pre, k, lo, _, _, h => h.elim
  | x :: t, pre, k, lo, hlen, hk, h => by
    obtain ⟨k, rfl⟩ : ∃ m, k = m + 1 := ⟨k - 1, by omega⟩
    simp only [List.length_cons] at hlen hk
    obtain ⟨h1, h2, h3⟩ := h
    rw [bs_length] at h2
    simp only [law11_LexPlaces.l0]
    rw [dT (p := (pre.length : Int) < (((pre ++ x :: t).map tokT).length : Nat)) (by simp; omega)]
    have hx : lIdx ((pre ++ x :: t).map tokT) (pre.length : Int) = some (tokT x) := by
      rw [lIdx_nat (by simp)]
      simp
    rw [hx]
    simp only [cond_true, Option.bind_some, tokT]
    rw [dF (p := (x.at_ : Int) < lo) (by omega), dF (p := (x.at_ : Int) > (s.size : Int)) (by omega)]
    simp only [cond_false]
    have hL : (((pre ++ x :: t).map tokT).length : Nat) = pre.length + (t.length + 1) := by simp
    rw [hL, wi (((pre.length + (t.length + 1) : Nat) : Int) - 1) (by omega) (by omega)]
    rcases h3 with ⟨h6, rfl, hx1, hx2⟩ | ⟨h6, hx4, hx1, hP⟩
    · have e : (((pre.length : Nat) : Int) == ((pre.length + (([] : List Tok).length + 1) : Nat) : Int) - 1) = true := by rw [beq_iff_eq]; simp
      rw [h6, e, hx1, hx2, bs_length]
      simp only [beq_self_eq_true, bne_self_eq_false, cond_false, cond_true, Option.bind_some]
      rw [show (str ([] : Bs)) = (⟨#[]⟩ : ByteArray) from rfl, beq_self_eq_true]
    · have hne := hP.ne
      have htl : 1 ≤ t.length := by cases t with | nil => exact absurd rfl hne | cons => simp
      have e : (((pre.length : Nat) : Int) == ((pre.length + (t.length + 1) : Nat) : Int) - 1) = false := by rw [beq_eq_false_iff_ne]; omega
      rw [e, show (x.kind == 6) = false by rw [beq_eq_false_iff_ne]; exact h6]
      simp only [bne_self_eq_false, cond_false, Option.bind_some, joinF]
      have ih := fun lo' (h : Places (bs s) lo' t) => places_loop s hs J c t (pre ++ [x]) k lo' (by simp; omega) (by omega) h
      simp only [List.append_assoc, List.cons_append, List.nil_append, List.length_append, List.length_cons, List.length_nil] at ih
      have hi : IntKind.i64.wrap ((pre.length : Int) + 1) = ((pre.length + (0 + 1) : Nat) : Int) := by rw [wi _ (by omega) (by omega)]; omega
      rw [hi]
      have hName : ((cond (x.kind == (1 : Int)) ((r01_At.f k (str x.text) (0 : Int)).bind fun r34 => (r01_Letter.f k r34.2.2).bind fun r35 => cond (!r35) (some true) ((r11_IsWord.f k (str x.text)).bind fun r37 => some r37)) (some false)) : Option Bool) = some false := by
        by_cases hk1 : x.kind = 1
        · obtain ⟨h7, h8⟩ := hx1 hk1
          obtain ⟨h9, h10, h11⟩ := hx4 (by omega)
          have htx : 1 ≤ x.text.length := by cases hxt : x.text with | nil => exact absurd hxt h9 | cons => simp
          rw [bs_length] at h10
          have := at_eq (str x.text) 0 k (by rw [str_size]; omega) (by rw [str_size]; omega) (by omega)
          rw [hk1, show ((1 : Int) == 1) = true from rfl]
          simp only [cond_true]
          rw [show ((0 : Nat) : Int) = 0 from rfl, List.drop_zero, bs_str] at this
          rw [this]
          simp only [Option.bind_some, rletter_eq, h7, Bool.not_true, cond_false, isWord_eq, bs_str, h8]
        · rw [show (x.kind == 1) = false by rw [beq_eq_false_iff_ne]; exact hk1]
          rfl
      rw [hName]
      simp only [Option.bind_some, cond_false]
      by_cases h4 : x.kind = 4
      · rw [h4, show ((4 : Int) != 4) = false from rfl]
        simp only [cond_false]
        rw [wi ((x.at_ : Int) + 1) (by omega) (by omega)]
        unfold nextF at hP
        rw [if_pos h4] at hP
        exact ih (x.at_ + 1) hP
      · obtain ⟨h9, h10, h11⟩ := hx4 h4
        have htx : 1 ≤ x.text.length := by cases hxt : x.text with | nil => exact absurd hxt h9 | cons => simp
        rw [bs_length] at h10
        rw [show (x.kind != 4) = true by rw [bne_iff_ne]; exact h4]
        simp only [cond_true]
        rw [str_size, show ((x.text.length : Int) == 0) = false by rw [beq_eq_false_iff_ne]; omega]
        rw [wi ((s.size : Int) - x.at_) (by omega) (by omega), dF (p := (x.text.length : Int) > (s.size : Int) - x.at_) (by omega)]
        rw [wi ((x.at_ : Int) + (x.text.length : Nat)) (by omega) (by omega), show (x.at_ : Int) + (x.text.length : Nat) = ((x.at_ + x.text.length : Nat) : Int) by omega]
        rw [sSub_str s x.at_ (x.at_ + x.text.length) (by omega) h10, Nat.add_sub_cancel_left, h11]
        simp only [cond_false, Option.bind_some, beq_self_eq_true, Bool.not_true]
        unfold nextF at hP
        rw [if_neg h4] at hP
        exact ih (x.at_ + x.text.length) hP
theorem lexR_fault (s : ByteArray) (h : s.size ≤ 20000) (c p : Int) (hc : scanF (bs s) = .inl (c, p)) : 0 ≤ p ∧ p < s.size := by
  rw [scanF_small _ (by rw [bs_length]; exact h)] at hc
  have := scan_place _ _ _ _ _ _ (Nat.le_refl _) hc
  rw [bs_length] at this
  omega
theorem places_true (k : Nat) (hk : 100000 ≤ k) (s : ByteArray) : law11_LexPlaces.f k s = some true := by
  unfold law11_LexPlaces.f lex_Scan.f law11_fixed.f joinF
  simp only [Option.bind_some, Bool.not_true, cond_false]
  have hl := lexR_len s
  unfold lexR at hl ⊢
  cases hc : scanF (bs s) with
  | inl x =>
    obtain ⟨c, p⟩ := x
    have hne := scanF_ne' _ _ _ hc
    simp only [List.length_nil]
    rw [show (c != 0) = true by rw [bne_iff_ne]; exact hne]
    simp only [cond_true, show (((0 : Nat) : Int) == 0) = true from rfl]
    by_cases h : s.size ≤ 20000
    · have := lexR_fault s h c p hc
      rw [dT (p := p ≥ -1) (by omega), dF (p := (s.size : Int) > 20000) (by omega), show (p == -1) = false by rw [beq_eq_false_iff_ne]; omega]
      simp only [cond_true]
      rw [dT (by split <;> omega)]
      rfl
    · unfold scanF at hc
      rw [if_pos (by rw [bs_length]; omega)] at hc
      cases hc
      rw [dT (p := (-1 : Int) ≥ -1) (by omega), dT (p := (s.size : Int) > 20000) (by omega)]
      simp only [cond_true]
      rw [dT (by split <;> omega)]
      rfl
  | inr t =>
    rw [hc] at hl
    simp only [List.length_map] at hl
    by_cases h : s.size ≤ 20000
    · rw [scanF_small _ (by rw [bs_length]; exact h)] at hc
      obtain ⟨t', e, hP⟩ := scan_places (bs s) s.size 0 [] t (by rw [bs_length]; omega) (by omega) (by rw [List.drop_zero]; exact hc)
      rw [List.nil_append] at e
      subst e
      have := places_loop s h (fun _ => some false) (0, 0) t [] k 0 (by simp; omega) (by omega) (hP 0 (Nat.le_refl _))
      exact this
    · unfold scanF at hc
      rw [if_pos (by rw [bs_length]; omega)] at hc
      cases hc
theorem places_any (s : ByteArray) (w : World) (hg : Gl w) : Calls Tryd.prog 5 #[.string s] w fun e w' => e = .returned (.bool true) ∧ Below w.heap.size w w' :=
  (law11_LexPlaces.ok (places_true 100000 (Nat.le_refl _) s) (Gl.piece hg) w w [old w] ⟨.head _, trivial⟩ (St.start w)).mono fun e w' ⟨l1, ⟨h1, h2⟩, h3⟩ => by
    subst h2
    exact ⟨h1, St.end_ (l := []) h3⟩
end Go.Proofs.YtadenjlehhopmaaDoor
