/- The reference's words, signs, names, digits: the printed functions are the plain ones. -/
import Derived.Test.YtadenjlehhopmaaDoorS1
import Derived.Test.YtadenjlehhopmaaDoorG2
import Derived.Test.YtadenjlehhopmaaDoorB5
namespace Go.Proofs.YtadenjlehhopmaaDoor
set_option linter.unusedSimpArgs false
set_option linter.unusedVariables false
open Go Go.RowKit Lx
theorem chainJ {β : Type} (J : Bool → β) (b x : Bool) : cond b (J b) (J x) = J (b || x) := by cases b <;> rfl
theorem toL (s : ByteArray) : s.toList = bs s := Lib.toList_data s
theorem bs_mk (l : Bs) : bs (⟨l.toArray⟩ : ByteArray) = l := bs_str l
theorem names_loop (s : ByteArray) (hs : s.size ≤ 1000000) (J : Int → Option Int) : ∀ (d n k : Nat), s.size - n ≤ d → n ≤ s.size → d + 6 ≤ k →
    r11_names.l0 k s J (n : Int) = J ((n + runL partR ((bs s).drop n) : Nat) : Int)
  | d, n, k, hd, hn, hk => by
    obtain ⟨k, rfl⟩ : ∃ m, k = m + 1 := ⟨k - 1, by omega⟩
    simp only [r11_names.l0, cond_dec]
    by_cases h : n < s.size
    · rw [if_pos (by omega), at_eq s n k hs h (by omega)]
      have hne : (bs s).drop n ≠ [] := by
        intro e
        have := congrArg List.length e
        rw [List.length_drop, bs_length, List.length_nil] at this
        omega
      have hw := decL_width ((bs s).drop n)
      have hw3 := hw.2.2 hne
      rw [List.length_drop, bs_length] at hw3
      simp only [Option.bind_some, rletter_eq, rdigit_eq]
      rw [runL_step partR _ hne]
      unfold partR
      generalize letterR (decL ((bs s).drop n)).1 = x
      generalize digitR (decL ((bs s).drop n)).1 = y
      have hgo : r11_names.l0 k s J (IntKind.i64.wrap ((n : Int) + ((decL ((bs s).drop n)).2 : Int))) = J ((n + ((decL ((bs s).drop n)).2 + runL partR (((bs s).drop n).drop (decL ((bs s).drop n)).2)) : Nat) : Int) := by
        cases d with
        | zero => omega
        | succ d =>
          rw [wi _ (by omega) (by omega), List.drop_drop, show (n : Int) + ((decL ((bs s).drop n)).2 : Int) = ((n + (decL ((bs s).drop n)).2 : Nat) : Int) by omega]
          rw [names_loop s hs J d (n + (decL ((bs s).drop n)).2) k (by omega) (by omega) (by omega)]
          congr 2
          omega
      cases x <;> cases y <;> simp only [Bool.not_true, Bool.not_false, cond_true, cond_false, Option.bind_some, Bool.or_true, Bool.or_false, Bool.true_or, Bool.false_or, Bool.false_eq_true, if_true, if_false, Nat.add_zero] <;> exact hgo
    · rw [if_neg (by omega), List.drop_of_length_le (by rw [bs_length]; omega)]
      rfl
theorem names_eq (s : ByteArray) (hs : s.size ≤ 1000000) (at_ k : Nat) (h : at_ ≤ s.size) (hk : s.size + 6 ≤ k) : r11_names.f k s (at_ : Int) = some ((runL partR ((bs s).drop at_) : Nat) : Int) := by
  unfold r11_names.f joinF
  have hle := runL_le' partR ((bs s).drop at_)
  rw [List.length_drop, bs_length] at hle
  refine (names_loop s hs _ (s.size - at_) at_ k (Nat.le_refl _) h (by omega)).trans ?_
  rw [wi _ (by omega) (by omega)]
  congr 1
  omega
theorem contains_or (l w : Bs) (ws : List Bs) : (w :: ws).contains l = ((l == w) || ws.contains l) := by
  rw [List.contains_cons]
theorem isWord_eq (k : Nat) (s : ByteArray) : r11_IsWord.f k s = some (isWordF (bs s)) := by
  unfold r11_IsWord.f
  generalize hJ : (fun (x1 : Bool) => cond x1 (some true) (some false)) = J
  unfold joinF
  simp only [chainJ, toL]
  subst hJ
  have e : ∀ l : Bs, bs (⟨l.toArray⟩ : ByteArray) = l := bs_mk
  simp only [e]
  unfold isWordF wordList
  simp only [contains_or, List.contains_nil, Bool.or_false]
  generalize (_ || _ : Bool) = x
  cases x <;> rfl
theorem sSub_str (s : ByteArray) (a b : Nat) (h1 : a ≤ b) (h2 : b ≤ s.size) : sSub s (a : Int) (b : Int) = some (str (((bs s).drop a).take (b - a))) := by
  unfold sSub
  rw [cond_dec, if_pos ⟨by omega, by omega, by omega⟩]
  congr 1
  apply bs_inj
  rw [bs_str, bs_extract]
  simp
def sgn2 : List Bs := [[61, 61], [126, 61], [60, 61], [62, 61], [47, 47], [46, 46]]
def sgn1 : Bs := [43, 45, 42, 37, 60, 62, 61, 35, 40, 41, 123, 125, 91, 93, 59, 44, 46]
theorem signList_eq : signList = sgn2 ++ sgn1.map (fun c => [c]) := rfl
theorem find_two (l : Bs) : ∀ ws : List Bs, (∀ s ∈ ws, s.length = 2) → ws.find? (fun s => s.isPrefixOf l) = if ws.contains (l.take 2) then some (l.take 2) else none
  | [], _ => rfl
  | w :: ws, h => by
    have hw := h w (List.mem_cons_self ..)
    rw [List.find?_cons, find_two l ws fun s hs => h s (List.mem_cons_of_mem _ hs), contains_or]
    have e : w.isPrefixOf l = (l.take 2 == w) := by
      rw [Bool.eq_iff_iff, List.isPrefixOf_iff_prefix, beq_iff_eq, List.prefix_iff_eq_take, hw]
      exact eq_comm
    rw [e]
    cases hc : (l.take 2 == w) with
    | true => rw [← beq_iff_eq.1 hc]; simp
    | false => simp
theorem find_one (c : UInt8) (t : Bs) : ∀ ws : Bs, (ws.map fun c => [c]).find? (fun s => s.isPrefixOf (c :: t)) = if ws.contains c then some [c] else none
  | [] => rfl
  | w :: ws => by
    rw [List.map_cons, List.find?_cons, find_one c t ws, List.contains_cons]
    have e : ([w].isPrefixOf (c :: t)) = (c == w) := by
      show ((w == c) && true) = _
      rw [Bool.and_true, Bool.eq_iff_iff, beq_iff_eq, beq_iff_eq]
      exact eq_comm
    rw [e]
    cases hc : (c == w) with
    | true => rw [beq_iff_eq.1 hc]; simp
    | false => simp
theorem signF_eq (c : UInt8) (t : Bs) : signF (c :: t) = if sgn2.contains ((c :: t).take 2) then some ((c :: t).take 2) else if sgn1.contains c then some [c] else none := by
  unfold signF
  rw [signList_eq, List.find?_append, find_two _ _ (by decide), find_one]
  split <;> rfl
theorem beq_byte (c d : UInt8) : ((c.toNat : Int) == (d.toNat : Int)) = (c == d) := by
  rw [Bool.eq_iff_iff, beq_iff_eq, beq_iff_eq, ← UInt8.toNat_inj]
  omega
def sgnR (l : Bs) : Bs := match signF l with | none => [] | some t => t
set_option maxRecDepth 20000 in
theorem sign_eq (k : Nat) (s : ByteArray) (at_ : Nat) (hs : s.size ≤ 1000000) (h : at_ < s.size) : r11_sign.f k s (at_ : Int) = some (str (sgnR ((bs s).drop at_))) := by
  have hal : at_ < (bs s).length := by rw [bs_length]; omega
  have hdr : (bs s).drop at_ = (bs s)[at_] :: (bs s).drop (at_ + 1) := List.drop_eq_getElem_cons hal
  have hc : sIdx s (at_ : Int) = some (bs s)[at_] := by rw [sIdx_nat, List.getElem?_eq_getElem hal]
  have e1 : IntKind.i64.wrap ((at_ : Int) + 1) = ((at_ + 1 : Nat) : Int) := by rw [wi _ (by omega) (by omega)]; omega
  have e2 : IntKind.i64.wrap ((at_ : Int) + 2) = ((at_ + 2 : Nat) : Int) := by rw [wi _ (by omega) (by omega)]; omega
  have e3 : IntKind.i64.wrap ((s.size : Int) - 1) = (s.size : Int) - 1 := wi _ (by omega) (by omega)
  have hlenT : ((bs s).drop (at_ + 1)).length = s.size - (at_ + 1) := by rw [List.length_drop, bs_length]
  have h1 : sSub s (at_ : Int) ((at_ + 1 : Nat) : Int) = some (str [(bs s)[at_]]) := by
    rw [sSub_str s at_ (at_ + 1) (by omega) (by omega), hdr, show at_ + 1 - at_ = 1 by omega]; rfl
  unfold r11_sign.f
  rw [e1, e2, e3, hc, h1]
  unfold sgnR
  rw [hdr, signF_eq]
  generalize (bs s)[at_] = c at *
  have key : ∀ b : Bool, b = sgn1.contains c → (joinF (fun (x3 : Bool) => cond x3 ((some (str [c])).bind fun s6 : ByteArray => some (s6)) (some ((⟨#[]⟩ : ByteArray)))) (fun J4 => J4 b) : Option ByteArray) = some (str (match (if sgn1.contains c then some [c] else none) with | none => [] | some t => t)) := by
    intro b hb
    rw [← hb]
    cases b <;> rfl
  have one : ∀ (J4 : Bool → Option ByteArray), (cond ((c.toNat : Int) == (43 : Int)) (J4 ((c.toNat : Int) == (43 : Int))) (cond ((c.toNat : Int) == (45 : Int)) (J4 ((c.toNat : Int) == (45 : Int))) (cond ((c.toNat : Int) == (42 : Int)) (J4 ((c.toNat : Int) == (42 : Int))) (cond ((c.toNat : Int) == (37 : Int)) (J4 ((c.toNat : Int) == (37 : Int))) (cond ((c.toNat : Int) == (60 : Int)) (J4 ((c.toNat : Int) == (60 : Int))) (cond ((c.toNat : Int) == (62 : Int)) (J4 ((c.toNat : Int) == (62 : Int))) (cond ((c.toNat : Int) == (61 : Int)) (J4 ((c.toNat : Int) == (61 : Int))) (cond ((c.toNat : Int) == (35 : Int)) (J4 ((c.toNat : Int) == (35 : Int))) (cond ((c.toNat : Int) == (40 : Int)) (J4 ((c.toNat : Int) == (40 : Int))) (cond ((c.toNat : Int) == (41 : Int)) (J4 ((c.toNat : Int) == (41 : Int))) (cond ((c.toNat : Int) == (123 : Int)) (J4 ((c.toNat : Int) == (123 : Int))) (cond ((c.toNat : Int) == (125 : Int)) (J4 ((c.toNat : Int) == (125 : Int))) (cond ((c.toNat : Int) == (91 : Int)) (J4 ((c.toNat : Int) == (91 : Int))) (cond ((c.toNat : Int) == (93 : Int)) (J4 ((c.toNat : Int) == (93 : Int))) (cond ((c.toNat : Int) == (59 : Int)) (J4 ((c.toNat : Int) == (59 : Int))) (cond ((c.toNat : Int) == (44 : Int)) (J4 ((c.toNat : Int) == (44 : Int))) (J4 ((c.toNat : Int) == (46 : Int))))))))))))))))))) = J4 (sgn1.contains c) := by
    intro J4
    simp only [chainJ]
    congr 1
    unfold sgn1
    simp only [List.contains_cons, List.contains_nil, Bool.or_false]
    have e := fun d => beq_byte c d
    simp only [← e]
    rfl
  unfold joinF
  simp only [Option.bind_some]
  simp only [cond_dec]
  by_cases h2 : at_ + 1 < s.size
  · obtain ⟨d, t, ht⟩ : ∃ d t, (bs s).drop (at_ + 1) = d :: t := by
      cases hq : (bs s).drop (at_ + 1) with
      | nil => rw [hq] at hlenT; simp at hlenT; omega
      | cons d t => exact ⟨d, t, rfl⟩
    have hs2 : sSub s (at_ : Int) ((at_ + 2 : Nat) : Int) = some (str [c, d]) := by
      rw [sSub_str s at_ (at_ + 2) (by omega) (by omega), hdr, ht, show at_ + 2 - at_ = 2 by omega]; rfl
    rw [if_pos (by omega), hs2, ht]
    simp only [Option.bind_some]
    have two : ∀ (J26 : Bool → Option ByteArray), (cond ((str [c, d]).toList == (⟨#[61, 61]⟩ : ByteArray).toList) (J26 ((str [c, d]).toList == (⟨#[61, 61]⟩ : ByteArray).toList)) (cond ((str [c, d]).toList == (⟨#[126, 61]⟩ : ByteArray).toList) (J26 ((str [c, d]).toList == (⟨#[126, 61]⟩ : ByteArray).toList)) (cond ((str [c, d]).toList == (⟨#[60, 61]⟩ : ByteArray).toList) (J26 ((str [c, d]).toList == (⟨#[60, 61]⟩ : ByteArray).toList)) (cond ((str [c, d]).toList == (⟨#[62, 61]⟩ : ByteArray).toList) (J26 ((str [c, d]).toList == (⟨#[62, 61]⟩ : ByteArray).toList)) (cond ((str [c, d]).toList == (⟨#[47, 47]⟩ : ByteArray).toList) (J26 ((str [c, d]).toList == (⟨#[47, 47]⟩ : ByteArray).toList)) (J26 ((str [c, d]).toList == (⟨#[46, 46]⟩ : ByteArray).toList))))))) = J26 (sgn2.contains [c, d]) := by
      intro J
      simp only [chainJ, toL, bs_str]
      have e : ∀ l : Bs, bs (⟨l.toArray⟩ : ByteArray) = l := bs_mk
      simp only [e]
      unfold sgn2
      simp only [contains_or, List.contains_nil, Bool.or_false]
    have key2 := key _ rfl
    unfold joinF at key2
    simp only [Option.bind_some] at key2
    rw [show (c :: d :: t).take 2 = [c, d] from rfl]
    have one' := one (fun x3 => cond x3 (some (str [c])) (some ((⟨#[]⟩ : ByteArray))))
    refine (two (fun x25 => cond x25 (some (str [c, d])) _)).trans ?_
    cases hx : sgn2.contains [c, d] with
    | true => rfl
    | false =>
      simp only [cond_false, Bool.false_eq_true, if_false]
      exact one'.trans key2
  · have ht : (bs s).drop (at_ + 1) = [] := List.eq_nil_of_length_eq_zero (by rw [hlenT]; omega)
    rw [if_neg (by omega), ht]
    have hx : sgn2.contains ([c].take 2) = false := by
      show sgn2.contains [c] = false
      unfold sgn2
      simp
    rw [hx]
    simp only [Bool.false_eq_true, if_false]
    have key2 := key _ rfl
    unfold joinF at key2
    simp only [Option.bind_some] at key2
    exact (one (fun x3 => cond x3 (some (str [c])) (some ((⟨#[]⟩ : ByteArray))))).trans key2
end Go.Proofs.YtadenjlehhopmaaDoor

namespace Go.Proofs.YtadenjlehhopmaaDoor
open Go Go.RowKit Lx
theorem w8 (x : Int) (h0 : 0 ≤ x) (h1 : x < 256) : IntKind.u8.wrap x = x := by unfold IntKind.wrap; simp [IntKind.bits, IntKind.signed]; omega
theorem tm (n m : Nat) : Int.tmod (n : Int) (m : Int) = ((n % m : Nat) : Int) := (Int.ofNat_tmod n m).symm
theorem td (n m : Nat) : Int.tdiv (n : Int) (m : Int) = ((n / m : Nat) : Int) := (Int.ofNat_tdiv n m).symm
def bI (b : Bs) : List Int := b.map fun x => (x.toNat : Int)
theorem strOf_bI (b : Bs) : strOfNums (bI b) = str b := by
  unfold strOfNums bI str
  congr 2
  rw [List.map_map]
  conv => rhs; rw [← List.map_id b]
  apply List.map_congr_left
  intro x _
  simp
theorem bsI_bI (s : ByteArray) : bsI s = bI (bs s) := rfl
theorem cond_q {α : Type} (p : Prop) [Decidable p] (x y : Option Bool) (f : Bool → Option α) : ((cond (decide p) x y).bind f) = if p then x.bind f else y.bind f := by
  rw [cond_dec]; split <;> rfl
theorem hexes_loop (s : ByteArray) (hs : s.size ≤ 1000000) (at_ most : Nat) (ha : at_ ≤ 1000010) (hm : most ≤ 8) : ∀ (m j n k : Nat), m + j = most → n < 16 ^ j → m < k →
    r11_hexes.l0 k s (at_ : Int) (most : Int) (fun a b => some (a, b)) (n : Int) (j : Int) = some (((hexG m ((bs s).drop (at_ + j)) n j).1 : Int), ((hexG m ((bs s).drop (at_ + j)) n j).2 : Int))
  | m, j, n, k, hj, hn, hk => by
    obtain ⟨k, rfl⟩ : ∃ m, k = m + 1 := ⟨k - 1, by omega⟩
    have h16 : 16 ^ j ≤ 16 ^ 8 := Nat.pow_le_pow_right (by omega) (by omega)
    have hn2 : n < 4294967296 := by omega
    simp only [r11_hexes.l0]
    cases m with
    | zero =>
      rw [cond_dec, if_neg (by omega)]
      simp [hexG]
    | succ m =>
      rw [cond_dec, if_pos (by omega), wi ((at_ : Int) + j) (by omega) (by omega)]
      simp only [Option.bind_some]
      rcases Nat.lt_or_ge (at_ + j) s.size with h | h
      · rw [cond_dec, if_pos (by omega)]
        have hal : at_ + j < (bs s).length := by rw [bs_length]; omega
        have hdr : (bs s).drop (at_ + j) = (bs s)[at_ + j] :: (bs s).drop (at_ + (j + 1)) := by rw [← Nat.add_assoc]; exact List.drop_eq_getElem_cons hal
        have hc : sIdx s ((at_ : Int) + j) = some (bs s)[at_ + j] := by rw [show (at_ : Int) + j = ((at_ + j : Nat) : Int) by omega, sIdx_nat, List.getElem?_eq_getElem hal]
        rw [hc, hdr]
        generalize (bs s)[at_ + j] = c
        have hcl := c.toNat_lt
        have hpw := Nat.pow_succ 16 j
        have ih : ∀ d : Nat, d < 16 → r11_hexes.l0 k s (at_ : Int) (most : Int) (fun a b => some (a, b)) ((16 * n + d : Nat) : Int) ((j : Int) + 1) = some (((hexG m ((bs s).drop (at_ + (j + 1))) (16 * n + d) (j + 1)).1 : Int), ((hexG m ((bs s).drop (at_ + (j + 1))) (16 * n + d) (j + 1)).2 : Int)) := fun d hd => by
          have := hexes_loop s hs at_ most ha hm m (j + 1) (16 * n + d) k (by omega) (by omega) (by omega)
          rw [show ((j + 1 : Nat) : Int) = (j : Int) + 1 by omega] at this
          exact this
        simp only [Option.bind_some, joinF, wb, hexG]
        rw [wi ((j : Int) + 1) (by omega) (by omega), wi ((n : Int) * 16) (by omega) (by omega), wi ((n : Int) * 16 + c.toNat) (by omega) (by omega)]
        unfold hexD
        have T : ∀ {p : Prop} [Decidable p], p → decide p = true := fun h => decide_eq_true h
        have F : ∀ {p : Prop} [Decidable p], ¬ p → decide p = false := fun h => decide_eq_false h
        by_cases h1 : 48 ≤ c.toNat ∧ c.toNat ≤ 57
        · rw [if_pos h1, T (p := (c.toNat : Int) ≥ 48) (by omega), T (p := (c.toNat : Int) ≤ 57) (by omega)]
          simp only [cond_true, Option.bind_some]
          rw [wi ((n : Int) * 16 + c.toNat - 48) (by omega) (by omega), ← ih (c.toNat - 48) (by omega)]
          congr 1
          omega
        rw [if_neg h1]
        by_cases h2 : 97 ≤ c.toNat ∧ c.toNat ≤ 102
        · rw [if_pos h2, T (p := (c.toNat : Int) ≥ 48) (by omega), F (p := (c.toNat : Int) ≤ 57) (by omega), T (p := (c.toNat : Int) ≥ 97) (by omega), T (p := (c.toNat : Int) ≤ 102) (by omega)]
          simp only [cond_true, cond_false, Option.bind_some]
          rw [wi ((n : Int) * 16 + c.toNat - 97) (by omega) (by omega), wi ((n : Int) * 16 + c.toNat - 97 + 10) (by omega) (by omega), ← ih (c.toNat - 87) (by omega)]
          congr 1
          omega
        rw [if_neg h2]
        by_cases h3 : 65 ≤ c.toNat ∧ c.toNat ≤ 70
        · rw [if_pos h3, T (p := (c.toNat : Int) ≥ 48) (by omega), F (p := (c.toNat : Int) ≤ 57) (by omega), F (p := (c.toNat : Int) ≥ 97) (by omega), T (p := (c.toNat : Int) ≥ 65) (by omega), T (p := (c.toNat : Int) ≤ 70) (by omega)]
          simp only [cond_true, cond_false, Option.bind_some]
          rw [wi ((n : Int) * 16 + c.toNat - 65) (by omega) (by omega), wi ((n : Int) * 16 + c.toNat - 65 + 10) (by omega) (by omega), ← ih (c.toNat - 55) (by omega)]
          congr 1
          omega
        rw [if_neg h3]
        have hq : c.toNat < 48 ∨ (57 < c.toNat ∧ c.toNat < 65) ∨ (70 < c.toNat ∧ c.toNat < 97) ∨ 102 < c.toNat := by omega
        rcases hq with h | h | h | h
        · rw [F (p := (c.toNat : Int) ≥ 48) (by omega), F (p := (c.toNat : Int) ≥ 97) (by omega), F (p := (c.toNat : Int) ≥ 65) (by omega)]; rfl
        · rw [T (p := (c.toNat : Int) ≥ 48) (by omega), F (p := (c.toNat : Int) ≤ 57) (by omega), F (p := (c.toNat : Int) ≥ 97) (by omega), F (p := (c.toNat : Int) ≥ 65) (by omega)]; rfl
        · rw [T (p := (c.toNat : Int) ≥ 48) (by omega), F (p := (c.toNat : Int) ≤ 57) (by omega), F (p := (c.toNat : Int) ≥ 97) (by omega), T (p := (c.toNat : Int) ≥ 65) (by omega), F (p := (c.toNat : Int) ≤ 70) (by omega)]; rfl
        · rw [T (p := (c.toNat : Int) ≥ 48) (by omega), F (p := (c.toNat : Int) ≤ 57) (by omega), T (p := (c.toNat : Int) ≥ 97) (by omega), F (p := (c.toNat : Int) ≤ 102) (by omega), T (p := (c.toNat : Int) ≥ 65) (by omega), F (p := (c.toNat : Int) ≤ 70) (by omega)]; rfl
      · rw [cond_dec, if_neg (by omega), List.drop_of_length_le (by rw [bs_length]; omega)]
        simp [hexG]
theorem hexes_eq (s : ByteArray) (hs : s.size ≤ 1000000) (at_ most k : Nat) (ha : at_ ≤ 1000010) (hm : most ≤ 8) (hk : 8 < k) :
    r11_hexes.f k s (at_ : Int) (most : Int) = some (((hexG most ((bs s).drop at_) 0 0).1 : Int), ((hexG most ((bs s).drop at_) 0 0).2 : Int)) := by
  unfold r11_hexes.f joinF
  exact hexes_loop s hs at_ most ha hm most 0 0 k rfl (by omega) (by omega)
def encR (n : Nat) : ByteArray × Int := if Utf8.valid n then (Utf8.encode n, 0) else (⟨#[]⟩, 3)
theorem enc_small (n : Nat) (hv : Utf8.valid (n : Int) = true) : Utf8.encode (n : Int) = if n < 128 then str [UInt8.ofNat n] else if n < 2048 then str [UInt8.ofNat (192 + n / 64), UInt8.ofNat (128 + n % 64)] else if n < 65536 then str [UInt8.ofNat (224 + n / 4096), UInt8.ofNat (128 + n / 64 % 64), UInt8.ofNat (128 + n % 64)] else str [UInt8.ofNat (240 + n / 262144), UInt8.ofNat (128 + n / 4096 % 64), UInt8.ofNat (128 + n / 64 % 64), UInt8.ofNat (128 + n % 64)] := by
  unfold Utf8.encode
  simp only [hv, if_true, Int.toNat_natCast]
  rfl
set_option maxRecDepth 100000 in
theorem encode_eq (n k : Nat) (hn : n ≤ 4294967296) (hk : 4 < k) : r01_Encode.f k (n : Int) = some (encR n) := by
  unfold r01_Encode.f encR
  rw [good_eq]
  simp only [Option.bind_some]
  cases hv : Utf8.valid (n : Int) with
  | false => rfl
  | true =>
    have hmax : n ≤ 1114111 := by
      rcases Nat.lt_or_ge 1114111 n with h | h
      · rw [valid_top n h] at hv; cases hv
      · exact h
    rw [bytes_eq, enc_small n hv]
    obtain ⟨k, rfl⟩ : ∃ m, k = m + 4 := ⟨k - 4, by omega⟩
    simp only [Bool.not_true, cond_false, Option.bind_some, cond_beq, if_true]
    unfold lenR
    have hb : ∀ x y : Nat, x < 256 → x = y → UInt8.ofNat ((x : Int).toNat) = UInt8.ofNat y := fun x y _ h => by subst h; simp
    by_cases h1 : n < 128
    · rw [if_pos h1, if_pos (by decide), if_pos h1, w8 _ (by omega) (by omega)]
      rfl
    · rw [if_neg h1, if_neg h1]
      by_cases h2 : n < 2048
      · rw [if_pos h2, if_pos h2, if_neg (by decide)]
        have e : mkd 1 (0 : Int) ((2 : Nat) : Int) = some [0, 0] := by decide
        rw [e]
        simp only [Option.bind_some, joinF]
        rw [show IntKind.i64.wrap (((2 : Nat) : Int) - 1) = 1 by decide]
        simp only [r01_Encode.l0, cond_dec]
        rw [if_pos (by omega), show lIdx [(0 : Int), 0] 1 = some 0 by decide]
        simp only [Option.bind_some, lSet, cond_dec]
        rw [if_pos (by decide)]
        simp only [Option.bind_some]
        rw [show IntKind.i64.wrap ((1 : Int) - 1) = 0 by decide, if_neg (by omega)]
        rw [show ((64 : Int)) = ((64 : Nat) : Int) from rfl, tm, td, wi (128 + ((n % 64 : Nat) : Int)) (by omega) (by omega), w8 (128 + ((n % 64 : Nat) : Int)) (by omega) (by omega), wi ((n / 64 : Nat) : Int) (by omega) (by omega)]
        simp only [show ((1 : Int)).toNat = 1 from rfl, List.set_cons_succ, List.set_cons_zero, lIdx, Int.le_refl, if_true, show ((0 : Int)).toNat = 0 from rfl, List.getElem?_cons_zero, Option.bind_some]
        rw [if_neg (by decide), if_neg (by decide), if_pos (by simp)]
        simp only [Option.bind_some, List.set_cons_zero]
        rw [wi (192 + ((n / 64 : Nat) : Int)) (by omega) (by omega), w8 (192 + ((n / 64 : Nat) : Int)) (by omega) (by omega)]
        simp only [strOfNums, str, List.map_cons, List.map_nil]
        rw [show ((192 + ((n / 64 : Nat) : Int)).toNat) = 192 + n / 64 by omega, show ((128 + ((n % 64 : Nat) : Int)).toNat) = 128 + n % 64 by omega]
      · rw [if_neg h2, if_neg h2]
        by_cases h3 : n < 65536
        · rw [if_pos h3, if_pos h3, if_neg (by decide)]
          have e : mkd 1 (0 : Int) ((3 : Nat) : Int) = some [0, 0, 0] := by decide
          rw [e]
          simp only [Option.bind_some, joinF]
          rw [show IntKind.i64.wrap (((3 : Nat) : Int) - 1) = 2 by decide]
          simp only [r01_Encode.l0, cond_dec]
          rw [if_pos (by omega), show lIdx [(0 : Int), 0, 0] 2 = some 0 by decide]
          simp only [Option.bind_some, lSet, cond_dec]
          rw [if_pos (by decide)]
          simp only [Option.bind_some]
          rw [show IntKind.i64.wrap ((2 : Int) - 1) = 1 by decide, if_pos (by omega)]
          rw [show ((64 : Int)) = ((64 : Nat) : Int) from rfl, tm, td, wi (128 + ((n % 64 : Nat) : Int)) (by omega) (by omega), w8 (128 + ((n % 64 : Nat) : Int)) (by omega) (by omega), wi ((n / 64 : Nat) : Int) (by omega) (by omega)]
          simp only [show ((2 : Int)).toNat = 2 from rfl, List.set_cons_succ, List.set_cons_zero, lIdx, show (0 : Int) ≤ 1 by omega, if_true, show ((1 : Int)).toNat = 1 from rfl, List.getElem?_cons_zero, List.getElem?_cons_succ, Option.bind_some]
          rw [if_pos (by simp)]
          simp only [Option.bind_some]
          rw [show IntKind.i64.wrap ((1 : Int) - 1) = 0 by decide, if_neg (by omega)]
          rw [tm, td, wi (128 + ((n / 64 % 64 : Nat) : Int)) (by omega) (by omega), w8 (128 + ((n / 64 % 64 : Nat) : Int)) (by omega) (by omega), wi ((n / 64 / 64 : Nat) : Int) (by omega) (by omega)]
          simp only [Int.le_refl, if_true, show ((0 : Int)).toNat = 0 from rfl, List.getElem?_cons_zero, Option.bind_some]
          rw [if_pos (by decide), if_neg (by decide), if_pos (by simp)]
          simp only [Option.bind_some, List.set_cons_zero, List.set_cons_succ]
          rw [wi (224 + ((n / 64 / 64 : Nat) : Int)) (by omega) (by omega), w8 (224 + ((n / 64 / 64 : Nat) : Int)) (by omega) (by omega)]
          simp only [strOfNums, str, List.map_cons, List.map_nil]
          rw [show ((224 + ((n / 64 / 64 : Nat) : Int)).toNat) = 224 + n / 4096 by omega, show ((128 + ((n % 64 : Nat) : Int)).toNat) = 128 + n % 64 by omega, show ((128 + ((n / 64 % 64 : Nat) : Int)).toNat) = 128 + n / 64 % 64 by omega]
        · rw [if_neg h3, if_neg h3, if_neg (by decide)]
          have e : mkd 1 (0 : Int) ((4 : Nat) : Int) = some [0, 0, 0, 0] := by decide
          rw [e]
          simp only [Option.bind_some, joinF]
          rw [show IntKind.i64.wrap (((4 : Nat) : Int) - 1) = 3 by decide]
          simp only [r01_Encode.l0, cond_dec]
          rw [if_pos (by omega), show lIdx [(0 : Int), 0, 0, 0] 3 = some 0 by decide]
          simp only [Option.bind_some, lSet, cond_dec]
          rw [if_pos (by decide)]
          simp only [Option.bind_some]
          rw [show IntKind.i64.wrap ((3 : Int) - 1) = 2 by decide, if_pos (by omega)]
          rw [show ((64 : Int)) = ((64 : Nat) : Int) from rfl, tm, td, wi (128 + ((n % 64 : Nat) : Int)) (by omega) (by omega), w8 (128 + ((n % 64 : Nat) : Int)) (by omega) (by omega), wi ((n / 64 : Nat) : Int) (by omega) (by omega)]
          simp only [show ((3 : Int)).toNat = 3 from rfl, List.set_cons_succ, List.set_cons_zero, lIdx, show (0 : Int) ≤ 2 by omega, if_true, show ((2 : Int)).toNat = 2 from rfl, List.getElem?_cons_zero, List.getElem?_cons_succ, Option.bind_some]
          rw [if_pos (by simp)]
          simp only [Option.bind_some]
          rw [show IntKind.i64.wrap ((2 : Int) - 1) = 1 by decide, if_pos (by omega)]
          rw [tm, td, wi (128 + ((n / 64 % 64 : Nat) : Int)) (by omega) (by omega), w8 (128 + ((n / 64 % 64 : Nat) : Int)) (by omega) (by omega), wi ((n / 64 / 64 : Nat) : Int) (by omega) (by omega)]
          simp only [List.set_cons_succ, List.set_cons_zero, show (0 : Int) ≤ 1 by omega, if_true, show ((1 : Int)).toNat = 1 from rfl, List.getElem?_cons_zero, List.getElem?_cons_succ, Option.bind_some]
          rw [if_pos (by simp)]
          simp only [Option.bind_some]
          rw [show IntKind.i64.wrap ((1 : Int) - 1) = 0 by decide, if_neg (by omega)]
          rw [tm, td, wi (128 + ((n / 64 / 64 % 64 : Nat) : Int)) (by omega) (by omega), w8 (128 + ((n / 64 / 64 % 64 : Nat) : Int)) (by omega) (by omega), wi ((n / 64 / 64 / 64 : Nat) : Int) (by omega) (by omega)]
          simp only [Int.le_refl, if_true, show ((0 : Int)).toNat = 0 from rfl, List.getElem?_cons_zero, Option.bind_some]
          rw [if_neg (by decide), if_pos (by decide), if_pos (by simp)]
          simp only [Option.bind_some, List.set_cons_zero, List.set_cons_succ]
          rw [wi (240 + ((n / 64 / 64 / 64 : Nat) : Int)) (by omega) (by omega), w8 (240 + ((n / 64 / 64 / 64 : Nat) : Int)) (by omega) (by omega)]
          simp only [strOfNums, str, List.map_cons, List.map_nil]
          rw [show ((240 + ((n / 64 / 64 / 64 : Nat) : Int)).toNat) = 240 + n / 262144 by omega, show ((128 + ((n % 64 : Nat) : Int)).toNat) = 128 + n % 64 by omega, show ((128 + ((n / 64 % 64 : Nat) : Int)).toNat) = 128 + n / 64 % 64 by omega, show ((128 + ((n / 64 / 64 % 64 : Nat) : Int)).toNat) = 128 + n / 4096 % 64 by omega]
end Go.Proofs.YtadenjlehhopmaaDoor
