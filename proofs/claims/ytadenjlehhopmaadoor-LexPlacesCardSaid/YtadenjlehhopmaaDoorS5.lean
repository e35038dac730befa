/- The reference's escapes and strings, continued. -/
import Derived.Test.YtadenjlehhopmaaDoorS3
namespace Go.Proofs.YtadenjlehhopmaaDoor
set_option linter.unusedSimpArgs false
set_option linter.unusedVariables false
open Go Go.RowKit Lx
theorem dT {p : Prop} [Decidable p] (h : p) : decide p = true := decide_eq_true h
theorem dF {p : Prop} [Decidable p] (h : ¬ p) : decide p = false := decide_eq_false h
theorem bq (c d : UInt8) : ((c.toNat : Int) == (d.toNat : Int)) = decide (c = d) := by
  rw [beq_byte, Bool.eq_iff_iff, beq_iff_eq, decide_eq_true_eq]
theorem bn (c d : UInt8) : ((c.toNat : Int) != (d.toNat : Int)) = decide (c ≠ d) := by
  rw [bne, beq_byte, Bool.eq_iff_iff, decide_eq_true_eq]
  simp
theorem drop_s (s : ByteArray) (i : Nat) (h : i < s.size) : (bs s).drop i = s[i] :: (bs s).drop (i + 1) := drop_at s i h
theorem sIdx_at (s : ByteArray) (i : Nat) (h : i < s.size) : sIdx s (i : Int) = some s[i] := by rw [sIdx_head, drop_s s i h]; rfl
theorem dec_loop (s : ByteArray) (hs : s.size ≤ 1000000) (i : Nat) (hi : i ≤ 1000000) (J : Int → Int → Option (List Int × Int)) : ∀ (m j n k : Nat), m + j = 3 → n < 1000 ^ (j + 1) → m < k →
    r11_escape.l0 k s (i : Int) J (n : Int) (j : Int) = J ((decG m ((bs s).drop (i + 1 + j)) n j).1 : Int) ((decG m ((bs s).drop (i + 1 + j)) n j).2 : Int)
  | m, j, n, k, hj, hn, hk => by
    obtain ⟨k, rfl⟩ : ∃ m, k = m + 1 := ⟨k - 1, by omega⟩
    simp only [r11_escape.l0]
    rw [wi ((i : Int) + 1) (by omega) (by omega)]
    cases m with
    | zero =>
      rw [dF (p := (j : Int) < 3) (by omega)]
      rfl
    | succ m =>
      rw [dT (p := (j : Int) < 3) (by omega), wi ((i : Int) + 1 + j) (by omega) (by omega), show (i : Int) + 1 + j = ((i + 1 + j : Nat) : Int) by omega]
      rcases Nat.lt_or_ge (i + 1 + j) s.size with h | h
      · rw [dT (p := ((i + 1 + j : Nat) : Int) < s.size) (by omega), sIdx_at s _ h, drop_s s _ h]
        generalize s[i + 1 + j] = c
        have hcl := c.toNat_lt
        simp only [cond_true, Option.bind_some, decG]
        have hnb : n < 1000000000 := by
          have : 1000 ^ (j + 1) ≤ 1000 ^ 3 := Nat.pow_le_pow_right (by omega) (by omega)
          omega
        by_cases h1 : 48 ≤ c.toNat
        · rw [dT (p := (c.toNat : Int) ≥ 48) (by omega)]
          simp only [cond_true, Option.bind_some]
          by_cases h2 : c.toNat ≤ 57
          · rw [dT (p := (c.toNat : Int) ≤ 57) (by omega), if_pos ⟨h1, h2⟩]
            simp only [cond_true]
            have hp : 1000 ^ (j + 1 + 1) = 1000 ^ (j + 1) * 1000 := Nat.pow_succ _ _
            have hj3 : j ≤ 2 := by omega
            have hn3 : 10 * n + (c.toNat - 48) < 1000 ^ (j + 1 + 1) := by
              have : 1 ≤ 1000 ^ (j + 1) := Nat.one_le_pow _ _ (by omega)
              omega
            have hw : n * 10 ≤ 10000000000 := by
              have : 1000 ^ (j + 1) ≤ 1000 ^ 3 := Nat.pow_le_pow_right (by omega) (by omega)
              omega
            have := dec_loop s hs i hi J m (j + 1) (10 * n + (c.toNat - 48)) k (by omega) hn3 (by omega)
            rw [wb, wi ((n : Int) * 10) (by omega) (by omega), wi ((n : Int) * 10 + c.toNat) (by omega) (by omega), wi ((n : Int) * 10 + c.toNat - 48) (by omega) (by omega), wi ((j : Int) + 1) (by omega) (by omega)]
            rw [show i + 1 + j + 1 = i + 1 + (j + 1) by omega, ← this]
            congr 1
            omega
          · rw [dF (p := (c.toNat : Int) ≤ 57) (by omega), if_neg (by omega)]
            rfl
        · rw [dF (p := (c.toNat : Int) ≥ 48) (by omega), if_neg (by omega)]
          rfl
      · rw [dF (p := ((i + 1 + j : Nat) : Int) < s.size) (by omega), List.drop_of_length_le (by rw [bs_length]; omega)]
        rfl
def escR (l : Bs) : List Int × Int := match escF l with | .ok b n => (bI b, (n : Int)) | _ => ([], 0)
set_option maxRecDepth 100000 in
theorem escape_eq (s : ByteArray) (hs : s.size ≤ 1000000) (i k : Nat) (hi : i + 1 < s.size) (hk : 20 < k) : r11_escape.f k s (i : Int) = some (escR ((bs s).drop (i + 1))) := by
  unfold r11_escape.f escR
  have e1 : IntKind.i64.wrap ((i : Int) + 1) = ((i + 1 : Nat) : Int) := by rw [wi _ (by omega) (by omega)]; omega
  have e2 : IntKind.i64.wrap ((i : Int) + 2) = ((i + 2 : Nat) : Int) := by rw [wi _ (by omega) (by omega)]; omega
  have e3 : IntKind.i64.wrap ((i : Int) + 3) = ((i + 3 : Nat) : Int) := by rw [wi _ (by omega) (by omega)]; omega
  rw [e1, e2, e3, sIdx_at s _ hi, drop_s s _ hi, show i + 1 + 1 = i + 2 by omega]
  have hdec := dec_loop s hs i (by omega) (fun (x34 : Int) (x35 : Int) => ((cond (x35 == (0 : Int)) (some true) (some (decide (x34 > (255 : Int)))) : Option Bool).bind fun q37 => cond q37 (some (([] : List Int), (0 : Int))) (some ([IntKind.u8.wrap x34], IntKind.i64.wrap (x35 + (1 : Int)))))) 3 0 0 k rfl (by omega) (by omega)
  rw [Nat.add_zero, drop_s s _ hi, show i + 1 + 1 = i + 2 by omega] at hdec
  generalize s[i + 1] = c at *
  have hcl := c.toNat_lt
  obtain ⟨E, hE⟩ : ∃ E, escF (c :: (bs s).drop (i + 2)) = E := ⟨_, rfl⟩
  have hE0 := hE
  rw [hE]
  rw [escF_cons] at hE
  simp only [Option.bind_some]
  by_cases c1 : c = 110
  · subst c1; subst hE; rfl
  by_cases c2 : c = 116
  · subst c2; subst hE; rfl
  by_cases c3 : c = 114
  · subst c3; subst hE; rfl
  have f1 : ((c.toNat : Int) == 110) = false := by rw [beq_eq_false_iff_ne]; intro h; exact c1 (UInt8.toNat_inj.1 (by show c.toNat = 110; omega))
  have f2 : ((c.toNat : Int) == 116) = false := by rw [beq_eq_false_iff_ne]; intro h; exact c2 (UInt8.toNat_inj.1 (by show c.toNat = 116; omega))
  have f3 : ((c.toNat : Int) == 114) = false := by rw [beq_eq_false_iff_ne]; intro h; exact c3 (UInt8.toNat_inj.1 (by show c.toNat = 114; omega))
  rw [f1, f2, f3]
  simp only [cond_false]
  generalize hJ9 : (fun (x8 : Bool) => cond x8 (some ([(c.toNat : Int)], (2 : Int))) _) = J9
  unfold joinF
  simp only [chainJ]
  subst hJ9
  by_cases c4 : c = 92 ∨ c = 34 ∨ c = 39
  · have hp : plainB c = c := by
      unfold plainB
      rw [if_neg c1, if_neg c2, if_neg c3, if_pos c4]
    have hb : (((c.toNat : Int) == 92) || (((c.toNat : Int) == 34) || ((c.toNat : Int) == 39))) = true := by
      rcases c4 with rfl | rfl | rfl <;> rfl
    rw [if_pos (by rw [hp]; rcases c4 with rfl | rfl | rfl <;> decide), hp] at hE
    rw [hb, ← hE]
    rfl
  have hp : plainB c = 0 := by
    unfold plainB
    rw [if_neg c1, if_neg c2, if_neg c3, if_neg c4]
  have hne : ∀ d : UInt8, c ≠ d → ((c.toNat : Int) == (d.toNat : Int)) = false := fun d h => by
    rw [beq_eq_false_iff_ne]
    intro he
    exact h (UInt8.toNat_inj.1 (by omega))
  have hb : (((c.toNat : Int) == 92) || (((c.toNat : Int) == 34) || ((c.toNat : Int) == 39))) = false := by
    simp only [not_or] at c4
    have g1 := hne 92 c4.1
    have g2 := hne 34 c4.2.1
    have g3 := hne 39 c4.2.2
    have g1 : ((c.toNat : Int) == 92) = false := g1
    have g2 : ((c.toNat : Int) == 34) = false := g2
    have g3 : ((c.toNat : Int) == 39) = false := g3
    rw [g1, g2, g3]; rfl
  rw [hb]
  rw [hp, if_neg (by simp)] at hE
  simp only [cond_false]
  by_cases c5 : c = 120
  · subst c5
    rw [if_pos rfl] at hE
    have := hexes_eq s hs (i + 2) 2 k (by omega) (by omega) (by omega)
    rw [show (2 : Int) = ((2 : Nat) : Int) from rfl, this]
    have hle := hexG_le 2 ((bs s).drop (i + 2)) 0 0 (by omega)
    have h16 : 16 ^ (hexG 2 ((bs s).drop (i + 2)) 0 0).2 ≤ 16 ^ 2 := Nat.pow_le_pow_right (by omega) (by omega)
    generalize hexG 2 ((bs s).drop (i + 2)) 0 0 = g at *
    simp only [Option.bind_some]
    rw [show (((120 : UInt8).toNat : Int) == 120) = true from rfl]
    simp only [cond_true]
    by_cases hg : g.2 < 2
    · rw [if_pos hg] at hE
      rw [← hE, show ((g.2 : Int) == ((2 : Nat) : Int)) = false by rw [beq_eq_false_iff_ne]; omega]
      rfl
    · rw [if_neg hg] at hE
      rw [← hE, show ((g.2 : Int) == ((2 : Nat) : Int)) = true by rw [beq_iff_eq]; omega, w8 _ (by omega) (by omega)]
      simp only [cond_true, bI, List.map_cons, List.map_nil]
      rw [show (UInt8.ofNat g.1).toNat = g.1 by simp; omega]
      rfl
  rw [if_neg c5] at hE
  rw [show ((c.toNat : Int) == 120) = false from hne 120 c5]
  simp only [cond_false]
  by_cases c6 : c = 117
  · subst c6
    rw [show (((117 : UInt8).toNat : Int) == 117) = true from rfl]
    simp only [cond_true]
    have hnd : ∀ t : Bs, decG 3 (117 :: t) 0 0 = (0, 0) := fun t => rfl
    clear hE
    by_cases h2 : i + 2 < s.size
    · rw [dF (p := ((i + 2 : Nat) : Int) ≥ s.size) (by omega), sIdx_at s _ h2]
      rw [drop_s s _ h2, show i + 2 + 1 = i + 3 by omega] at hE0
      generalize s[i + 2] = d at *
      simp only [cond_false, Option.bind_some]
      by_cases hd : d = 123
      · subst hd
        rw [escF_u] at hE0
        unfold uF at hE0
        rw [show (((123 : UInt8).toNat : Int) != 123) = false from rfl]
        simp only [cond_false]
        have := hexes_eq s hs (i + 3) 8 k (by omega) (by omega) (by omega)
        rw [show (8 : Int) = ((8 : Nat) : Int) from rfl, this]
        have hle := hexG_le 8 ((bs s).drop (i + 3)) 0 0 (by omega)
        have h16 : 16 ^ (hexG 8 ((bs s).drop (i + 3)) 0 0).2 ≤ 16 ^ 8 := Nat.pow_le_pow_right (by omega) (by omega)
        have hdr : ((bs s).drop (i + 3)).drop (hexG 8 ((bs s).drop (i + 3)) 0 0).2 = (bs s).drop (i + 3 + (hexG 8 ((bs s).drop (i + 3)) 0 0).2) := by rw [List.drop_drop]
        rw [hdr] at hE0
        rw [List.length_drop, bs_length] at hle
        generalize hexG 8 ((bs s).drop (i + 3)) 0 0 = g at *
        simp only [Option.bind_some]
        rw [encode_eq g.1 k (by omega) (by omega)]
        simp only [Option.bind_some, encR]
        rw [wi ((i + 3 : Nat) + (g.2 : Int)) (by omega) (by omega), show ((i + 3 : Nat) : Int) + (g.2 : Int) = ((i + 3 + g.2 : Nat) : Int) by omega]
        by_cases hg : g.2 = 0
        · rw [if_pos (.inl hg)] at hE0
          rw [← hE0, show ((g.2 : Int) == 0) = true by rw [beq_iff_eq]; omega]
          rfl
        rw [show ((g.2 : Int) == 0) = false by rw [beq_eq_false_iff_ne]; omega]
        simp only [cond_false]
        cases hv : Utf8.valid (g.1 : Int) with
        | false =>
          rw [if_pos (.inr (.inl hv))] at hE0
          rw [← hE0]
          rfl
        | true =>
          simp only [if_true]
          rw [show ((0 : Int) != 0) = false from rfl]
          simp only [cond_false]
          rcases Nat.lt_or_ge (i + 3 + g.2) s.size with h3 | h3
          · rw [dF (p := ((i + 3 + g.2 : Nat) : Int) ≥ s.size) (by omega), sIdx_at s _ h3]
            rw [drop_s s _ h3] at hE0
            generalize s[i + 3 + g.2] = z at *
            rw [List.head?_cons] at hE0
            simp only [cond_false, Option.bind_some]
            by_cases hz : z = 125
            · subst hz
              rw [if_neg (by simp [hg, hv])] at hE0
              rw [← hE0, show (((125 : UInt8).toNat : Int) != 125) = false from rfl]
              simp only [cond_false]
              have hes := encode_size g.1
              rw [dT (p := (Utf8.encode (g.1 : Int)).size ≤ 140737488355328) (by omega), wi ((g.2 : Int) + 4) (by omega) (by omega)]
              simp only [cond_true, bsI_bI]
              rw [show (g.2 : Int) + 4 = ((4 + g.2 : Nat) : Int) by omega]
            · rw [if_pos (.inr (.inr (by simpa using hz)))] at hE0
              rw [← hE0, show ((z.toNat : Int) != 125) = true by rw [bne_iff_ne]; intro h; exact hz (UInt8.toNat_inj.1 (by show z.toNat = 125; omega))]
              rfl
          · rw [List.drop_of_length_le (by rw [bs_length]; omega), if_pos (.inr (.inr (by simp)))] at hE0
            rw [← hE0, dT (p := ((i + 3 + g.2 : Nat) : Int) ≥ s.size) (by omega)]
            rfl
      · rw [escF_cons, if_neg (by decide), if_neg (by decide), if_neg (by simpa using hd), hnd] at hE0
        rw [← hE0, show ((d.toNat : Int) != 123) = true by rw [bne_iff_ne]; intro h; exact hd (UInt8.toNat_inj.1 (by show d.toNat = 123; omega))]
        rfl
    · rw [List.drop_of_length_le (by rw [bs_length]; omega), escF_cons, if_neg (by decide), if_neg (by decide), if_neg (by simp), hnd] at hE0
      rw [← hE0, dT (p := ((i + 2 : Nat) : Int) ≥ s.size) (by omega)]
      rfl
  rw [if_neg (fun h => c6 h.1)] at hE
  rw [show ((c.toNat : Int) == 117) = false from hne 117 c6]
  simp only [cond_false]
  rw [show ((0 : Nat) : Int) = 0 from rfl] at hdec
  refine hdec.trans ?_
  have hle := decG_le 3 (c :: (bs s).drop (i + 2)) 0 0
  have hk3 : (decG 3 (c :: (bs s).drop (i + 2)) 0 0).2 ≤ 3 := by
    have : ∀ (m : Nat) (l : Bs) (n k : Nat), (decG m l n k).2 ≤ k + m := by
      intro m
      induction m with
      | zero => intro l n k; simp [decG]
      | succ m ih =>
        intro l n k
        cases l with
        | nil => simp [decG]
        | cons b t =>
          rw [decG_step]
          split
          · have := ih t (10 * n + (b.toNat - 48)) (k + 1); omega
          · simp
    have := this 3 (c :: (bs s).drop (i + 2)) 0 0
    omega
  generalize decG 3 (c :: (bs s).drop (i + 2)) 0 0 = g at *
  by_cases hg : g.2 = 0
  · rw [if_pos (.inl hg)] at hE
    rw [← hE, show ((g.2 : Int) == 0) = true by rw [beq_iff_eq]; omega]
    rfl
  rw [show ((g.2 : Int) == 0) = false by rw [beq_eq_false_iff_ne]; omega]
  simp only [cond_false, Option.bind_some]
  by_cases hb2 : g.1 > 255
  · rw [if_pos (.inr hb2)] at hE
    rw [← hE, dT (p := (g.1 : Int) > 255) (by omega)]
    rfl
  · rw [if_neg (by omega)] at hE
    rw [← hE, dF (p := (g.1 : Int) > 255) (by omega), w8 _ (by omega) (by omega), wi ((g.2 : Int) + 1) (by omega) (by omega)]
    simp only [cond_false, bI, List.map_cons, List.map_nil]
    rw [show (UInt8.ofNat g.1).toNat = g.1 by simp; omega, show (g.2 : Int) + 1 = ((1 + g.2 : Nat) : Int) by omega]
end Go.Proofs.YtadenjlehhopmaaDoor

namespace Go.Proofs.YtadenjlehhopmaaDoor
open Go Go.RowKit Lx
theorem apd_ok {α : Type} (b : Nat) (l ys : List α) (h : (l.length + ys.length) * b ≤ 140737488355328) : apd b l ys = some (l ++ ys) := by
  unfold apd
  rw [dT h]
  rfl
theorem bI_append (a b : Bs) : bI (a ++ b) = bI a ++ bI b := by simp [bI]
theorem bI_length (a : Bs) : (bI a).length = a.length := by simp [bI]
def textP (at_ : Nat) : TextR → ByteArray × Int × Int × Int
  | .bad c rel => (⟨#[]⟩, 0, c, ((at_ + rel : Nat) : Int))
  | .ok v n => (str v, (n : Int), 0, 0)
def textJ (s : ByteArray) (a1 : Int) (l2 : List Int) (x7 : Int) : Option (ByteArray × Int × Int × Int) :=
  (cond (decide (x7 ≥ (s.size : Int))) (some true) ((sIdx s x7).bind fun c13 : UInt8 => some ((c13.toNat : Int) == (10 : Int))) : Option Bool).bind fun q9 => cond q9 (some ((⟨#[]⟩ : ByteArray), (0 : Int), (4 : Int), a1)) (cond (decide (((l2.length : Nat) : Int) > (10000 : Int))) (some ((⟨#[]⟩ : ByteArray), (0 : Int), (14 : Int), a1)) (some ((strOfNums l2), IntKind.i64.wrap ((IntKind.i64.wrap (x7 + (1 : Int))) - a1), (0 : Int), (0 : Int))))
set_option maxRecDepth 100000 in
theorem text_loop (s : ByteArray) (hs : s.size ≤ 1000000) (at_ : Nat) (q : UInt8) (ha : at_ < s.size) (hq : s[at_] = q) : ∀ (d i f k : Nat) (acc : Bs), s.size - i ≤ d → at_ + 1 ≤ i → i ≤ s.size → acc.length ≤ i → s.size - i < f → d + 25 ≤ k →
    r11_text.l0 k s (at_ : Int) (textJ s at_) (bI acc) (i : Int) = some (textP at_ (textG q f ((bs s).drop i) acc (i - at_)))
  | d, i, f, k, acc, hd, h1, h2, h3, h4, h5 => by
    obtain ⟨k, rfl⟩ : ∃ m, k = m + 1 := ⟨k - 1, by omega⟩
    obtain ⟨f, rfl⟩ : ∃ m, f = m + 1 := ⟨f - 1, by omega⟩
    simp only [r11_text.l0]
    rcases Nat.lt_or_ge i s.size with h | h
    · obtain ⟨d, rfl⟩ : ∃ m, d = m + 1 := ⟨d - 1, by omega⟩
      rw [dT (p := (i : Int) < s.size) (by omega), sIdx_at s i h, sIdx_at s at_ ha, hq, drop_s s i h, textG_cons]
      have hJ : textJ s at_ (bI acc) i = if s[i] = 10 then some ((⟨#[]⟩ : ByteArray), (0 : Int), (4 : Int), (at_ : Int)) else if acc.length > 10000 then some ((⟨#[]⟩ : ByteArray), (0 : Int), (14 : Int), (at_ : Int)) else some (str acc, ((i + 1 - at_ : Nat) : Int), 0, 0) := by
        unfold textJ
        rw [dF (p := (i : Int) ≥ s.size) (by omega), sIdx_at s i h]
        simp only [cond_false, Option.bind_some]
        rw [show ((s[i].toNat : Int) == 10) = decide (s[i] = 10) from bq s[i] 10, cond_dec]
        split
        · rfl
        · rw [bI_length, cond_dec, strOf_bI, wi ((i : Int) + 1) (by omega) (by omega), wi ((i : Int) + 1 - at_) (by omega) (by omega)]
          rw [show (i : Int) + 1 - at_ = ((i + 1 - at_ : Nat) : Int) by omega]
          split
          · rw [if_pos (by omega)]
          · rw [if_neg (by omega)]
      have hgo : s[i] ≠ 10 → s[i] ≠ q → s[i] ≠ 92 → r11_text.l0 k s (at_ : Int) (textJ s at_) (bI acc ++ [(s[i].toNat : Int)]) (IntKind.i64.wrap ((i : Int) + 1)) = some (textP at_ (textG q f ((bs s).drop (i + 1)) (acc ++ [s[i]]) (i - at_ + 1))) := fun _ _ _ => by
        rw [wi _ (by omega) (by omega), show bI acc ++ [(s[i].toNat : Int)] = bI (acc ++ [s[i]]) by rw [bI_append]; rfl]
        have := text_loop s hs at_ q ha hq d (i + 1) f k (acc ++ [s[i]]) (by omega) (by omega) (by omega) (by simp; omega) (by omega) (by omega)
        rw [show i + 1 - at_ = i - at_ + 1 by omega] at this
        exact this
      have hesc := escape_eq s hs i k
      generalize hc : s[i] = c at *
      simp only [cond_true, Option.bind_some]
      rw [show ((c.toNat : Int) != 10) = decide (c ≠ 10) from bn c 10]
      by_cases c1 : c = 10
      · rw [if_pos c1, dF (by simpa using c1)]
        simp only [cond_false, Option.bind_some]
        rw [hJ, if_pos c1]
        simp [textP]
      rw [if_neg c1, dT c1]
      simp only [cond_true, Option.bind_some, bn]
      by_cases c2 : c = q
      · rw [if_pos c2, dF (by simpa using c2)]
        simp only [cond_false]
        rw [hJ, if_neg c1]
        split
        · simp [textP]
        · simp only [textP]
          rw [show i - at_ + 1 = i + 1 - at_ by omega]
      rw [if_neg c2, dT c2]
      simp only [cond_true]
      rw [show ((c.toNat : Int) != 92) = decide (c ≠ 92) from bn c 92]
      by_cases c3 : c = 92
      · rw [if_pos c3, dF (by simpa using c3)]
        simp only [cond_false]
        rw [wi ((i : Int) + 1) (by omega) (by omega), show (i : Int) + 1 = ((i + 1 : Nat) : Int) by omega]
        rcases Nat.lt_or_ge (i + 1) s.size with h6 | h6
        · rw [dF (p := ((i + 1 : Nat) : Int) ≥ s.size) (by omega), hesc h6 (by omega)]
          simp only [cond_false, Option.bind_some, escR]
          cases hE : escF ((bs s).drop (i + 1)) with
          | ended =>
            rw [drop_s s _ h6, escF_cons] at hE
            repeat' split at hE
            all_goals cases hE
          | unfit =>
            simp only [beq_self_eq_true, cond_true, textP]
            rw [show at_ + (i - at_) = i by omega]
          | ok b n =>
            have hl := escF_len hE
            rw [List.length_drop, bs_length] at hl
            rw [show ((n : Int) == 0) = false by rw [beq_eq_false_iff_ne]; omega]
            simp only [cond_false]
            rw [apd_ok _ _ _ (by rw [bI_length, bI_length]; omega)]
            simp only [Option.bind_some]
            rw [wi ((i : Int) + n) (by omega) (by omega), ← bI_append, show (i : Int) + n = ((i + n : Nat) : Int) by omega]
            have := text_loop s hs at_ q ha hq d (i + n) f k (acc ++ b) (by omega) (by omega) (by omega) (by simp; omega) (by omega) (by omega)
            rw [this, show i + n - at_ = i - at_ + n by omega, ← List.drop_drop, drop_s s i h, hc]
        · rw [dT (p := ((i + 1 : Nat) : Int) ≥ s.size) (by omega), List.drop_of_length_le (by rw [bs_length]; omega)]
          simp [escF, textP]
      rw [if_neg c3, dT c3]
      simp only [cond_true]
      rw [apd_ok _ _ _ (by rw [bI_length]; simp; omega)]
      exact hgo c1 c2 c3
    · rw [dF (p := (i : Int) < s.size) (by omega), List.drop_of_length_le (by rw [bs_length]; omega), textG_nil]
      simp only [cond_false, Option.bind_some]
      unfold textJ
      rw [dT (p := (i : Int) ≥ s.size) (by omega)]
      simp [textP]
theorem text_eq (s : ByteArray) (hs : s.size ≤ 1000000) (at_ k : Nat) (ha : at_ < s.size) (hk : s.size + 25 ≤ k) : r11_text.f k s (at_ : Int) = some (textP at_ (textG s[at_] (s.size - at_) ((bs s).drop (at_ + 1)) [] 1)) := by
  have := text_loop s hs at_ s[at_] ha rfl (s.size - (at_ + 1)) (at_ + 1) (s.size - at_) k [] (Nat.le_refl _) (Nat.le_refl _) (by omega) (by simp) (by omega) (by omega)
  rw [Nat.add_sub_cancel_left] at this
  rw [← this]
  unfold r11_text.f joinF
  rw [wi _ (by omega) (by omega), show (at_ : Int) + 1 = ((at_ + 1 : Nat) : Int) by omega]
  rfl
end Go.Proofs.YtadenjlehhopmaaDoor
