/- Texts of mine for parseParens_card, part 5. -/
import Derived.Test.YtcdeodpakbcdeaaGreatDoorPrD
set_option linter.unusedSimpArgs false
set_option linter.unusedVariables false
set_option linter.unusedSectionVars false
namespace Go.Proofs.YtcdeodpakbcdeaaGreatDoor
open Go Go.RowKit
section
variable {E : Tk} (hE : E.1 = 6) {X : List Tk} (hX : Stp X)
def LRn {α : Type} (E : Tk) (X : List Tk) (S : α → α → Prop) (x x' : Option (PV α)) : Prop := ∀ a r, x = some (.ok a r) → r ≠ [E] → ∃ R R' a', r = R ++ [E] ∧ Sm R R' ∧ Good (R ++ [E]) ∧ S a a' ∧ x' = some (.ok a' (R' ++ X))
variable {α β : Type} {S : α → α → Prop} {S' : β → β → Prop}
theorem LR.n {x x' : Option (PV α)} (h : LR E X S x x') : LRn E X S x x' := fun a r hx _ => h a r hx
theorem LRn.bind {x x' : Option (PV α)} {f f' : α → List Tk → Option (PV β)} (h : LRn E X S x x') (h0 : ∀ a b s, f a [E] = some (.ok b s) → False) (hf : ∀ a a' p p' R R', S a a' → simT p p' → Sm R R' → Good (p :: (R ++ [E])) → LR E X S' (f a (p :: (R ++ [E]))) (f' a' (p' :: (R' ++ X)))) : LR E X S' (PV.bind x f) (PV.bind x' f') := fun b s hb => by
 rcases bind_some hb with ⟨i, _, he⟩ | ⟨a, r, hx, hfa⟩
 ·cases he
 ·by_cases hr : r = [E]
  ·subst hr; exact (h0 _ _ _ hfa).elim
  ·obtain ⟨R, R', a', rfl, hS, hG, ha, hx'⟩ := h a r hx hr
   rcases hS.cases' with ⟨rfl, rfl⟩ | ⟨p, p', Q, Q', rfl, rfl, hp, hS⟩
   ·exact absurd rfl hr
   ·obtain ⟨R2, R2', b', h1, h2, h3, h4, h5⟩ := hf a a' p p' Q Q' ha hp hS hG b s hfa
    exact ⟨R2, R2', b', h1, h2, h3, h4, by rw [hx']; exact h5⟩
structure LoS (E : Tk) (X : List Tk) (f : Nat) : Prop where
 block : ∀ R R', Sm R R' → Good (R ++ [E]) → LRn E X smT (pBlock f false (R ++ [E])) (pBlock f false (R' ++ X))
 blockL : ∀ at_ at' acc acc' R R', smTs acc acc' → Sm R R' → Good (R ++ [E]) → LRn E X smT (pBlockL f false at_ acc (R ++ [E])) (pBlockL f false at' acc' (R' ++ X))
 function : ∀ p p' Q Q', simT p p' → Sm Q Q' → Good (p :: (Q ++ [E])) → LR E X smT (pFunction f (p :: (Q ++ [E]))) (pFunction f (p' :: (Q' ++ X)))
 body : ∀ R R', Sm R R' → Good (R ++ [E]) → LR E X smT (pBody f (R ++ [E])) (pBody f (R' ++ X))
 stat : ∀ R R', Sm R R' → Good (R ++ [E]) → LR E X smT (pStat f (R ++ [E])) (pStat f (R' ++ X))
 branches : ∀ acc acc' R R', smTs acc acc' → Sm R R' → Good (R ++ [E]) → LR E X smTs (pBranches f acc (R ++ [E])) (pBranches f acc' (R' ++ X))
 for_ : ∀ at_ at' R R', Sm R R' → Good (R ++ [E]) → LR E X smT (pFor f at_ (R ++ [E])) (pFor f at' (R' ++ X))
 plain : ∀ R R', Sm R R' → Good (R ++ [E]) → LR E X smT (pPlain f (R ++ [E])) (pPlain f (R' ++ X))
 targets : ∀ acc acc' e e' R R', smTs acc acc' → smT e e' → Sm R R' → Good (R ++ [E]) → LR E X smTs (pTargets f acc e (R ++ [E])) (pTargets f acc' e' (R' ++ X))
structure EndX (X : List Tk) : Prop where
 semi : isH kSemi X = false
 ret : isH kReturn X = false
 fn : isH kFunction X = false
 ends : endsH X = true
end
end Go.Proofs.YtcdeodpakbcdeaaGreatDoor
namespace Go.Proofs.YtcdeodpakbcdeaaGreatDoor
open Go Go.RowKit Lx
theorem scanL_skip32 (x : Bs) (at_ : Nat) (acc : List Tok) : scanL (32 :: x) at_ acc = scanL x (at_ + 1) acc := scanL_blanks x at_ acc [32] (by decide)
theorem scanL_one (b : UInt8) (x : Bs) (at_ : Nat) (acc : List Tok) (hb : b = 59 ∨ b = 40 ∨ b = 41) : scanL (b :: x) at_ acc = scanL x (at_ + 1) (acc ++ [⟨5, [b], 0, at_⟩]) := by
 have hlow : b.toNat < 128 := by rcases hb with rfl | rfl | rfl <;> decide
 have hd := decL_low b x hlow
 have h0 : runL blankR (b :: x) = 0 := by
  rw [runL_step _ _ (by simp), hd]
  rcases hb with rfl | rfl | rfl <;> rfl
 have hst : stepF (b :: x) = .tok 5 [b] 0 1 := by
  have hp : [45, 45].isPrefixOf (b :: x) = false := by rcases hb with rfl | rfl | rfl <;> rfl
  have hs : signF (b :: x) = some [b] := by rcases hb with rfl | rfl | rfl <;> rfl
  unfold stepF
  rw [if_neg (by simp), hp]
  simp only [Bool.false_eq_true, if_false, hd, hs]
  rcases hb with rfl | rfl | rfl <;> rfl
 rw [scanL_step, h0, List.drop_zero, Nat.add_zero, hst]
 rfl
theorem scanL_word (w x : Bs) (at_ : Nat) (acc : List Tok) (k : Int) (hw : w ≠ []) (hg : Gap x) (hst : stepF w = .tok k w 0 w.length) (h0 : runL blankR w = 0) : scanL (w ++ x) at_ acc = scanL x (at_ + w.length) (acc ++ [⟨k, w, 0, at_⟩]) := by
 have hr : runL blankR (w ++ x) = 0 := by
  rw [runL_append blankR _ hg.low w.length w (Nat.le_refl _) (.inl (by rw [h0]; exact List.length_pos_iff.2 hw)), h0]
 rw [scanL_step, hr, List.drop_zero, Nat.add_zero, stepF_append w x hw hg _ _ _ _ hst]
 simp only
 rw [List.drop_left]
def bReturn : Bs := [114, 101, 116, 117, 114, 110]
theorem scan_return (x : Bs) (at_ : Nat) (acc : List Tok) (hg : Gap x) : scanL (bReturn ++ x) at_ acc = scanL x (at_ + 6) (acc ++ [⟨2, bReturn, 0, at_⟩]) := scanL_word bReturn x at_ acc 2 (by decide) hg (by kernel_rfl) (by kernel_rfl)
theorem scan_nil (at_ : Nat) (acc : List Tok) : scanL [] at_ acc = .inr (acc ++ [⟨6, [], 0, at_⟩]) := by rw [scanL_step]; rfl
end Go.Proofs.YtcdeodpakbcdeaaGreatDoor
namespace Go.Proofs.YtcdeodpakbcdeaaGreatDoor
open Go Go.RowKit Lx
theorem Sm_nil {R : List Tk} (h : Sm [] R) : R = [] := by cases R with | nil => rfl | cons => exact h.elim
theorem Sm_len : ∀ {R R' : List Tk}, Sm R R' → R.length = R'.length
 | [], [], _ => rfl
 | _ :: _, _ :: _, h => congrArg (· + 1) (Sm_len h.2)
theorem rest_end {R : List Tk} {E : Tk} (hG : Good (R ++ [E])) (h6 : (hd (R ++ [E])).1 = 6) : R = [] := by
 cases R with
 | nil => rfl
 | cons p R => exact absurd h6 hG.cons.1
theorem good_end : ∀ {R : List Tk} {E : Tk}, Good (R ++ [E]) → E.1 = 6
 | [], _, h => h
 | _ :: _, _, h => good_end h.cons.2
theorem scan_last {s : Bs} {t : List Tok} (h : scanF s = .inr t) : ∃ T E, t = T ++ [E] ∧ Good (T.map tokT ++ [tokT E]) ∧ scanL s 0 [] = .inr (T ++ [E]) ∧ s.length ≤ 20000 := by
 have hT := scan_toks (str s) t (by rw [bs_str]; exact h)
 have hl : s.length ≤ 20000 := by
  unfold scanF at h
  split at h
  ·cases h
  ·omega
 rw [scanF_small s hl] at h
 rcases List.eq_nil_or_concat t with rfl | ⟨T, E, rfl⟩
 ·exact hT.good.elim
 ·exact ⟨T, E, by simp, by have := hT.good; simpa using this, by simpa using h, hl⟩
theorem paren_tokens (l : Bs) (d : Nat) (pre T : List Tok) (E : Tok) (hc : Closed' l) (h : scanL l 0 [] = .inr (T ++ [E])) : scanL (l ++ [41]) d pre = .inr (pre ++ T.map (shift d) ++ [⟨5, [41], 0, d + l.length⟩] ++ [⟨6, [], 0, d + l.length + 1⟩]) := by
 have hs := scanL_shift d l.length l 0 pre [] (Nat.le_refl _)
 rw [h] at hs
 simp only [List.map_nil, List.append_nil, Nat.zero_add] at hs
 obtain ⟨acc', ht, hsc⟩ := scanL_append [41] ⟨41, [], rfl, .inr (.inr rfl)⟩ l.length l d pre _ (Nat.le_refl _) hc hs
 rw [List.map_append, ← List.append_assoc] at ht
 obtain ⟨h1, _⟩ := List.append_inj' ht rfl
 rw [hsc, scanL_one 41 _ _ _ (.inr (.inr rfl)), scan_nil, h1]
theorem return_scan (s : Bs) (hl : s.length ≤ 9000) : scanF ([114, 101, 116, 117, 114, 110, 32] ++ s) = match scanL s 0 [] with | .inl (c, a) => .inl (c, a + 7) | .inr t => .inr (⟨2, bReturn, 0, 0⟩ :: t.map (shift 7)) := by
 rw [scanF_small _ (by simp; omega)]
 rw [show ([114, 101, 116, 117, 114, 110, 32] ++ s : Bs) = bReturn ++ (32 :: s) by simp [bReturn]]
 rw [scan_return _ _ _ ⟨32, _, rfl, .inl rfl⟩, scanL_skip32]
 have hs := scanL_shift 7 s.length s 0 [⟨2, bReturn, 0, 0⟩] [] (Nat.le_refl _)
 simp only [List.map_nil, List.append_nil, List.nil_append, Nat.zero_add] at hs ⊢
 rw [hs]
 rfl
theorem parens_scan (s : Bs) (T : List Tok) (E : Tok) (hl : s.length ≤ 9000) (hc : Closed' s) (h : scanL s 0 [] = .inr (T ++ [E])) :
  scanF ([114, 101, 116, 117, 114, 110, 32, 40] ++ s ++ [41]) = .inr (⟨2, bReturn, 0, 0⟩ :: ⟨5, [40], 0, 7⟩ :: (T.map (shift 8) ++ [⟨5, [41], 0, 8 + s.length⟩, ⟨6, [], 0, 8 + s.length + 1⟩])) := by
 rw [scanF_small _ (by simp; omega)]
 rw [show ([114, 101, 116, 117, 114, 110, 32, 40] ++ s ++ [41] : Bs) = bReturn ++ (32 :: 40 :: (s ++ [41])) by simp [bReturn]]
 rw [scan_return _ _ _ ⟨32, _, rfl, .inl rfl⟩, scanL_skip32, scanL_one 40 _ _ _ (.inr (.inl rfl)), paren_tokens _ _ _ T E hc h]
 simp
theorem vAll_ok {R : List Tk} {E : Tk} (hG : Good (R ++ [E])) {n : Tree} {r : List Tk} (h : vAll (R ++ [E]) = .ok n r) (f : Nat) (hf : 16 * (R ++ [E]).length + 9 ≤ f) : pBlock f true (R ++ [E]) = some (.ok n r) ∧ (hd r).1 = 6 ∧ Good r := by
 unfold vAll at h
 obtain ⟨b, s, hb, hs⟩ := then_ok h
 have hw := fBlock true hG
 rw [hb] at hw
 by_cases h6 : (hd s).1 = 6
 ·rw [if_pos h6] at hs
  cases hs
  exact ⟨(pBlock_v true hG hf).trans (congrArg some hb), h6, hw.1⟩
 ·rw [if_neg h6] at hs
  cases hs
theorem vAll_of {ts : List Tk} (hG : Good ts) {n : Tree} {E : Tk} (hE : E.1 = 6) (f : Nat) (hf : 16 * ts.length + 9 ≤ f) (h : pBlock f true ts = some (.ok n [E])) : vAll ts = .ok n [E] := by
 have hb : vBlock true ts = .ok n [E] := Option.some.inj ((pBlock_v true hG hf).symm.trans h)
 unfold vAll
 rw [hb]
 show (if E.1 = 6 then PV.ok n [E] else .bad E.2.2.2) = _
 rw [if_pos hE]
abbrev eTk (p : Int) : Tk := (6, noB, 0, p)
theorem good_app : ∀ {R R' : List Tk} {E : Tk} {X : List Tk}, Good (R ++ [E]) → Sm R R' → Good X → (hd X).1 ≠ 6 ∨ X.length = 1 → Good (R' ++ X)
 | [], [], _, _, _, _, hX, _ => hX
 | p :: R, p' :: R', E, X, h, hS, hX, hx => by
  have ih := good_app (R := R) (R' := R') h.cons.2 hS.2 hX hx
  have h6 := h.cons.1
  rw [hS.1.1] at h6
  show Good (p' :: (R' ++ X))
  cases hq : R' ++ X with
  | nil => rw [hq] at ih; exact ih.elim
  | cons u v => rw [hq] at ih; exact ⟨h6, ih⟩
theorem expsL_more : ∀ (f : Nat) (acc : List Tree) (ts : List Tk) (l : List Tree) (r : List Tk), pExpsL f acc ts = some (.ok l r) → acc.length ≤ l.length
 | 0, _, _, _, _, h => by unfold pExpsL at h; cases h
 | f + 1, acc, ts, l, r, h => by
  unfold pExpsL at h
  by_cases hc : isH kComma ts = true
  ·rw [if_pos hc] at h
   rcases bind_some h with ⟨_, _, he⟩ | ⟨x, s, hx, h⟩
   ·cases he
   ·have := expsL_more f _ _ _ _ h
    simp at this
    omega
  ·rw [if_neg hc] at h
   cases h
   exact Nat.le_refl _
theorem parens_parse {R R1 R2 : List Tk} {E : Tk} {n : Tree} {r : List Tk} (hG : Good (R ++ [E])) (hS1 : Sm R1 R2) (h1 : R1 = R) (p0 : Int) (hv : vAll ((2, kReturn, 0, p0) :: (R ++ [E])) = .ok n r) {x e : Tree} (hn : n.kids = [x]) (hx : x.kids = [e])
  (hno : ∀ t ∈ R, isT kSemi t = false) (q0 q1 q2 px : Int) :
  n.kind = 20 ∧ x.kind = 30 ∧ ∃ e', smT e e' ∧ vAll ((2, kReturn, 0, q0) :: (5, kLp, 0, q1) :: (R2 ++ [(5, kRp, 0, q2), eTk px])) = .ok (.mk 20 noB 0 q0 [.mk 30 noB 0 q0 [.mk 9 noB 0 q1 [e']]]) [eTk px] := by
 subst h1
 have hE := good_end hG
 have hGX : Good [((5, kRp, 0, q2) : Tk), eTk px] := ⟨by show (5 : Int) ≠ 6; decide, rfl⟩
 have hX : Stp [((5, kRp, 0, q2) : Tk), eTk px] := ⟨by kernel_rfl, by kernel_rfl, by kernel_rfl, by kernel_rfl, by kernel_rfl, by kernel_rfl, fun h => absurd h.2 (by show ¬ kRp.toList = kEq.toList; decide +kernel)⟩
 have hGa : Good (R2 ++ [(5, kRp, 0, q2), eTk px]) := good_app hG hS1 hGX (.inl (by show (5 : Int) ≠ 6; decide))
 have cons6 : ∀ {p : Tk} {ts : List Tk}, p.1 ≠ 6 → Good ts → Good (p :: ts) := fun {p ts} hp h => by
  cases ts with
  | nil => exact h.elim
  | cons u v => exact ⟨hp, h⟩
 have hGb : Good ((2, kReturn, 0, q0) :: (5, kLp, 0, q1) :: (R2 ++ [(5, kRp, 0, q2), eTk px])) := cons6 (by show (2 : Int) ≠ 6; decide) (cons6 (by show (5 : Int) ≠ 6; decide) hGa)
 have hGr : Good ((2, kReturn, 0, p0) :: R1 ++ [E]) := cons6 (by show (2 : Int) ≠ 6; decide) hG
 obtain ⟨g, hg⟩ : ∃ g, g = 16 * ((2, kReturn, 0, p0) :: R1 ++ [E]).length + 100 := ⟨_, rfl⟩
 obtain ⟨hp, h6, hr⟩ := vAll_ok (R := (2, kReturn, 0, p0) :: R1) hGr hv (g + 3) (by omega)
 unfold pBlock at hp
 have e1 : pBlockL (g + 2) true (hd ((2, kReturn, 0, p0) :: R1 ++ [E])).2.2.2 [] ((2, kReturn, 0, p0) :: R1 ++ [E]) =
   PV.bind (if endsH (R1 ++ [E]) || isH kSemi (R1 ++ [E]) then some (.ok [] (R1 ++ [E])) else pExps (g + 1) (R1 ++ [E])) fun l r =>
    some (.ok (.mk 20 noB 0 p0 ([] ++ [.mk 30 noB 0 p0 l])) (if isH kSemi r then r.tail else r)) := by
  rw [pBlockL.eq_2]
  kernel_rfl
 rw [e1] at hp
 rcases bind_some hp with ⟨_, _, he⟩ | ⟨l, s, hl, hp⟩
 ·cases he
 have hp' := Option.some.inj hp
 simp only [PV.ok.injEq] at hp'
 obtain ⟨rfl, hs⟩ := hp'
 simp only [Tree.kids, List.nil_append, List.cons.injEq, and_true] at hn
 subst hn
 have hx : l = [e] := hx
 subst hx
 by_cases hc : (endsH (R1 ++ [E]) || isH kSemi (R1 ++ [E])) = true
 ·rw [if_pos hc] at hl; cases hl
 rw [if_neg hc] at hl
 unfold pExps at hl
 rcases bind_some hl with ⟨_, _, he⟩ | ⟨e0, s0, he0, hl⟩
 ·cases he
 have hw := (stepE g).exp 0 _ hG _ he0
 obtain ⟨hs1, hs2, hs3⟩ := hw
 obtain ⟨f, rfl⟩ : ∃ f, g = f + 1 := ⟨g - 1, by omega⟩
 unfold pExpsL at hl
 by_cases hcm : isH kComma s0 = true
 ·rw [if_pos hcm] at hl
  rcases bind_some hl with ⟨_, _, he⟩ | ⟨e2, s2, _, hl⟩
  ·cases he
  ·have := expsL_more _ _ _ _ _ hl
   simp at this
 rw [if_neg hcm] at hl
 have hl := Option.some.inj hl
 simp only [PV.ok.injEq, List.cons.injEq, and_true] at hl
 obtain ⟨rfl, rfl⟩ := hl
 obtain ⟨Q, Q', e', rfl, hSQ, hGQ, hee, hx'⟩ := (loE hE hX (f + 1)).exp 0 R1 R2 (by decide) hS1 hG e0 _ he0
 have hsemi : isH kSemi (Q ++ [E]) = false := by
  cases Q with
  | nil => exact isH_E hE _
  | cons q Q =>
   obtain ⟨P, hP⟩ := hs3
   have hP : (P ++ (q :: Q)) ++ [E] = R1 ++ [E] := by rw [List.append_assoc]; exact hP
   have := List.append_inj_left' hP rfl
   exact hno q (by rw [← this]; simp)
 rw [hsemi] at hs
 simp only [Bool.false_eq_true, if_false] at hs
 subst hs
 obtain rfl := rest_end hr h6
 obtain rfl := Sm_nil hSQ
 refine ⟨rfl, rfl, e', hee, ?_⟩
 have hx' : pExp (f + 1) 0 (R2 ++ [(5, kRp, 0, q2), eTk px]) = some (.ok e' [(5, kRp, 0, q2), eTk px]) := hx'
 have hsu : pSuffixed (f + 2) ((5, kLp, 0, q1) :: (R2 ++ [(5, kRp, 0, q2), eTk px])) = some (.ok (.mk 9 noB 0 q1 [e']) [eTk px]) := by
  unfold pSuffixed
  rw [if_pos (show isH kLp ((5, kLp, 0, q1) :: (R2 ++ [(5, kRp, 0, q2), eTk px])) = true from by kernel_rfl)]
  show PV.bind (pExp (f + 1) 0 (R2 ++ [(5, kRp, 0, q2), eTk px])) _ = _
  rw [hx']
  kernel_rfl
 have hop : pOperand (f + 3) ((5, kLp, 0, q1) :: (R2 ++ [(5, kRp, 0, q2), eTk px])) = some (.ok (.mk 9 noB 0 q1 [e']) [eTk px]) := by
  have e0 : pOperand (f + 3) ((5, kLp, 0, q1) :: (R2 ++ [(5, kRp, 0, q2), eTk px])) = pSuffixed (f + 2) ((5, kLp, 0, q1) :: (R2 ++ [(5, kRp, 0, q2), eTk px])) := by
   rw [pOperand.eq_2]
   kernel_rfl
  exact e0.trans hsu
 have hex : pExp (f + 4) 0 ((5, kLp, 0, q1) :: (R2 ++ [(5, kRp, 0, q2), eTk px])) = some (.ok (.mk 9 noB 0 q1 [e']) [eTk px]) := by
  unfold pExp
  rw [hop]
  kernel_rfl
 have hxs : pExps (f + 5) ((5, kLp, 0, q1) :: (R2 ++ [(5, kRp, 0, q2), eTk px])) = some (.ok [.mk 9 noB 0 q1 [e']] [eTk px]) := by
  unfold pExps
  rw [hex]
  kernel_rfl
 refine vAll_of hGb rfl (f + 7) ?_ ?_
 ·have := Sm_len hS1
  simp only [List.length_cons, List.length_append, List.length_nil] at hg ⊢
  omega
 ·unfold pBlock
  have e2 : pBlockL (f + 6) true (hd ((2, kReturn, 0, q0) :: (5, kLp, 0, q1) :: (R2 ++ [(5, kRp, 0, q2), eTk px]))).2.2.2 [] ((2, kReturn, 0, q0) :: (5, kLp, 0, q1) :: (R2 ++ [(5, kRp, 0, q2), eTk px])) =
    PV.bind (pExps (f + 5) ((5, kLp, 0, q1) :: (R2 ++ [(5, kRp, 0, q2), eTk px]))) fun l r =>
     some (.ok (.mk 20 noB 0 q0 ([] ++ [.mk 30 noB 0 q0 l])) (if isH kSemi r then r.tail else r)) := by
   rw [pBlockL.eq_2]
   kernel_rfl
  rw [e2, hxs]
  rfl
end Go.Proofs.YtcdeodpakbcdeaaGreatDoor
namespace Go.Proofs.YtcdeodpakbcdeaaGreatDoor
open Go Go.RowKit Lx
mutual
def htT : Tree → Nat
 | .mk _ _ _ _ l => htTs l + 1
def htTs : List Tree → Nat
 | [] => 0
 | x :: l => max (htT x) (htTs l)
end
mutual
theorem ht_sz : ∀ t : Tree, htT t ≤ sz t
 | .mk _ _ _ _ l => by simp only [htT, sz]; have := hts_szs l; omega
theorem hts_szs : ∀ l : List Tree, htTs l ≤ szs l
 | [] => by simp [htTs, szs]
 | x :: l => by simp only [htTs, szs]; have := ht_sz x; have := hts_szs l; omega
end
mutual
theorem smT_ht : ∀ {t t' : Tree}, smT t t' → htT t = htT t'
 | .mk _ _ _ _ _, .mk _ _ _ _ _, h => by simp only [htT, smTs_ht h.2.2.2]
theorem smTs_ht : ∀ {l l' : List Tree}, smTs l l' → htTs l = htTs l'
 | [], [], _ => rfl
 | _ :: _, _ :: _, h => by simp only [htTs, smT_ht h.1, smTs_ht h.2]
end
mutual
theorem smT_sz : ∀ {t t' : Tree}, smT t t' → sz t = sz t'
 | .mk _ _ _ _ _, .mk _ _ _ _ _, h => by simp only [sz, smTs_szs h.2.2.2]
theorem smTs_szs : ∀ {l l' : List Tree}, smTs l l' → szs l = szs l'
 | [], [], _ => rfl
 | _ :: _, _ :: _, h => by simp only [szs, smT_sz h.1, smTs_szs h.2]
end
mutual
theorem smT_symm : ∀ {t t' : Tree}, smT t t' → smT t' t
 | .mk _ _ _ _ _, .mk _ _ _ _ _, h => ⟨h.1.symm, h.2.1.symm, h.2.2.1.symm, smTs_symm h.2.2.2⟩
theorem smTs_symm : ∀ {l l' : List Tree}, smTs l l' → smTs l' l
 | [], [], _ => trivial
 | _ :: _, _ :: _, h => ⟨smT_symm h.1, smTs_symm h.2⟩
end
theorem same_loop (J : Unit → Option Bool) (R : TS) (hJ : J () = some true) : ∀ (t t' pre pre' : List Tree) (m : Nat), pre.length = pre'.length → smTs t t' → pre.length + t.length ≤ 10000000 → t.length + 1 ≤ m →
  (∀ x x', x ∈ t → smT x x' → R.law12_same x.kind x.text x.n x.at_ x.kids x'.kind x'.text x'.n x'.at_ x'.kids = some true) → law12_same.l0 m R (pre ++ t) (pre' ++ t') J (pre.length : Int) = some true
 | [], [], pre, pre', m, _, _, hl, hm, _ => by
  obtain ⟨m, rfl⟩ : ∃ m', m = m' + 1 := ⟨m - 1, by omega⟩
  simp only [law12_same.l0]
  rw [dec_f (by simp)]
  exact hJ
 | x :: t, x' :: t', pre, pre', m, hp, hs, hl, hm, hR => by
  obtain ⟨m, rfl⟩ : ∃ m', m = m' + 1 := ⟨m - 1, by omega⟩
  simp only [List.length_cons] at hl hm
  have ih := same_loop J R hJ t t' (pre ++ [x]) (pre' ++ [x']) m (by simp [hp]) hs.2 (by simp; omega) (by omega) (fun y y' hy => hR y y' (List.mem_cons_of_mem _ hy))
  have e2 : lIdx (pre' ++ x' :: t') (pre.length : Int) = some x' := by rw [hp]; exact idx_mid pre' x' t'
  simp only [law12_same.l0]
  rw [dec_t (by simp; omega), idx_mid, e2]
  simp only [cond_true, Option.bind_some]
  rw [hR x x' (List.mem_cons_self ..) hs.1]
  simp only [Option.bind_some, Bool.not_true, cond_false]
  rw [wrap64 _ (by omega) (by omega)]
  rw [List.append_assoc, List.append_assoc, List.length_append] at ih
  exact ih
theorem same_true : ∀ (k : Nat) (t t' : Tree), sz t ≤ k → sz t ≤ 1000000 → smT t t' → law12_same.g (TS.at k) k t.kind t.text t.n t.at_ t.kids t'.kind t'.text t'.n t'.at_ t'.kids = some true
 | 0, t, _, h, _, _ => by have := sz_pos t; omega
 | k + 1, .mk kd tx n a l, .mk kd' tx' n' a' l', h, h9, hs => by
  simp only [sz] at h h9
  have hl := szs_len l
  obtain ⟨rfl, rfl, rfl, hs⟩ := hs
  have hll := smTs_len hs
  unfold law12_same.g joinF
  simp only [Tree.kind, Tree.text, Tree.n, Tree.at_, Tree.kids, hll, bne_self_eq_false, beq_self_eq_true, Bool.not_true, cond_false, Option.bind_some]
  exact same_loop _ _ rfl l l' [] [] (k + 1) rfl hs (by simp only [List.length_nil]; omega) (by omega) fun x x' hx hxx => by
   have := sz_mem hx
   exact same_true k x x' (by omega) (by omega) hxx
theorem ht_loop (J : Int → Option Int) (R : H1) : ∀ (t pre : List Tree) (m a : Nat), pre.length + t.length ≤ 10000000 → t.length + 1 ≤ m →
  (∀ x ∈ t, R.parse_Height x.kind x.text x.n x.at_ x.kids = some (htT x : Int)) → parse_Height.l0 m R (pre ++ t) J (a : Int) (pre.length : Int) = J ((max a (htTs t) : Nat) : Int)
 | [], pre, m, a, hl, hm, _ => by
  obtain ⟨m, rfl⟩ : ∃ m', m = m' + 1 := ⟨m - 1, by omega⟩
  simp only [parse_Height.l0]
  rw [dec_f (by simp)]
  simp [htTs]
 | x :: t, pre, m, a, hl, hm, hR => by
  obtain ⟨m, rfl⟩ : ∃ m', m = m' + 1 := ⟨m - 1, by omega⟩
  simp only [List.length_cons] at hl hm
  have ih := ht_loop J R t (pre ++ [x]) m (max a (htT x)) (by simp; omega) (by omega) (fun y hy => hR y (List.mem_cons_of_mem _ hy))
  simp only [parse_Height.l0]
  rw [dec_t (by simp; omega), idx_mid]
  simp only [cond_true, Option.bind_some]
  rw [hR x (List.mem_cons_self ..)]
  simp only [Option.bind_some]
  rw [wrap64 _ (by omega) (by omega)]
  rw [List.append_assoc, List.length_append] at ih
  have e1 : (if (htT x : Int) > (a : Int) then (htT x : Int) else (a : Int)) = ((max a (htT x) : Nat) : Int) := by split <;> omega
  rw [e1]
  refine ih.trans (congrArg J ?_)
  simp only [htTs]
  omega
theorem ht_eq : ∀ (k : Nat) (t : Tree), sz t ≤ k → sz t ≤ 1000000 → parse_Height.g (H1.at k) k t.kind t.text t.n t.at_ t.kids = some (htT t : Int)
 | 0, t, h, _ => by have := sz_pos t; omega
 | k + 1, .mk kd tx n a l, h, h9 => by
  simp only [sz] at h h9
  have hl := szs_len l
  have hh := hts_szs l
  unfold parse_Height.g joinF
  have := ht_loop (fun x2 => some (IntKind.i64.wrap (x2 + (1 : Int)))) (H1.at (k + 1)) l [] (k + 1) 0 (by simp only [List.length_nil]; omega) (by omega) fun x hx => by
   have := sz_mem hx
   exact ht_eq k x (by omega) (by omega)
  refine this.trans ?_
  rw [wrap64 _ (by omega) (by omega)]
  simp [htT]
theorem mkK (k : Int) (t : ByteArray) (n a : Int) (l : List Tree) : (Tree.mk k t n a l).kind = k := rfl
theorem mkX (k : Int) (t : ByteArray) (n a : Int) (l : List Tree) : (Tree.mk k t n a l).text = t := rfl
theorem mkN (k : Int) (t : ByteArray) (n a : Int) (l : List Tree) : (Tree.mk k t n a l).n = n := rfl
theorem mkA (k : Int) (t : ByteArray) (n a : Int) (l : List Tree) : (Tree.mk k t n a l).at_ = a := rfl
theorem mkL (k : Int) (t : ByteArray) (n a : Int) (l : List Tree) : (Tree.mk k t n a l).kids = l := rfl
theorem idx0 (x : Tree) : lIdx [x] (0 : Int) = some x := rfl
theorem sCat_eq {a b : ByteArray} (h : a.size + b.size ≤ 9223372036854775807) : sCat a b = some (str (bs a ++ bs b)) := by
 unfold sCat
 rw [dec_t h]
 have : a ++ b = str (bs a ++ bs b) := bs_inj (by rw [bs_str]; simp [bs])
 rw [this]
 rfl
theorem parseV_cases (s : ByteArray) : (∃ c a, c ≠ 0 ∧ parseV s = outV c a) ∨ ∃ T E n r, scanF (bs s) = .inr (T ++ [E]) ∧ scanL (bs s) 0 [] = .inr (T ++ [E]) ∧ Good (T.map tokT ++ [tokT E]) ∧ vAll (T.map tokT ++ [tokT E]) = .ok n r ∧ parseV s = treeV n ∧ ordT n ∧ sz n ≤ 80010 ∧ n.kind = 20 := by
 cases hs : scanF (bs s) with
 | inl x =>
  obtain ⟨c, p⟩ := x
  exact .inl ⟨c, p, scanF_ne' _ _ _ hs, parseV_inl hs⟩
 | inr t =>
  have hT := scan_toks s t hs
  cases hv : vAll (t.map tokT) with
  | bad i => exact .inl ⟨4, i, by decide, parseV_bad hs hv⟩
  | ok n r =>
   obtain ⟨h1, h2, h3⟩ := vAll_tree hT hv
   obtain ⟨T, E, rfl, hG, hL, _⟩ := scan_last hs
   rw [List.map_append, List.map_singleton] at hv
   refine .inr ⟨T, E, n, r, rfl, hL, hG, hv, parseV_ok hs (by rw [List.map_append, List.map_singleton]; exact hv), h1, h2, h3⟩
theorem parseV_of {s : ByteArray} {l : Bs} (hl : bs s = l) {t : List Tok} {ts : List Tk} (h : scanF l = .inr t) (hm : t.map tokT = ts) {n : Tree} {r : List Tk} (hv : vAll ts = .ok n r) : parseV s = treeV n := parseV_ok (by rw [hl]; exact h) (by rw [hm]; exact hv)
end Go.Proofs.YtcdeodpakbcdeaaGreatDoor
namespace Go.Proofs.YtcdeodpakbcdeaaGreatDoor
open Go Go.RowKit Lx
theorem same_f {k : Nat} {t t' : Tree} (hz : sz t ≤ 100000) (hk : 100000 ≤ k) (h : smT t' t) : law12_same.f k t.kind t.text t.n t.at_ t.kids t'.kind t'.text t'.n t'.at_ t'.kids = some true := same_true k t t' (by omega) (by omega) (smT_symm h)
theorem kids_sz (n : Tree) : szs n.kids + 1 = sz n := by cases n; rfl
end Go.Proofs.YtcdeodpakbcdeaaGreatDoor
namespace Go.Proofs.YtcdeodpakbcdeaaGreatDoor
open Go Go.RowKit
def law12_ends.l0 : Nat → (a0 : ByteArray) → (J1 : (Unit → Option (Bool))) → (x2 : Int) → Option (Bool)
 | 0, _, _, _ => none
 | m3 + 1, a0, J1, x2 => cond (decide (x2 < (a0.size : Int))) (((sIdx a0 x2).bind fun c7 : UInt8 => cond ((c7.toNat : Int) == 59) (some true) ((sIdx a0 x2).bind fun c9 : UInt8 => cond ((c9.toNat : Int) == 45) (cond (decide (x2 > 0)) ((sIdx a0 (IntKind.i64.wrap (x2 - 1))).bind fun c12 : UInt8 => some ((c12.toNat : Int) == 45)) (some false)) (some false)) : Option Bool).bind fun q5 => cond q5 (some (true)) (law12_ends.l0 m3 a0 J1 (IntKind.i64.wrap (x2 + 1)))) (J1 ())
def law12_ends.f (k : Nat) (a0 : ByteArray) : Option (Bool) := joinF (fun (_ : Unit) => some (false)) (fun J1 => law12_ends.l0 k a0 J1 0)
set_option maxRecDepth 100000 in
theorem law12_ends.ok {k : Nat} {a0 : ByteArray} {r : Bool} (h : law12_ends.f k a0 = some r) : Ct Tryz.prog 21 #[sv a0] [] [] (fun e l1 => e = .returned (bv r) ∧ l1 = []) := by
 refine ct_enter (args := [sv a0]) Tryz.func21 rfl (Nat.le_of_ble_eq_true rfl) ?_
 intro A X hh_
 unfold law12_ends.f at h
 refine ksr (kx 1 (knt ?_))
 obtain ⟨J1, hJ1, h⟩ := joinSplit h
 refine k_cut (τ := Unit) (fun t => []) (fun t => X) (fun t => J1 () = some r) ?_ ?_
 ·rintro ⟨⟩ h
  subst hJ1
  refine ksr (kx 1 (knt (k_ret ?_)))
  obtain rfl := Option.some.inj h
  exact kdn rfl
 ·skip
  refine ksr (kx 1 (knt (k_block (k_loop (τ := Int) (fun t => [(0, sv a0), (3, iv t)]) (fun t => X) (fun m t => law12_ends.l0 m a0 J1 t = some r) k 0 h sb rfl ?_))))
  clear h
  rintro m3 x2 h
  cases m3 with
  | zero => simp [law12_ends.l0] at h
  | succ m3 =>
   simp only [law12_ends.l0] at h
   refine k_seq (ksr (kx 4 (knt ?_)))
   refine kcn h (fun h => ?_) fun h => ?_
   ·refine k_skip (k_then (k_seq (k_block (bnd h fun q5 hq5 h => ?_))))
    refine k_cut1 [(0, sv a0), (3, iv x2), (30, bv q5)] (X) ?_ ?_
    ·clear hq5
     refine kcn h (fun h => ?_) fun h => ?_
     ·refine ksr (kx 1 (knt (k_ret (k_blk_ret (k_then_ret (k_then_ret (k_blk_ret (k_then_ret ?_))))))))
      obtain rfl := Option.some.inj h
      exact kdn rfl
     ·exact k_skip (k_blk (k_then (k_region (kx 3 (knt (k_again m3 (IntKind.i64.wrap (x2 + 1)) (Nat.lt_succ_self _) h sb rfl))))))
    ·have h := hq5
     clear hq5
     refine k_region (kx 2 (bnd h fun c7 hc7 h => (kix (kd := .i64) rfl hc7 (kx 2 ?_))))
     refine kcs 14 h (fun h => ?_) fun h => ?_
     ·exact kx 16 (knt (k_meet1 ⟨gr, gr, gb (Option.some.inj h), trivial⟩))
     ·refine kx 2 (bnd h fun c9 hc9 h => (kix (kd := .i64) rfl hc9 (kx 2 ?_)))
      refine kcs 19 h (fun h => ?_) fun h => ?_
      ·refine kx 4 ?_
       refine kcs 23 h (fun h => ?_) fun h => ?_
       ·exact kx 3 (bnd h fun c12 hc12 h => (kix (kd := .i64) rfl hc12 (kx 3 (knt (k_meet1 ⟨gr, gr, gb (Option.some.inj h), trivial⟩)))))
       ·exact kx 7 (knt (k_meet1 ⟨gr, gr, gb (Option.some.inj h), trivial⟩))
      ·exact kx 11 (knt (k_meet1 ⟨gr, gr, gb (Option.some.inj h), trivial⟩))
   ·exact k_exit (k_then_exit (k_then_exit (k_here (k_then (k_meet () h trivial rfl)))))
def law12_ParseParens.f (k : Nat) (a0 : ByteArray) : Option (Bool) := (law12_fixed.f k).bind fun r1 => cond (!r1) (some (false)) ((sCat (⟨#[114, 101, 116, 117, 114, 110, 32]⟩ : ByteArray) a0).bind fun s3 : ByteArray => (parse_Parse.f k s3).bind fun r4 => (cond (r4.2.2.2.2.2.1 != 0) (some true) (cond (((r4.2.2.2.2.1.length : Nat) : Int) != 1) (some true) ((lIdx r4.2.2.2.2.1 0).bind fun x147 => cond (((x147.kids.length : Nat) : Int) != 1) (some true) ((lIdx r4.2.2.2.2.1 0).bind fun x160 => cond (x160.kind != 30) (some true) (cond (decide ((a0.size : Int) > 9000)) (some true) ((law12_ends.f k a0).bind fun r174 => some r174))))) : Option Bool).bind fun q11 => cond q11 (some (true)) ((sCat (⟨#[114, 101, 116, 117, 114, 110, 32, 40]⟩ : ByteArray) a0).bind fun s13 : ByteArray => (sCat s13 (⟨#[41]⟩ : ByteArray)).bind fun s14 : ByteArray => (parse_Parse.f k s14).bind fun r15 => (cond (r15.2.2.2.2.2.1 == 0) (cond (((r15.2.2.2.2.1.length : Nat) : Int) == 1) ((lIdx r15.2.2.2.2.1 0).bind fun x24 => cond (((x24.kids.length : Nat) : Int) == 1) ((lIdx r15.2.2.2.2.1 0).bind fun x37 => (lIdx x37.kids 0).bind fun x49 => cond (x49.kind == 9) ((lIdx r15.2.2.2.2.1 0).bind fun x62 => (lIdx x62.kids 0).bind fun x74 => cond (((x74.kids.length : Nat) : Int) == 1) ((lIdx r15.2.2.2.2.1 0).bind fun x87 => (lIdx x87.kids 0).bind fun x99 => (lIdx x99.kids 0).bind fun x111 => (lIdx r4.2.2.2.2.1 0).bind fun x120 => (lIdx x120.kids 0).bind fun x132 => (law12_same.f k x111.kind x111.text x111.n x111.at_ x111.kids x132.kind x132.text x132.n x132.at_ x132.kids).bind fun r141 => cond r141 ((parse_Height.f k r15.1 r15.2.1 r15.2.2.1 r15.2.2.2.1 r15.2.2.2.2.1).bind fun r143 => (parse_Height.f k r4.1 r4.2.1 r4.2.2.1 r4.2.2.2.1 r4.2.2.2.2.1).bind fun r144 => some (r143 == (IntKind.i64.wrap (r144 + 1)))) (some false)) (some false)) (some false)) (some false)) (some false)) (some false) : Option Bool).bind fun q21 => some (q21)))
set_option maxRecDepth 100000 in
theorem law12_ParseParens.ok {k : Nat} {a0 : ByteArray} {G : Frag} {r : Bool} (h : law12_ParseParens.f k a0 = some r) (hG : GlT G) : Ct Tryz.prog 8 #[sv a0] [] [G] (fun e l1 => e = .returned (bv r) ∧ l1 = []) := by
 refine ct_enter (args := [sv a0]) Tryz.func8 rfl (Nat.le_of_ble_eq_true rfl) ?_
 intro A X hh_
 obtain ⟨hm_G, _⟩ := hh_
 unfold law12_ParseParens.f at h
 refine ksr (kx 1 (knt (k_seq (ksr (bnd h fun r1 hr1 h => (kcv (law12_fixed.ok hr1 hG) ⟨hm_G, trivial⟩ (kx 1 (knt ?_))))))))
 refine kcn h (fun h => ?_) fun h => ?_
 ·refine ksr (kx 1 (knt (k_ret (k_then_ret ?_))))
  obtain rfl := Option.some.inj h
  exact kdn rfl
 ·refine k_skip (k_then (ksr (kx 1 (bnd h fun s3 hs3 h => (kl_cat rfl (by kernel_rfl) (by kernel_rfl) (by kernel_rfl) (by kernel_rfl) hs3 (bnd h fun r4 hr4 h => (kcl (parse_Parse.ok hr4 hG.1) rfl ⟨hm_G, trivial⟩ ?_)))))))
  rintro _ _ ⟨h5, A6, k7, o8, rfl, rfl⟩
  refine nx_ret1 (kx 3 (knp #[iv 0, sv noS, iv 0, iv 0, nS] 24 fun b9 => (knp #[iv 0, iv 0] 27 fun b10 => (K.mv1 (kst 0 5 #[iv r4.1, sv r4.2.1, iv r4.2.2.1, iv r4.2.2.2.1, .slice A6 r4.2.2.2.2.1.length k7] (K.mv1 (kst 0 2 #[iv r4.2.2.2.2.2.1, iv r4.2.2.2.2.2.2] (knt (k_seq (bnd h fun q11 hq11 h => ?_))))))))))
  refine k_cut1 [(0, sv a0), (3, pt b9), (4, pt b10), (48, bv q11)] (bk b10 #[iv r4.2.2.2.2.2.1, iv r4.2.2.2.2.2.2] 27 :: bk b9 #[iv r4.1, sv r4.2.1, iv r4.2.2.1, iv r4.2.2.2.1, .slice A6 r4.2.2.2.2.1.length k7] 24 :: h5 :: X) ?_ ?_
  ·clear hq11
   refine kcn h (fun h => ?_) fun h => ?_
   ·refine ksr (kx 1 (knt (k_ret (k_then_ret ?_))))
    obtain rfl := Option.some.inj h
    exact K.drop (K.drop (K.drop (kdn rfl)))
   ·refine k_skip (k_then (ksr (kx 1 (bnd h fun s13 hs13 h => (kl_cat rfl (by kernel_rfl) (by kernel_rfl) (by kernel_rfl) (by kernel_rfl) hs13 (bnd h fun s14 hs14 h => (kl_cat rfl (by kernel_rfl) (by kernel_rfl) (by kernel_rfl) (by kernel_rfl) hs14 (bnd h fun r15 hr15 h => (kcl (parse_Parse.ok hr15 hG.1) rfl ⟨(t3 hm_G), trivial⟩ ?_)))))))))
    rintro _ _ ⟨h16, A17, k18, o19, rfl, rfl⟩
    refine nx_ret1 (kx 3 (knp #[iv 0, sv noS, iv 0, iv 0, nS] 24 fun b20 => (kst 0 5 #[iv r15.1, sv r15.2.1, iv r15.2.2.1, iv r15.2.2.2.1, .slice A17 r15.2.2.2.2.1.length k18] (K.mv2 (kst 0 2 #[iv r15.2.2.2.2.2.1, iv r15.2.2.2.2.2.2] (knt (bnd h fun q21 hq21 h => ?_)))))))
    refine k_cut1 [(2, bv q21)] (X) ?_ ?_
    ·clear hq21
     refine k_ret ?_
     obtain rfl := Option.some.inj h
     exact kdn rfl
    ·have h := hq21
     clear hq21
     refine kpr [(0, 0), (1, 3), (2, 0), (3, 0), (4, 0), (5, 3), (6, 0), (7, 0), (8, 0), (9, 0), (10, 0), (11, 3), (12, 0), (13, 0), (14, 3), (15, 0), (16, 0), (17, 0), (18, 0), (19, 0), (20, 3), (21, 0), (22, 0), (23, 3), (24, 0), (25, 0), (26, 3), (27, 0), (28, 0), (29, 0), (30, 0), (31, 3), (32, 0), (33, 0), (34, 3), (35, 0), (36, 0), (37, 3), (38, 0), (39, 0), (40, 0), (41, 0), (42, 0), (43, 3), (44, 0), (45, 0), (46, 3), (47, 0), (48, 0), (49, 3), (50, 0), (51, 3), (52, 0), (53, 3), (54, 0), (55, 0), (56, 3), (57, 0), (58, 3), (59, 1), (60, 0), (61, 0), (62, 3), (64, 3), (63, 1)] [0, 1, 2, 3, 4] (kpx 1 (kpd 0 0 rfl (kpx 2 ?_)))
     refine kcs 59 h (fun h => ?_) fun h => ?_
     ·refine kpx 1 (kpd 1 4 rfl (kpx 4 ?_))
      refine kcs 65 h (fun h => ?_) fun h => ?_
      ·refine kpx 1 (kpd 1 4 rfl (bnd h fun x24 hx24 h => (kpelR (T := 24) (kd := .i64) (R := (rTree 24)) rfl hx24 (OwnR.rd o19) fun p25 u28 q29 e26 y27 => ?_)))
       obtain ⟨A30, k31, rfl, o32⟩ := treeR_mk 24 q29
       refine kpefP (off := 4) rfl e26 y27 fun p33 e34 y35 => ?_
       have e34 : Elem _ p33 [.slice A30 x24.kids.length k31] := e34
       refine kp_eload1 rfl (by kernel_rfl) (by kernel_rfl) (by kernel_rfl) (by kernel_rfl) e34 (fun w h_ => h_.mem _ (.tail _ (.tail _ (.head _)))) (kpx 4 ?_)
       refine kcs 74 h (fun h => ?_) fun h => ?_
       ·refine kpx 1 (kpd 1 4 rfl (bnd h fun x37 hx37 h => (kpelR (T := 24) (kd := .i64) (R := (rTree 24)) rfl hx37 (OwnR.rd o19) fun p38 u41 q42 e39 y40 => ?_)))
        obtain ⟨A43, k44, rfl, o45⟩ := treeR_mk 24 q42
        refine kpefP (off := 4) rfl e39 y40 fun p46 e47 y48 => ?_
        have e47 : Elem _ p46 [.slice A43 x37.kids.length k44] := e47
        refine kp_eload1 rfl (by kernel_rfl) (by kernel_rfl) (by kernel_rfl) (by kernel_rfl) e47 (fun w h_ => h_.mem _ (.tail _ (.tail _ (.head _)))) (bnd h fun x49 hx49 h => (kpelR (T := 24) (kd := .i64) (R := (rTree 24)) rfl hx49 o45 fun p50 u53 q54 e51 y52 => ?_))
        obtain ⟨A55, k56, rfl, o57⟩ := treeR_mk 24 q54
        refine kpefP (off := 0) rfl e51 y52 fun p58 e59 y60 => ?_
        have e59 : Elem _ p58 [iv x49.kind, sv x49.text, iv x49.n, iv x49.at_, .slice A55 x49.kids.length k56] := e59
        refine kp_eload1 rfl (by kernel_rfl) (by kernel_rfl) (by kernel_rfl) (by kernel_rfl) e59 (fun w h_ => h_.mem _ (.tail _ (.tail _ (.head _)))) (kpx 3 ?_)
        refine kcs 85 h (fun h => ?_) fun h => ?_
        ·refine kpx 1 (kpd 1 4 rfl (bnd h fun x62 hx62 h => (kpelR (T := 24) (kd := .i64) (R := (rTree 24)) rfl hx62 (OwnR.rd o19) fun p63 u66 q67 e64 y65 => ?_)))
         obtain ⟨A68, k69, rfl, o70⟩ := treeR_mk 24 q67
         refine kpefP (off := 4) rfl e64 y65 fun p71 e72 y73 => ?_
         have e72 : Elem _ p71 [.slice A68 x62.kids.length k69] := e72
         refine kp_eload1 rfl (by kernel_rfl) (by kernel_rfl) (by kernel_rfl) (by kernel_rfl) e72 (fun w h_ => h_.mem _ (.tail _ (.tail _ (.head _)))) (bnd h fun x74 hx74 h => (kpelR (T := 24) (kd := .i64) (R := (rTree 24)) rfl hx74 o70 fun p75 u78 q79 e76 y77 => ?_))
         obtain ⟨A80, k81, rfl, o82⟩ := treeR_mk 24 q79
         refine kpefP (off := 4) rfl e76 y77 fun p83 e84 y85 => ?_
         have e84 : Elem _ p83 [.slice A80 x74.kids.length k81] := e84
         refine kp_eload1 rfl (by kernel_rfl) (by kernel_rfl) (by kernel_rfl) (by kernel_rfl) e84 (fun w h_ => h_.mem _ (.tail _ (.tail _ (.head _)))) (kpx 4 ?_)
         refine kcs 97 h (fun h => ?_) fun h => ?_
         ·refine kpx 1 (kpd 1 4 rfl (bnd h fun x87 hx87 h => (kpelR (T := 24) (kd := .i64) (R := (rTree 24)) rfl hx87 (OwnR.rd o19) fun p88 u91 q92 e89 y90 => ?_)))
          obtain ⟨A93, k94, rfl, o95⟩ := treeR_mk 24 q92
          refine kpefP (off := 4) rfl e89 y90 fun p96 e97 y98 => ?_
          have e97 : Elem _ p96 [.slice A93 x87.kids.length k94] := e97
          refine kp_eload1 rfl (by kernel_rfl) (by kernel_rfl) (by kernel_rfl) (by kernel_rfl) e97 (fun w h_ => h_.mem _ (.tail _ (.tail _ (.head _)))) (bnd h fun x99 hx99 h => (kpelR (T := 24) (kd := .i64) (R := (rTree 24)) rfl hx99 o95 fun p100 u103 q104 e101 y102 => ?_))
          obtain ⟨A105, k106, rfl, o107⟩ := treeR_mk 24 q104
          refine kpefP (off := 4) rfl e101 y102 fun p108 e109 y110 => ?_
          have e109 : Elem _ p108 [.slice A105 x99.kids.length k106] := e109
          refine kp_eload1 rfl (by kernel_rfl) (by kernel_rfl) (by kernel_rfl) (by kernel_rfl) e109 (fun w h_ => h_.mem _ (.tail _ (.tail _ (.head _)))) (bnd h fun x111 hx111 h => (kpelR (T := 24) (kd := .i64) (R := (rTree 24)) rfl hx111 o107 fun p112 u115 q116 e113 y114 => ?_))
          obtain ⟨A117, k118, rfl, o119⟩ := treeR_mk 24 q116
          refine kpeN rfl e113 (fun w h_ => h_.mem _ (.tail _ (.tail _ (.head _)))) (kpx 1 (kpd 3 4 rfl (bnd h fun x120 hx120 h => (kpelR (T := 24) (kd := .i64) (R := (rTree 24)) rfl hx120 (OwnR.rd o8) fun p121 u124 q125 e122 y123 => ?_))))
          obtain ⟨A126, k127, rfl, o128⟩ := treeR_mk 24 q125
          refine kpefP (off := 4) rfl e122 y123 fun p129 e130 y131 => ?_
          have e130 : Elem _ p129 [.slice A126 x120.kids.length k127] := e130
          refine kp_eload1 rfl (by kernel_rfl) (by kernel_rfl) (by kernel_rfl) (by kernel_rfl) e130 (fun w h_ => h_.mem _ (.tail _ (.tail _ (.tail _ (.tail _ (.head _)))))) (bnd h fun x132 hx132 h => (kpelR (T := 24) (kd := .i64) (R := (rTree 24)) rfl hx132 o128 fun p133 u136 q137 e134 y135 => ?_))
          obtain ⟨A138, k139, rfl, o140⟩ := treeR_mk 24 q137
          refine kpeN rfl e134 (fun w h_ => h_.mem _ (.tail _ (.tail _ (.tail _ (.tail _ (.head _)))))) (kpt (bnd h fun r141 hr141 h => (ocv (law12_same.ok hr141 o119 o140) ⟨(.tail _ (.tail _ (.head _))), (.tail _ (.tail _ (.tail _ (.tail _ (.head _))))), trivial⟩ (kan [0, 1, 2, 3, 4] rfl (kpx 2 ?_)))))
          refine kcs 117 h (fun h => ?_) fun h => ?_
          ·refine kpa 1 0 5 rfl (kpa 3 0 5 rfl (kpt (bnd h fun r143 hr143 h => (ocv (parse_Height.ok hr143 (OwnR.rd o19)) ⟨(.tail _ (.tail _ (.head _))), trivial⟩ (kan [0, 1, 2, 3, 4] rfl (kpz (bnd h fun r144 hr144 h => (kcv (parse_Height.ok hr144 (OwnR.rd o8)) ⟨(.tail _ (.tail _ (.tail _ (.tail _ (.head _))))), trivial⟩ (K.drop (K.drop ?_))))))))))
           exact K.drop (K.drop (K.drop (kx 4 (knt (k_meet1 ⟨gb (Option.some.inj h), trivial⟩)))))
          ·refine kp_skip3 (by kernel_rfl) (by kernel_rfl) (kp_skip3 (by kernel_rfl) (by kernel_rfl) (kp_skip1 (by kernel_rfl) (by kernel_rfl) (kan [0, 1, 2, 3, 4] rfl (kpz (kx 5 (knt (K.drop (K.drop (K.drop (K.drop ?_))))))))))
           exact K.drop (k_meet1 ⟨gb (Option.some.inj h), trivial⟩)
         ·refine kpx 1 (kp_skip3 (by kernel_rfl) (by kernel_rfl) (kpx 2 (kp_skip3 (by kernel_rfl) (by kernel_rfl) (kpx 2 (kp_skip3 (by kernel_rfl) (by kernel_rfl) (kpx 1 (kp_skip3 (by kernel_rfl) (by kernel_rfl) (kpx 1 (kp_skip3 (by kernel_rfl) (by kernel_rfl) (kpx 2 ?_))))))))))
          refine kp_skip3 (by kernel_rfl) (by kernel_rfl) (kpx 1 (kp_skip3 (by kernel_rfl) (by kernel_rfl) (kp_skip1 (by kernel_rfl) (by kernel_rfl) (kan [0, 1, 2, 3, 4] rfl (kpx 2 (kp_skip3 (by kernel_rfl) (by kernel_rfl) (kp_skip3 (by kernel_rfl) (by kernel_rfl) (kp_skip1 (by kernel_rfl) (by kernel_rfl) (kan [0, 1, 2, 3, 4] rfl (kpz ?_))))))))))
          exact kx 5 (knt (K.drop (K.drop (K.drop (K.drop (K.drop (k_meet1 ⟨gb (Option.some.inj h), trivial⟩)))))))
        ·refine kpx 1 (kp_skip3 (by kernel_rfl) (by kernel_rfl) (kpx 2 (kp_skip3 (by kernel_rfl) (by kernel_rfl) (kpx 2 (kp_skip3 (by kernel_rfl) (by kernel_rfl) (kpx 5 (kp_skip3 (by kernel_rfl) (by kernel_rfl) (kpx 2 (kp_skip3 (by kernel_rfl) (by kernel_rfl) (kpx 2 ?_))))))))))
         refine kp_skip3 (by kernel_rfl) (by kernel_rfl) (kpx 1 (kp_skip3 (by kernel_rfl) (by kernel_rfl) (kpx 1 (kp_skip3 (by kernel_rfl) (by kernel_rfl) (kpx 2 (kp_skip3 (by kernel_rfl) (by kernel_rfl) (kpx 1 (kp_skip3 (by kernel_rfl) (by kernel_rfl) (kp_skip1 (by kernel_rfl) (by kernel_rfl) (kan [0, 1, 2, 3, 4] rfl ?_))))))))))
         refine kpx 2 (kp_skip3 (by kernel_rfl) (by kernel_rfl) (kp_skip3 (by kernel_rfl) (by kernel_rfl) (kp_skip1 (by kernel_rfl) (by kernel_rfl) (kan [0, 1, 2, 3, 4] rfl (kpz (kx 5 (knt (K.drop (K.drop (K.drop ?_))))))))))
         exact K.drop (K.drop (k_meet1 ⟨gb (Option.some.inj h), trivial⟩))
       ·refine kpx 1 (kp_skip3 (by kernel_rfl) (by kernel_rfl) (kpx 2 (kp_skip3 (by kernel_rfl) (by kernel_rfl) (kpx 2 (kp_skip3 (by kernel_rfl) (by kernel_rfl) (kpx 4 (kp_skip3 (by kernel_rfl) (by kernel_rfl) (kpx 2 (kp_skip3 (by kernel_rfl) (by kernel_rfl) (kpx 2 ?_))))))))))
        refine kp_skip3 (by kernel_rfl) (by kernel_rfl) (kpx 5 (kp_skip3 (by kernel_rfl) (by kernel_rfl) (kpx 2 (kp_skip3 (by kernel_rfl) (by kernel_rfl) (kpx 2 (kp_skip3 (by kernel_rfl) (by kernel_rfl) (kpx 1 (kp_skip3 (by kernel_rfl) (by kernel_rfl) (kpx 1 (kp_skip3 (by kernel_rfl) (by kernel_rfl) ?_))))))))))
        refine kpx 2 (kp_skip3 (by kernel_rfl) (by kernel_rfl) (kpx 1 (kp_skip3 (by kernel_rfl) (by kernel_rfl) (kp_skip1 (by kernel_rfl) (by kernel_rfl) (kan [0, 1, 2, 3, 4] rfl (kpx 2 (kp_skip3 (by kernel_rfl) (by kernel_rfl) (kp_skip3 (by kernel_rfl) (by kernel_rfl) (kp_skip1 (by kernel_rfl) (by kernel_rfl) (kan [0, 1, 2, 3, 4] rfl ?_))))))))))
        exact kpz (kx 5 (knt (K.drop (K.drop (K.drop (K.drop (K.drop (k_meet1 ⟨gb (Option.some.inj h), trivial⟩))))))))
      ·refine kpx 1 (kp_skip3 (by kernel_rfl) (by kernel_rfl) (kpx 2 (kp_skip3 (by kernel_rfl) (by kernel_rfl) (kpx 5 (kp_skip3 (by kernel_rfl) (by kernel_rfl) (kpx 2 (kp_skip3 (by kernel_rfl) (by kernel_rfl) (kpx 2 (kp_skip3 (by kernel_rfl) (by kernel_rfl) (kpx 4 ?_))))))))))
       refine kp_skip3 (by kernel_rfl) (by kernel_rfl) (kpx 2 (kp_skip3 (by kernel_rfl) (by kernel_rfl) (kpx 2 (kp_skip3 (by kernel_rfl) (by kernel_rfl) (kpx 5 (kp_skip3 (by kernel_rfl) (by kernel_rfl) (kpx 2 (kp_skip3 (by kernel_rfl) (by kernel_rfl) (kpx 2 (kp_skip3 (by kernel_rfl) (by kernel_rfl) ?_))))))))))
       refine kpx 1 (kp_skip3 (by kernel_rfl) (by kernel_rfl) (kpx 1 (kp_skip3 (by kernel_rfl) (by kernel_rfl) (kpx 2 (kp_skip3 (by kernel_rfl) (by kernel_rfl) (kpx 1 (kp_skip3 (by kernel_rfl) (by kernel_rfl) (kp_skip1 (by kernel_rfl) (by kernel_rfl) (kan [0, 1, 2, 3, 4] rfl (kpx 2 ?_))))))))))
       refine kp_skip3 (by kernel_rfl) (by kernel_rfl) (kp_skip3 (by kernel_rfl) (by kernel_rfl) (kp_skip1 (by kernel_rfl) (by kernel_rfl) (kan [0, 1, 2, 3, 4] rfl (kpz (kx 5 (knt (K.drop (K.drop (K.drop (K.drop ?_))))))))))
       exact K.drop (k_meet1 ⟨gb (Option.some.inj h), trivial⟩)
     ·refine kpx 1 (kp_skip3 (by kernel_rfl) (by kernel_rfl) (kpx 5 (kp_skip3 (by kernel_rfl) (by kernel_rfl) (kpx 2 (kp_skip3 (by kernel_rfl) (by kernel_rfl) (kpx 5 (kp_skip3 (by kernel_rfl) (by kernel_rfl) (kpx 2 (kp_skip3 (by kernel_rfl) (by kernel_rfl) (kpx 2 ?_))))))))))
      refine kp_skip3 (by kernel_rfl) (by kernel_rfl) (kpx 4 (kp_skip3 (by kernel_rfl) (by kernel_rfl) (kpx 2 (kp_skip3 (by kernel_rfl) (by kernel_rfl) (kpx 2 (kp_skip3 (by kernel_rfl) (by kernel_rfl) (kpx 5 (kp_skip3 (by kernel_rfl) (by kernel_rfl) (kpx 2 (kp_skip3 (by kernel_rfl) (by kernel_rfl) ?_))))))))))
      refine kpx 2 (kp_skip3 (by kernel_rfl) (by kernel_rfl) (kpx 1 (kp_skip3 (by kernel_rfl) (by kernel_rfl) (kpx 1 (kp_skip3 (by kernel_rfl) (by kernel_rfl) (kpx 2 (kp_skip3 (by kernel_rfl) (by kernel_rfl) (kpx 1 (kp_skip3 (by kernel_rfl) (by kernel_rfl) (kp_skip1 (by kernel_rfl) (by kernel_rfl) ?_))))))))))
      refine kan [0, 1, 2, 3, 4] rfl (kpx 2 (kp_skip3 (by kernel_rfl) (by kernel_rfl) (kp_skip3 (by kernel_rfl) (by kernel_rfl) (kp_skip1 (by kernel_rfl) (by kernel_rfl) (kan [0, 1, 2, 3, 4] rfl (kpz (kx 5 (knt (K.drop (K.drop ?_))))))))))
      exact K.drop (K.drop (K.drop (k_meet1 ⟨gb (Option.some.inj h), trivial⟩)))
  ·have h := hq11
   clear hq11
   refine k_region (kx 1 (kld 0 0 rfl (kx 2 ?_)))
   refine kcs 17 h (fun h => ?_) fun h => ?_
   ·exact kx 31 (knt (k_meet1 ⟨gr, gr, gr, gb (Option.some.inj h), trivial⟩))
   ·refine kx 1 (kld 1 4 rfl (kx 4 ?_))
    refine kcs 23 h (fun h => ?_) fun h => ?_
    ·exact kx 25 (knt (k_meet1 ⟨gr, gr, gr, gb (Option.some.inj h), trivial⟩))
    ·refine kx 1 (kld 1 4 rfl (bnd h fun x147 hx147 h => (kelR (T := 24) (kd := .i64) (R := (rTree 24)) rfl hx147 (OwnR.rd o8) fun p148 u151 q152 e149 y150 => ?_)))
     obtain ⟨A153, k154, rfl, o155⟩ := treeR_mk 24 q152
     refine kefP (off := 4) rfl e149 y150 fun p156 e157 y158 => ?_
     have e157 : Elem _ p156 [.slice A153 x147.kids.length k154] := e157
     refine kl_eload1 rfl (by kernel_rfl) (by kernel_rfl) (by kernel_rfl) (by kernel_rfl) e157 (.tail _ (.tail _ (.head _))) (kx 4 ?_)
     refine kcs 32 h (fun h => ?_) fun h => ?_
     ·exact kx 16 (knt (k_meet1 ⟨gr, gr, gr, gb (Option.some.inj h), trivial⟩))
     ·refine kx 1 (kld 1 4 rfl (bnd h fun x160 hx160 h => (kelR (T := 24) (kd := .i64) (R := (rTree 24)) rfl hx160 (OwnR.rd o8) fun p161 u164 q165 e162 y163 => ?_)))
      obtain ⟨A166, k167, rfl, o168⟩ := treeR_mk 24 q165
      refine kefP (off := 0) rfl e162 y163 fun p169 e170 y171 => ?_
      have e170 : Elem _ p169 [iv x160.kind, sv x160.text, iv x160.n, iv x160.at_, .slice A166 x160.kids.length k167] := e170
      refine kl_eload1 rfl (by kernel_rfl) (by kernel_rfl) (by kernel_rfl) (by kernel_rfl) e170 (.tail _ (.tail _ (.head _))) (kx 3 ?_)
      refine kcs 40 h (fun h => ?_) fun h => ?_
      ·exact kx 8 (knt (k_meet1 ⟨gr, gr, gr, gb (Option.some.inj h), trivial⟩))
      ·refine kx 5 ?_
       refine kcs 45 h (fun h => ?_) fun h => ?_
       ·exact kx 3 (knt (k_meet1 ⟨gr, gr, gr, gb (Option.some.inj h), trivial⟩))
       ·exact kx 1 (bnd h fun r174 hr174 h => (kcv (law12_ends.ok hr174) trivial (kx 1 (knt (k_meet1 ⟨gr, gr, gr, gb (Option.some.inj h), trivial⟩)))))
end Go.Proofs.YtcdeodpakbcdeaaGreatDoor
namespace Go.Proofs.YtcdeodpakbcdeaaGreatDoor
open Go Go.RowKit Lx
end Go.Proofs.YtcdeodpakbcdeaaGreatDoor
namespace Go.Proofs.YtcdeodpakbcdeaaGreatDoor
open Go Go.RowKit Lx
def Evt {α : Type} (g : Nat → Option α) (r : α) : Prop := ∃ K, ∀ k, K ≤ k → g k = some r
theorem Evt.bind {α β : Type} {g : Nat → Option α} {f : Nat → α → Option β} {a : α} {r : β} (h1 : Evt g a) (h2 : Evt (fun k => f k a) r) : Evt (fun k => (g k).bind (f k)) r := by
 obtain ⟨K1, h1⟩ := h1
 obtain ⟨K2, h2⟩ := h2
 exact ⟨max K1 K2, fun k hk => by show (g k).bind (f k) = some r; rw [h1 k (by omega)]; exact h2 k (by omega)⟩
theorem sIdx_nat (s : ByteArray) (i : Nat) : sIdx s (i : Int) = (bs s)[i]? := by
 unfold sIdx
 rw [if_pos (by omega), Int.toNat_natCast]
 simp only [bs]
 rcases Nat.lt_or_ge i s.size with h | h
 ·rw [getElem?_pos s i h, List.getElem?_eq_getElem (by simpa using h)]
  rfl
 ·rw [getElem?_neg s i (by omega), List.getElem?_eq_none (by simpa using h)]
end Go.Proofs.YtcdeodpakbcdeaaGreatDoor
namespace Go.Proofs.YtcdeodpakbcdeaaGreatDoor
open Go Go.RowKit Lx
def NoEnds (l : Bs) : Prop := ∀ (i : Nat) (b : UInt8), l[i]? = some b → b ≠ 59 ∧ ¬ (b = 45 ∧ 0 < i ∧ l[i - 1]? = some 45)
theorem ends_loop (s : ByteArray) (hs : s.size ≤ 1000000) (J : Unit → Option Bool) : ∀ (d i m : Nat), s.size - i ≤ d → i ≤ s.size → d < m →
  law12_ends.l0 m s J (i : Int) = some true ∨ ((∀ j b, i ≤ j → (bs s)[j]? = some b → b ≠ 59 ∧ ¬ (b = 45 ∧ 0 < j ∧ (bs s)[j - 1]? = some 45)) ∧ law12_ends.l0 m s J (i : Int) = J ())
 | d, i, m, hd, hi, hm => by
  obtain ⟨m, rfl⟩ : ∃ m', m = m' + 1 := ⟨m - 1, by omega⟩
  rcases Nat.lt_or_ge i s.size with h | h
  ·obtain ⟨d, rfl⟩ : ∃ d', d = d' + 1 := ⟨d - 1, by omega⟩
   have ih := ends_loop s hs J d (i + 1) m (by omega) (by omega) (by omega)
   obtain ⟨b, hb⟩ : ∃ b, (bs s)[i]? = some b := ⟨_, List.getElem?_eq_getElem (by rw [bs_length]; exact h)⟩
   have e1 : sIdx s (i : Int) = some b := (sIdx_nat s i).trans hb
   have e : law12_ends.l0 (m + 1) s J (i : Int) = (cond ((b.toNat : Int) == (59 : Int)) (some true) (cond ((b.toNat : Int) == (45 : Int)) (cond (decide ((i : Int) > (0 : Int))) ((sIdx s (IntKind.i64.wrap ((i : Int) - (1 : Int)))).bind fun c12 : UInt8 => some ((c12.toNat : Int) == (45 : Int))) (some false)) (some false)) : Option Bool).bind fun q5 => cond q5 (some true) (law12_ends.l0 m s J ((i + 1 : Nat) : Int)) := by
    rw [law12_ends.l0]
    rw [dec_t (p := (i : Int) < (s.size : Int)) (by omega), e1, wrap64 ((i : Int) + 1) (by omega) (by omega)]
    rfl
   rw [e]
   have hnat : ∀ (x : UInt8) (k : Nat), k < 256 → ((x.toNat : Int) == (k : Int)) = decide (x = UInt8.ofNat k) := by
    intro x k hk
    rw [Bool.eq_iff_iff, beq_iff_eq, decide_eq_true_eq, ← UInt8.toNat_inj]
    have : (UInt8.ofNat k).toNat = k := by simp [UInt8.toNat_ofNat']; omega
    rw [this]
    omega
   have h59 := hnat b 59 (by omega)
   have h45 := hnat b 45 (by omega)
   rw [show ((b.toNat : Int) == (59 : Int)) = decide (b = 59) from h59, show ((b.toNat : Int) == (45 : Int)) = decide (b = 45) from h45]
   by_cases c1 : b = 59
   ·rw [dec_t c1]; exact .inl rfl
   rw [dec_f c1]
   have rest : ∀ g : Option Bool, g = some false → ¬ (b = 45 ∧ 0 < i ∧ (bs s)[i - 1]? = some 45) → (g.bind fun q5 => cond q5 (some true) (law12_ends.l0 m s J ((i + 1 : Nat) : Int))) = some true ∨ ((∀ j b, i ≤ j → (bs s)[j]? = some b → b ≠ 59 ∧ ¬ (b = 45 ∧ 0 < j ∧ (bs s)[j - 1]? = some 45)) ∧ (g.bind fun q5 => cond q5 (some true) (law12_ends.l0 m s J ((i + 1 : Nat) : Int))) = J ()) := by
    rintro _ rfl hno
    rcases ih with ih | ⟨h1, h2⟩
    ·exact .inl ih
    ·refine .inr ⟨fun j b' hj hb' => ?_, h2⟩
     rcases Nat.eq_or_lt_of_le hj with rfl | hj
     ·have := Option.some.inj (hb.symm.trans hb')
      subst this
      exact ⟨c1, hno⟩
     ·exact h1 j b' hj hb'
   by_cases c2 : b = 45
   ·rw [dec_t c2]
    by_cases c3 : (i : Int) > 0
    ·rw [dec_t c3]
     obtain ⟨b0, hb0⟩ : ∃ b0, (bs s)[i - 1]? = some b0 := ⟨_, List.getElem?_eq_getElem (by rw [bs_length]; omega)⟩
     have e2 : sIdx s (IntKind.i64.wrap ((i : Int) - 1)) = some b0 := by
      rw [wrap64 _ (by omega) (by omega), show (i : Int) - 1 = ((i - 1 : Nat) : Int) by omega]
      exact (sIdx_nat s (i - 1)).trans hb0
     rw [e2]
     simp only [cond_false, cond_true, Option.bind_some]
     rw [show ((b0.toNat : Int) == (45 : Int)) = decide (b0 = 45) from hnat b0 45 (by omega)]
     by_cases c4 : b0 = 45
     ·rw [dec_t c4]; exact .inl rfl
     ·rw [dec_f c4]
      exact rest (some false) rfl (by rintro ⟨_, _, h⟩; rw [hb0] at h; exact c4 (Option.some.inj h))
    ·rw [dec_f c3]
     exact rest (some false) rfl (by rintro ⟨_, h, _⟩; omega)
   ·rw [dec_f c2]
    exact rest (some false) rfl (by rintro ⟨h, _⟩; exact c2 h)
  ·refine .inr ⟨fun j b hj hb => ?_, ?_⟩
   ·have := (List.getElem?_eq_some_iff.1 hb).1
    rw [bs_length] at this
    omega
   ·rw [law12_ends.l0]
    rw [dec_f (p := (i : Int) < (s.size : Int)) (by omega)]
    rfl
theorem ends_cases (s : ByteArray) (hs : s.size ≤ 1000000) : law12_ends.f 2000000 s = some true ∨ (NoEnds (bs s) ∧ law12_ends.f 2000000 s = some false) := by
 have := ends_loop s hs (fun _ => some false) s.size 0 2000000 (by omega) (by omega) (by omega)
 rw [show ((0 : Nat) : Int) = 0 from rfl] at this
 unfold law12_ends.f joinF
 rcases this with h | ⟨h1, h2⟩
 ·exact .inl h
 ·exact .inr ⟨fun i b hb => h1 i b (Nat.zero_le _) hb, h2⟩
theorem NoEnds.closed {l : Bs} (h : NoEnds l) : Closed' l := fun i hi => by
 exfalso
 cases hd : l.drop i with
 | nil => rw [hd] at hi; cases hi
 | cons a t =>
  cases t with
  | nil => rw [hd] at hi; simp [List.isPrefixOf] at hi
  | cons b t =>
   rw [hd] at hi
   simp only [List.isPrefixOf, Bool.and_eq_true, beq_iff_eq] at hi
   have g0 : l[i]? = some a := by
    have : (l.drop i)[0]? = some a := by rw [hd]; rfl
    rw [List.getElem?_drop] at this; simpa using this
   have g1 : l[i + 1]? = some b := by
    have : (l.drop i)[1]? = some b := by rw [hd]; rfl
    rw [List.getElem?_drop] at this; exact this
   refine (h (i + 1) b g1).2 ⟨hi.2.1.symm, Nat.succ_pos _, ?_⟩
   rw [Nat.add_sub_cancel, g0, ← hi.1]
theorem signF_in {l s : Bs} (h : signF l = some s) : s.isPrefixOf l = true ∧ s ∈ signList := by
 unfold signF at h
 have h1 := List.find?_some (p := fun s => List.isPrefixOf s l) h
 exact ⟨h1, List.mem_of_find?_eq_some h⟩
theorem semi_step {l : Bs} {k : Int} {t : Bs} {n : Int} {len : Nat} (h : stepF l = .tok k t n len) (hk : (k == 2 || k == 5) = true) (ht : t = [59]) : (59 : UInt8) ∈ l := by
 subst ht
 unfold stepF at h
 dsimp only at h
 repeat' split at h
 all_goals first | (cases h; done) | skip
 all_goals simp only [Step.tok.injEq] at h
 ·obtain ⟨_, h2, _⟩ := h
  have : (59 : UInt8) ∈ l.take (runL partR l) := by rw [h2]; simp
  exact List.mem_of_mem_take this
 ·obtain ⟨h1, h2, _⟩ := h
  have : (59 : UInt8) ∈ l.take (runL partR l) := by rw [h2]; simp
  exact List.mem_of_mem_take this
 ·obtain ⟨h1, _⟩ := h
  subst h1
  simp at hk
 ·obtain ⟨h1, _⟩ := h
  subst h1
  simp at hk
 ·rename_i s hs
  obtain ⟨_, h2, _⟩ := h
  subst h2
  have := (signF_in hs).1
  cases l with
  | nil => cases this
  | cons a l => simp only [List.isPrefixOf, Bool.and_eq_true, beq_iff_eq] at this; rw [← this.1]; simp
theorem semi_scan : ∀ (n : Nat) (l : Bs) (at_ : Nat) (acc t : List Tok), l.length ≤ n → (59 : UInt8) ∉ l → (∀ x ∈ acc, ((x.kind == 2 || x.kind == 5) = true → x.text ≠ [59])) → scanL l at_ acc = .inr t → ∀ x ∈ t, (x.kind == 2 || x.kind == 5) = true → x.text ≠ [59] := by
 intro n
 induction n with
 | zero =>
  intro l at_ acc t hn hno hacc h x hx hk
  have : l = [] := List.eq_nil_of_length_eq_zero (by omega)
  subst this
  rw [scan_nil] at h
  cases h
  rcases List.mem_append.1 hx with hx | hx
  ·exact hacc x hx hk
  ·obtain rfl := List.mem_singleton.1 hx
   simp at hk
 | succ n ih =>
  intro l at_ acc t hn hno hacc h x hx hk
  rw [scanL_step] at h
  have hlen := runL_le' blankR l
  have hno' : (59 : UInt8) ∉ l.drop (runL blankR l) := fun h => hno (List.mem_of_mem_drop h)
  cases hst : stepF (l.drop (runL blankR l)) with
  | done =>
   rw [hst] at h
   cases h
   rcases List.mem_append.1 hx with hx | hx
   ·exact hacc x hx hk
   ·obtain rfl := List.mem_singleton.1 hx
    simp at hk
  | bad c r => rw [hst] at h; cases h
  | skip q =>
   rw [hst] at h
   have := (stepF_take _).1 q hst
   rw [List.length_drop] at this
   exact ih _ _ _ _ (by rw [List.length_drop, List.length_drop]; omega) (fun h => hno' (List.mem_of_mem_drop h)) hacc h x hx hk
  | tok kd tx v len =>
   rw [hst] at h
   have := (stepF_take _).2 _ _ _ _ hst
   rw [List.length_drop] at this
   refine ih _ _ _ _ (by rw [List.length_drop, List.length_drop]; omega) (fun h => hno' (List.mem_of_mem_drop h)) (fun y hy hky => ?_) h x hx hk
   rcases List.mem_append.1 hy with hy | hy
   ·exact hacc y hy hky
   ·obtain rfl := List.mem_singleton.1 hy
    intro e
    exact hno' (semi_step hst hky e)
theorem toList_str (l : Bs) : (str l).toList = l := by rw [Lib.toList_data]; exact bs_str l
theorem isT_semi {x : Tok} (h : (x.kind == 2 || x.kind == 5) = true → x.text ≠ [59]) : isT kSemi (tokT x) = false := by
 cases hc : isT kSemi (tokT x) with
 | false => rfl
 | true =>
  unfold isT tokT at hc
  simp only [Bool.and_eq_true, beq_iff_eq] at hc
  have h2 : (str x.text).toList = kSemi.toList := hc.2
  rw [show kSemi = str [59] from rfl, toList_str, toList_str] at h2
  exact absurd h2 (h hc.1)
theorem Sm_shift2 (d d' : Nat) : ∀ (T : List Tok), Sm ((T.map (shift d)).map tokT) ((T.map (shift d')).map tokT)
 | [] => trivial
 | x :: T => ⟨⟨rfl, rfl, rfl⟩, Sm_shift2 d d' T⟩
theorem ht_kids (n : Tree) : htT n = htTs n.kids + 1 := by cases n; rfl
theorem pparens_true (s : ByteArray) (hsz : s.size ≤ 140737488355328) : law12_ParseParens.f 2000000 s = some true := by
 unfold law12_ParseParens.f
 rw [fixed_true]
 simp only [Option.bind_some, Bool.not_true, cond_false]
 have h1 : (⟨#[114, 101, 116, 117, 114, 110, 32]⟩ : ByteArray).size = 7 := rfl
 rw [sCat_eq (by rw [h1]; omega)]
 simp only [Option.bind_some]
 rw [pparse_eq _ (by omega)]
 rcases parseV_cases (str (bs (⟨#[114, 101, 116, 117, 114, 110, 32]⟩ : ByteArray) ++ bs s)) with ⟨c, a, hc, hp⟩ | ⟨T, E, n, r, hF, hL, hG, hv, hp, ho, hz, hk⟩
 ·rw [hp]
  simp only [outV, Option.bind_some]
  rw [show (c != 0) = true by rw [bne_iff_ne]; exact hc]
  rfl
 rw [hp]
 simp only [treeV, bne_self_eq_false, cond_false, Option.bind_some]
 by_cases c1 : n.kids.length ≠ 1
 ·rw [show ((((n.kids.length : Nat) : Int)) != 1) = true by rw [bne_iff_ne]; omega]; rfl
 obtain ⟨x, hx⟩ := List.length_eq_one_iff.1 (Decidable.not_not.1 c1)
 simp only [hx, List.length_cons, List.length_nil, Nat.zero_add, Int.natCast_one, bne_self_eq_false, cond_false, idx0, Option.bind_some]
 by_cases c2 : x.kids.length ≠ 1
 ·rw [show ((((x.kids.length : Nat) : Int)) != 1) = true by rw [bne_iff_ne]; omega]; rfl
 obtain ⟨e, he⟩ := List.length_eq_one_iff.1 (Decidable.not_not.1 c2)
 simp only [he, List.length_cons, List.length_nil, Nat.zero_add, Int.natCast_one, bne_self_eq_false, cond_false, idx0, Option.bind_some]
 by_cases c3 : x.kind ≠ 30
 ·rw [show (x.kind != 30) = true by rw [bne_iff_ne]; exact c3]; rfl
 rw [show (x.kind != 30) = false by rw [bne_eq_false_iff_eq]; exact Decidable.not_not.1 c3]
 by_cases c4 : (s.size : Int) > 9000
 ·rw [dec_t c4]; rfl
 rw [dec_f c4]
 simp only [cond_false]
 rcases ends_cases s (by omega) with h | ⟨hne, h⟩
 ·rw [h]; rfl
 rw [h]
 simp only [Option.bind_some, cond_false]
 -- the tokens of s
 have hls : (bs s).length ≤ 9000 := by rw [bs_length]; omega
 rw [bs_str] at hF
 have hR := return_scan (bs s) hls
 rw [show bs (⟨#[114, 101, 116, 117, 114, 110, 32]⟩ : ByteArray) = [114, 101, 116, 117, 114, 110, 32] from rfl, hR] at hF
 cases hs0 : scanL (bs s) 0 [] with
 | inl q => rw [hs0] at hF; cases hF
 | inr t0 =>
 rw [hs0] at hF
 have hF := Sum.inr.inj hF
 obtain ⟨T0, E0, rfl, hG0, hL0, _⟩ := scan_last (s := bs s) (t := t0) (by rw [scanF_small _ (by omega)]; exact hs0)
 have hF' : (⟨2, bReturn, 0, 0⟩ :: T0.map (shift 7)) ++ [shift 7 E0] = T ++ [E] := by rw [← hF]; simp
 obtain ⟨rfl, hE⟩ := List.append_inj' hF' rfl
 have hE := List.head_eq_of_cons_eq hE
 subst hE
 have hno59 : (59 : UInt8) ∉ bs s := fun hm => by
  obtain ⟨i, hi⟩ := List.getElem?_of_mem hm
  exact (hne i 59 hi).1 rfl
 have hsemi : ∀ y ∈ (T0.map (shift 7)).map tokT, isT kSemi y = false := fun y hy => by
  obtain ⟨z, hz, rfl⟩ := List.mem_map.1 hy
  obtain ⟨w, hw, rfl⟩ := List.mem_map.1 hz
  exact isT_semi (x := shift 7 w) (semi_scan (bs s).length (bs s) 0 [] _ (Nat.le_refl _) hno59 (fun _ h => (by cases h)) hL0 w (List.mem_append_left _ hw))
 have hGR : Good ((T0.map (shift 7)).map tokT ++ [tokT (shift 7 E0)]) := (Good.cons hG).2
 obtain ⟨_, _, e', hee, hv'⟩ := parens_parse hGR (Sm_shift2 7 8 T0) rfl 0 hv hx he hsemi 0 7 ((8 + (bs s).length : Nat) : Int) ((8 + (bs s).length + 1 : Nat) : Int)
 have h2 : (⟨#[114, 101, 116, 117, 114, 110, 32, 40]⟩ : ByteArray).size = 8 := rfl
 rw [sCat_eq (by rw [h2]; omega)]
 simp only [Option.bind_some]
 have h3 : (⟨#[41]⟩ : ByteArray).size = 1 := rfl
 rw [sCat_eq (by rw [h3, str_size, List.length_append, bs_length, bs_length, h2]; omega)]
 simp only [Option.bind_some]
 have hpv : parseV (str (bs (str (bs (⟨#[114, 101, 116, 117, 114, 110, 32, 40]⟩ : ByteArray) ++ bs s)) ++ bs (⟨#[41]⟩ : ByteArray))) = treeV (.mk 20 noB 0 0 [.mk 30 noB 0 0 [.mk 9 noB 0 7 [e']]]) :=
  parseV_of (l := [114, 101, 116, 117, 114, 110, 32, 40] ++ bs s ++ [41]) (by rw [bs_str, bs_str]; rfl) (parens_scan (bs s) T0 E0 hls hne.closed hL0) (by
   simp only [List.map_append, List.map_cons, List.map_nil]; rfl) hv'
 rw [pparse_eq _ (by omega), hpv]
 simp only [Option.bind_some, treeV, mkK, mkX, mkN, mkA, mkL, beq_self_eq_true, cond_true, idx0, List.length_cons, List.length_nil, Nat.zero_add, Int.natCast_one]
 have hzn := kids_sz n
 have hzx := kids_sz x
 rw [hx] at hzn
 rw [he] at hzx
 simp only [szs] at hzn hzx
 have hze := smT_sz hee
 rw [same_f (by omega) (by omega) hee]
 simp only [Option.bind_some, cond_true]
 have hh := ht_eq 2000000 (.mk 20 noB 0 0 [.mk 30 noB 0 0 [.mk 9 noB 0 7 [e']]]) (by simp only [sz, szs]; omega) (by simp only [sz, szs]; omega)
 have hq2 : htT (.mk 20 noB 0 0 [.mk 30 noB 0 0 [.mk 9 noB 0 7 [e']]]) = htT e + 3 := by
  have := smT_ht hee
  simp only [htT, htTs]
  omega
 rw [hq2] at hh
 have hh2 : parse_Height.f 2000000 20 noB 0 0 [.mk 30 noB 0 0 [.mk 9 noB 0 7 [e']]] = some ((htT e + 3 : Nat) : Int) := hh
 have hq : htT n = htT e + 2 := by
  rw [ht_kids n, hx]
  simp only [htTs]
  rw [ht_kids x, he]
  simp only [htTs]
  omega
 have hh3 : parse_Height.f 2000000 n.kind n.text n.n n.at_ n.kids = some (htT n : Int) := ht_eq 2000000 n (by omega) (by omega)
 rw [hx, hq] at hh3
 rw [hh2, hh3]
 have := ht_sz e
 simp only [Option.bind_some]
 rw [wrap64 _ (by omega) (by omega)]
 rw [show (((htT e + 3 : Nat) : Int) == ((htT e + 2 : Nat) : Int) + 1) = true by rw [beq_iff_eq]; omega]
end Go.Proofs.YtcdeodpakbcdeaaGreatDoor
