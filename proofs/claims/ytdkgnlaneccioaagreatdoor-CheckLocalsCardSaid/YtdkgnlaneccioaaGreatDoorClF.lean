/- Texts of mine for checkLocals_card, part 6. -/
import Derived.Test.YtdkgnlaneccioaaGreatDoorClE
set_option linter.unusedSimpArgs false
set_option linter.unusedVariables false
set_option linter.unusedSectionVars false
namespace Go.Proofs.YtdkgnlaneccioaaGreatDoor
open Go Go.RowKit Lx
abbrev bLocal : Bs := [108, 111, 99, 97, 108]
abbrev bFor : Bs := [102, 111, 114]
abbrev bDoK : Bs := [100, 111]
abbrev bEndK : Bs := [101, 110, 100]
def nmTr (c : UInt8) (i at_ : Nat) : Nat → List Tree
 | 0 => []
 | d + 1 => .mk 6 (str (c :: dg i)) 0 ((at_ + 2 : Nat) : Int) [] :: nmTr c (i + 1) (at_ + 3 + (dg i).length) d
theorem isH_comma (p : Int) (ts : List Tk) : isH kComma ((5, str [44], 0, p) :: ts) = true := by kernel_rfl
theorem names_p (c : UInt8) (R : List Tk) (hR : isH kComma R = false) : ∀ (d i at_ f : Nat) (acc : List Tree), d + 1 ≤ f → pNamesL f acc ((nmT c i at_ d).map tokT ++ R) = some (.ok (acc ++ nmTr c i at_ d) R)
 | 0, i, at_, f, acc, hf => by
  obtain ⟨f, rfl⟩ : ∃ m, f = m + 1 := ⟨f - 1, by omega⟩
  simp only [nmT, nmTr, List.map_nil, List.nil_append, List.append_nil]
  rw [pNamesL, hR]
  rfl
 | d + 1, i, at_, f, acc, hf => by
  obtain ⟨f, rfl⟩ : ∃ m, f = m + 1 := ⟨f - 1, by omega⟩
  have ih := names_p c R hR d (i + 1) (at_ + 3 + (dg i).length) f (acc ++ [.mk 6 (str (c :: dg i)) 0 ((at_ + 2 : Nat) : Int) []]) (by omega)
  simp only [nmT, nmTr, List.cons_append, List.nil_append, List.map_cons]
  rw [pNamesL]
  show (if isH kComma ((5, str [44], 0, (at_ : Int)) :: _) = true then _ else _) = _
  rw [if_pos (isH_comma _ _)]
  refine Eq.trans ?_ (ih.trans ?_)
  ·rfl
  ·rw [List.append_assoc]; rfl
def rowT (c : UInt8) (n p : Nat) : List Tk := (1, str [c, 48], 0, (p : Int)) :: (nmT c 1 (p + 2) (n - 1)).map tokT
def rowTr (c : UInt8) (n p : Nat) : List Tree := .mk 6 (str [c, 48]) 0 (p : Int) [] :: nmTr c 1 (p + 2) (n - 1)
theorem row_p (c : UInt8) (n p : Nat) (R : List Tk) (hR : isH kComma R = false) (f : Nat) (hf : n + 1 ≤ f) : pNames f (rowT c n p ++ R) = some (.ok (rowTr c n p) R) := by
 unfold pNames rowT rowTr
 exact names_p c R hR (n - 1) 1 (p + 2) f [.mk 6 (str [c, 48]) 0 (p : Int) []] (by omega)
theorem nmTr_len (c : UInt8) : ∀ (d i p : Nat), (nmTr c i p d).length = d
 | 0, _, _ => rfl
 | d + 1, i, p => by simp only [nmTr, List.length_cons, nmTr_len c d]
theorem rowTr_len (c : UInt8) (n p : Nat) (hn : 1 ≤ n) : (rowTr c n p).length = n := by
 simp only [rowTr, List.length_cons, nmTr_len]; omega
theorem local_p (c : UInt8) (n p q f : Nat) (hn : 1 ≤ n) (R : List Tk) (hR : isH kComma R = false) (hE : isH kEq R = false) (hf : n + 2 ≤ f) :
  pStat f ((2, str bLocal, 0, (p : Int)) :: (rowT c n q ++ R)) = some (.ok (.mk 21 noB (n : Int) (p : Int) (rowTr c n q)) R) := by
 obtain ⟨f, rfl⟩ : ∃ m, f = m + 1 := ⟨f - 1, by omega⟩
 rw [pStat, if_neg (ne_true_of_eq_false (by kernel_rfl)), if_neg (ne_true_of_eq_false (by kernel_rfl)), if_neg (ne_true_of_eq_false (by kernel_rfl)), if_neg (ne_true_of_eq_false (by kernel_rfl)), if_pos (by kernel_rfl)]
 show PV.bind (pNames f (rowT c n q ++ R)) _ = _
 rw [row_p c n q R hR f (by omega)]
 show PV.bind (if isH kEq R = true then _ else _) _ = _
 rw [if_neg (ne_true_of_eq_false hE)]
 show some (PV.ok (Tree.mk 21 noB ((rowTr c n q).length : Int) (p : Int) (rowTr c n q ++ [])) R) = _
 rw [List.append_nil, rowTr_len c n q hn]
theorem blockL_stat (f : Nat) (c : Bool) (at_ : Int) (acc : List Tree) (ts r : List Tk) (x : Tree) (h1 : isH kSemi ts = false) (h2 : isH kReturn ts = false) (h3 : isH kFunction ts = false) (h4 : endsH ts = false) (hx : pStat f ts = some (.ok x r)) :
  pBlockL (f + 1) c at_ acc ts = pBlockL f c at_ (acc ++ [x]) r := by
 rw [pBlockL, h1, h2, h3, h4, Bool.and_false, hx]
 rfl
theorem blockL_end (f : Nat) (c : Bool) (at_ : Int) (acc : List Tree) (ts : List Tk) (h1 : isH kSemi ts = false) (h2 : isH kReturn ts = false) (h3 : isH kFunction ts = false) (h4 : endsH ts = true) :
  pBlockL (f + 1) c at_ acc ts = some (.ok (.mk 20 noB 0 at_ acc) ts) := by
 rw [pBlockL, h1, h2, h3, h4, Bool.and_false]
 rfl
theorem num_p (f : Nat) (t : ByteArray) (v p : Int) (R : List Tk) (hR : bindsH R = 0) : pExp (f + 3) 0 ((3, t, v, p) :: R) = some (.ok (.mk 4 noB v p []) R) := by
 rw [pExp, pOperand, if_pos (show (hd ((3, t, v, p) :: R)).1 = 3 from rfl)]
 show pLoop (f + 2) 0 (.mk 4 noB v p []) R = _
 rw [pLoop, if_pos (by omega)]
def forT (p : Nat) (R : List Tk) : List Tk := (2, str bFor, 0, (p : Int)) :: (1, str [105], 0, ((p + 4 : Nat) : Int)) :: (5, str [61], 0, ((p + 6 : Nat) : Int)) :: (3, str [49], 1, ((p + 8 : Nat) : Int)) :: (5, str [44], 0, ((p + 9 : Nat) : Int)) :: (3, str [50], 2, ((p + 11 : Nat) : Int)) :: (2, str bDoK, 0, ((p + 13 : Nat) : Int)) :: R
def forTr (p : Nat) (b : Tree) : Tree := .mk 26 noB 0 (p : Int) [.mk 6 (str [105]) 0 ((p + 4 : Nat) : Int) [], .mk 4 noB 1 ((p + 8 : Nat) : Int) [], .mk 4 noB 2 ((p + 11 : Nat) : Int) [], b]
theorem for_gen (f : Nat) (p : Int) (T0 T1 T2 T3 T4 T5 : List Tk) (n a b bd : Tree) (h1 : pName 6 T0 = some (.ok n T1)) (h2 : isH kEq T1 = true) (h3 : pExp f 0 T1.tail = some (.ok a T2)) (h4 : pWant kComma T2 = some (.ok () T3)) (h5 : pExp f 0 T3 = some (.ok b T4)) (h6 : isH kComma T4 = false) (h7 : pBody f T4 = some (.ok bd T5)) :
  pFor (f + 1) p T0 = some (.ok (.mk 26 noB 0 p [n, a, b, bd]) T5) := by
 rw [pFor, h1]
 show (if isH kEq T1 = true then _ else _) = _
 rw [if_pos h2, h3]
 show PV.bind (pWant kComma T2) _ = _
 rw [h4]
 show PV.bind (pExp f 0 T3) _ = _
 rw [h5]
 show PV.bind (if isH kComma T4 = true then _ else _) _ = _
 rw [if_neg (ne_true_of_eq_false h6)]
 show PV.bind (pBody f T4) _ = _
 rw [h7]
 rfl
theorem body_gen (f : Nat) (T0 T1 T2 T3 : List Tk) (b : Tree) (h1 : pWant kDo T0 = some (.ok () T1)) (h2 : pBlock f false T1 = some (.ok b T2)) (h3 : pWant kEnd T2 = some (.ok () T3)) : pBody (f + 1) T0 = some (.ok b T3) := by
 rw [pBody, h1]
 show PV.bind (pBlock f false T1) _ = _
 rw [h2]
 show PV.bind (pWant kEnd T2) _ = _
 rw [h3]
 rfl
theorem for_p (p f : Nat) (R R' : List Tk) (b : Tree) (e : Int) (hb : pBlock (f + 3) false R = some (.ok b ((2, str bEndK, 0, e) :: R'))) :
  pStat (f + 6) (forT p R) = some (.ok (forTr p b) R') := by
 unfold forT forTr
 rw [pStat, if_neg (ne_true_of_eq_false (by kernel_rfl)), if_neg (ne_true_of_eq_false (by kernel_rfl)), if_neg (ne_true_of_eq_false (by kernel_rfl)), if_pos (by kernel_rfl)]
 refine for_gen (f + 4) (p : Int) _ ((5, str [61], 0, ((p + 6 : Nat) : Int)) :: (3, str [49], 1, ((p + 8 : Nat) : Int)) :: (5, str [44], 0, ((p + 9 : Nat) : Int)) :: (3, str [50], 2, ((p + 11 : Nat) : Int)) :: (2, str bDoK, 0, ((p + 13 : Nat) : Int)) :: R) _ ((3, str [50], 2, ((p + 11 : Nat) : Int)) :: (2, str bDoK, 0, ((p + 13 : Nat) : Int)) :: R) _ _ _ _ _ _ rfl (by kernel_rfl) (num_p (f + 1) _ _ _ _ (by kernel_rfl)) ?_ (num_p (f + 1) _ _ _ _ (by kernel_rfl)) (by kernel_rfl) (body_gen (f + 3) _ R _ _ b ?_ hb ?_)
 ·unfold pWant
  rw [if_pos (by kernel_rfl)]
  rfl
 ·unfold pWant
  rw [if_pos (by kernel_rfl)]
  rfl
 ·unfold pWant
  rw [if_pos (by kernel_rfl)]
  rfl
def locT (a b p q e : Nat) : List Tk := (2, str bLocal, 0, ((0 : Nat) : Int)) :: (rowT 97 a 6 ++ forT p ((2, str bLocal, 0, (q : Int)) :: (rowT 98 b (q + 6) ++ [(2, str bEndK, 0, (e : Int)), (6, str [], 0, ((e + 3 : Nat) : Int))])))
def locTr (a b p q : Nat) : Tree := .mk 20 noB 0 0 [.mk 21 noB (a : Int) ((0 : Nat) : Int) (rowTr 97 a 6), forTr p (.mk 20 noB 0 (q : Int) [.mk 21 noB (b : Int) (q : Int) (rowTr 98 b (q + 6))])]
theorem loc_p (a b p q e f : Nat) (ha : 1 ≤ a) (hb : 1 ≤ b) (hf : a + b + 30 ≤ f) : pBlock f true (locT a b p q e) = some (.ok (locTr a b p q) [(6, str [], 0, ((e + 3 : Nat) : Int))]) := by
 obtain ⟨f, rfl⟩ : ∃ m, f = m + 12 := ⟨f - 12, by omega⟩
 have hB : pBlock (f + 6) false ((2, str bLocal, 0, (q : Int)) :: (rowT 98 b (q + 6) ++ [(2, str bEndK, 0, (e : Int)), (6, str [], 0, ((e + 3 : Nat) : Int))])) = some (.ok (.mk 20 noB 0 (q : Int) [.mk 21 noB (b : Int) (q : Int) (rowTr 98 b (q + 6))]) [(2, str bEndK, 0, (e : Int)), (6, str [], 0, ((e + 3 : Nat) : Int))]) := by
  rw [pBlock, blockL_stat (f + 4) false _ [] _ [(2, str bEndK, 0, (e : Int)), (6, str [], 0, ((e + 3 : Nat) : Int))] _ (by kernel_rfl) (by kernel_rfl) (by kernel_rfl) (by kernel_rfl) (local_p 98 b q (q + 6) (f + 4) hb _ (by kernel_rfl) (by kernel_rfl) (by omega))]
  exact blockL_end (f + 3) false _ _ _ (by kernel_rfl) (by kernel_rfl) (by kernel_rfl) (by kernel_rfl)
 have hF := for_p p (f + 3) _ _ _ _ hB
 unfold locT
 rw [pBlock, blockL_stat (f + 10) true _ [] _ (forT p _) _ (by kernel_rfl) (by kernel_rfl) (by kernel_rfl) (by kernel_rfl) (local_p 97 a 0 6 (f + 10) ha _ (by kernel_rfl) (by kernel_rfl) (by omega))]
 rw [blockL_stat (f + 9) true _ _ _ _ _ (by kernel_rfl) (by kernel_rfl) (by kernel_rfl) (by kernel_rfl) hF]
 exact blockL_end (f + 8) true _ _ _ (by kernel_rfl) (by kernel_rfl) (by kernel_rfl) (by kernel_rfl)
theorem closed_no {a : Bs} (h : (45 : UInt8) ∉ a) : Closed' a := fun i hi => by
 exfalso
 refine h (List.mem_of_mem_drop (i := i) ?_)
 cases hd : a.drop i with
 | nil => rw [hd] at hi; cases hi
 | cons x t =>
  rw [hd] at hi
  simp only [List.isPrefixOf, Bool.and_eq_true, beq_iff_eq] at hi
  rw [hi.1]
  exact List.mem_cons_self ..
theorem word_scan (w x : Bs) (at_ : Nat) (acc : List Tok) (k n : Int) (hw : w ≠ []) (hg : Gap x) (hst : stepF w = .tok k w n w.length) (h0 : runL blankR w = 0) : scanL (w ++ x) at_ acc = scanL x (at_ + w.length) (acc ++ [⟨k, w, n, at_⟩]) :=
 scanL_tok w x w at_ acc k n (stepF_append w x hw hg _ _ _ _ hst) (by rw [runL_append blankR _ hg.low w.length w (Nat.le_refl _) (.inl (by rw [h0]; exact List.length_pos_iff.2 hw)), h0])
theorem gap32 (r : Bs) : Gap (32 :: r) := ⟨32, r, rfl, .inl rfl⟩
theorem piece_scan (l r : Bs) (at_ : Nat) (acc X : List Tok) (hc : (45 : UInt8) ∉ l) (hg : Gap r) (h : scanL l at_ acc = .inr (acc ++ X ++ [⟨6, [], 0, at_ + l.length⟩])) : scanL (l ++ r) at_ acc = scanL r (at_ + l.length) (acc ++ X) := by
 obtain ⟨acc', e, h2⟩ := scanL_append r hg l.length l at_ acc _ (Nat.le_refl _) (closed_no hc) h
 rw [h2, (List.append_inj' e rfl).1]
abbrev forB : Bs := [102, 111, 114, 32, 105, 32, 61, 32, 49, 44, 32, 50, 32, 100, 111]
theorem for_scan (r : Bs) (p : Nat) (acc : List Tok) : scanL (forB ++ 32 :: r) p acc = scanL (32 :: r) (p + 15) (acc ++ [⟨2, bFor, 0, p⟩, ⟨1, [105], 0, p + 4⟩, ⟨5, [61], 0, p + 6⟩, ⟨3, [49], 1, p + 8⟩, ⟨5, [44], 0, p + 9⟩, ⟨3, [50], 2, p + 11⟩, ⟨2, bDoK, 0, p + 13⟩]) := by
 refine piece_scan forB (32 :: r) p acc _ (by decide) (gap32 r) ?_
 have : scanL forB p acc = .inr (acc ++ [⟨2, bFor, 0, p⟩] ++ [⟨1, [105], 0, p + 4⟩] ++ [⟨5, [61], 0, p + 6⟩] ++ [⟨3, [49], 1, p + 8⟩] ++ [⟨5, [44], 0, p + 9⟩] ++ [⟨3, [50], 2, p + 11⟩] ++ [⟨2, bDoK, 0, p + 13⟩] ++ [⟨6, [], 0, p + 15⟩]) := by kernel_rfl
 rw [this]
 simp only [List.append_assoc, List.cons_append, List.nil_append]
 rfl
theorem end_scan (p : Nat) (acc : List Tok) : scanL bEndK p acc = .inr (acc ++ [⟨2, bEndK, 0, p⟩] ++ [⟨6, [], 0, p + 3⟩]) := by kernel_rfl
def locS (a b : Nat) : Bs := bLocal ++ 32 :: (nms 97 0 a ++ 32 :: (forB ++ 32 :: (bLocal ++ 32 :: (nms 98 0 b ++ 32 :: bEndK))))
def locP (a : Nat) : Nat := 6 + (nms 97 0 a).length + 1
theorem loc_scan (a b : Nat) (ha : 1 ≤ a) (ha' : a ≤ 50) (hb : 1 ≤ b) (hb' : b ≤ 50) : ∃ t, scanF (locS a b) = .inr t ∧ t.map tokT = locT a b (locP a) (locP a + 16) (locP a + 16 + 6 + (nms 98 0 b).length + 1) := by
 have hla := nms_len 97 a 0
 have hlb := nms_len 98 b 0
 have hwl : ∀ r p acc, scanL (bLocal ++ 32 :: r) p acc = scanL (32 :: r) (p + 5) (acc ++ [⟨2, bLocal, 0, p⟩]) := fun r p acc => word_scan bLocal (32 :: r) p acc 2 0 (by simp) (gap32 r) (by kernel_rfl) (by kernel_rfl)
 rw [scanF_small _ (by simp only [locS, List.length_append, List.length_cons, List.length_nil]; omega)]
 unfold locS
 rw [hwl, skip32, many_scan 97 nm_a _ a _ _ ha ha', skip32, for_scan, skip32, hwl, skip32, many_scan 98 nm_b _ b _ _ hb hb', skip32, end_scan]
 refine ⟨_, rfl, ?_⟩
 simp only [List.map_append, List.map_cons, List.map_nil, List.nil_append, List.append_assoc, List.cons_append, locT, rowT, forT, locP, tokT, Nat.zero_add]
theorem rowT_len (c : UInt8) (n p : Nat) (hn : 1 ≤ n) : n ≤ (rowT c n p).length := by
 have : ∀ d i q, (nmT c i q d).length = 2 * d := by
  intro d
  induction d with
  | zero => intro i q; rfl
  | succ d ih => intro i q; simp only [nmT, List.length_append, ih, List.length_cons, List.length_nil]; omega
 simp only [rowT, List.length_cons, List.length_map, this]
 omega
theorem loc_parse (a b : Nat) (ha : 1 ≤ a) (ha' : a ≤ 50) (hb : 1 ≤ b) (hb' : b ≤ 50) : parseV (str (locS a b)) = treeV (locTr a b (locP a) (locP a + 16)) := by
 obtain ⟨t, h1, h2⟩ := loc_scan a b ha ha' hb hb'
 refine parseV_ok (r := [(6, str [], 0, ((locP a + 16 + 6 + (nms 98 0 b).length + 1 + 3 : Nat) : Int))]) (by rw [bs_str]; exact h1) ?_
 rw [h2]
 unfold vAll vBlock
 have hl := rowT_len 97 a 6 ha
 have hl' := rowT_len 98 b (locP a + 16 + 6) hb
 rw [loc_p a b _ _ _ _ ha hb (by unfold fu locT forT; simp only [List.length_cons, List.length_append, List.length_nil]; omega)]
 rfl
theorem namesC_ok : ∀ {l : List Tree} {lo : List ByteArray}, (∀ x ∈ l, keptB x.text = false) → namesC lo l = .ok (lo ++ l.map Tree.text)
 | [], lo, _ => by simp [namesC]
 | x :: l, lo, h => by
  unfold namesC
  rw [h x (List.mem_cons_self ..)]
  simp only [Bool.false_eq_true, if_false]
  rw [namesC_ok fun y hy => h y (List.mem_cons_of_mem _ hy)]
  simp
theorem nmTr_free (c : UInt8) (hc : ∀ i ∈ List.range 50, nmOK (c :: dg i) = true) : ∀ (d i p : Nat), i + d ≤ 50 → ∀ x ∈ nmTr c i p d, keptB x.text = false
 | 0, _, _, _ => fun x hx => absurd hx List.not_mem_nil
 | d + 1, i, p, hd => fun x hx => by
  rcases List.mem_cons.1 hx with rfl | hx
  ·have := hc i (List.mem_range.2 (by omega))
   simp only [nmOK, Bool.and_eq_true, Bool.not_eq_true'] at this
   exact this.2
  ·exact nmTr_free c hc d (i + 1) _ (by omega) x hx
theorem rowTr_free (c : UInt8) (hc : ∀ i ∈ List.range 50, nmOK (c :: dg i) = true) (n p : Nat) (h1 : 1 ≤ n) (h2 : n ≤ 50) : ∀ x ∈ rowTr c n p, keptB x.text = false := fun x hx => by
 rcases List.mem_cons.1 hx with rfl | hx
 ·have := hc 0 (List.mem_range.2 (by omega))
  simp only [nmOK, Bool.and_eq_true, Bool.not_eq_true'] at this
  exact this.2
 ·exact nmTr_free c hc _ 1 _ (by omega) x hx
theorem few_ok {a c m : Int} (h : c ≤ m) : fewC a c m = .ok () := by unfold fewC; rw [if_neg (by omega)]
theorem few_no {a c m : Int} (h : c > m) : fewC a c m = .bad (6, a) := by unfold fewC; rw [if_pos h]
theorem local_c (d : Nat) (ab : List ByteArray) (s : CSt) (p : Int) (l : List Tree) (hl : l.length ≤ 50) (hk : ∀ x ∈ l, keptB x.text = false) (hs : s.sl ≤ s.lo.length) :
  nodeC (d + 1) ab s (.mk 21 noB (l.length : Int) p l) false = if s.lo.length + l.length > 60 then .bad (6, p) else .ok { s with sl := ((s.lo.length + l.length : Nat) : Int), lo := s.lo ++ l.map Tree.text } := by
 unfold nodeC
 rw [if_neg (by decide), if_neg (by decide), if_pos rfl, few_ok (by omega)]
 simp only [PR.th]
 rw [few_ok (by omega)]
 simp only [Int.toNat_natCast, List.drop_length, nodesC, List.take_length]
 unfold bringC
 rw [namesC_ok hk]
 simp only [PR.th, List.length_append, List.length_map]
 by_cases h : s.lo.length + l.length > 60
 ·rw [few_no (by omega), if_pos h]
 ·rw [few_ok (by omega), if_neg h]
  simp only [PR.ok.injEq, CSt.mk.injEq, true_and]
  refine ⟨?_, trivial⟩
  split <;> omega
theorem thOk {α β ε : Type} (a : α) (f : α → PR β ε) : (PR.ok a : PR α ε).th f = f a := rfl
theorem int_c (d : Nat) (ab : List ByteArray) (s : CSt) (t : ByteArray) (n p : Int) (tg : Bool) : nodeC (d + 1) ab s (.mk 4 t n p []) tg = (constC p s.cs (2, n, ⟨#[]⟩)).th fun cs => .ok { s with cs := cs } := by
 unfold nodeC
 rw [if_neg (by decide), if_neg (by decide), if_neg (by decide), if_neg (by decide), if_neg (by decide), if_neg (by decide), if_neg (by decide), if_neg (by decide)]
 unfold expC
 rw [if_neg (by decide), if_neg (by decide), if_neg (by decide), if_pos rfl]
 rfl
theorem one_c (d : Nat) (ab : List ByteArray) (s : CSt) (p : Int) (x : Tree) (r : PC CSt) (h : nodeC d ab s x false = r) : nodeC (d + 1) ab s (.mk 20 noB 0 p [x]) false = r.th fun s' => .ok { s' with lo := s'.lo.take s.lo.length } := by
 unfold nodeC
 rw [if_pos rfl]
 unfold nodesC
 rw [h]
 cases r <;> rfl
theorem loop3_ok {f : CSt → Tree → PC CSt} {a : Int} {s : CSt} {names : List Tree} {b : Tree} {r : Int × List ByteArray} {x : PC CSt} (h1 : bringC a s.sl (s.lo ++ List.replicate 3 ⟨#[]⟩) names = .ok r) (h2 : f { s with sl := r.1, lo := r.2, lp := s.lp + 1 } b = x) :
  loopC f a s names b 3 = x.th fun s' => .ok { s' with lo := s'.lo.take s.lo.length, lp := s'.lp - 1 } := by
 unfold loopC
 rw [if_pos (by decide), h1, thOk, h2]
theorem loop3_bad {f : CSt → Tree → PC CSt} {a : Int} {s : CSt} {names : List Tree} {b : Tree} {e : Int × Int} (h1 : bringC a s.sl (s.lo ++ List.replicate 3 ⟨#[]⟩) names = .bad e) : loopC f a s names b 3 = .bad e := by
 unfold loopC
 rw [if_pos (by decide), h1]
 rfl
theorem bring1 (p : Int) (sl : Int) (lo : List ByteArray) (x : Tree) (hx : keptB x.text = false) (hs : sl ≤ lo.length) : bringC p sl lo [x] = if lo.length + 1 > 60 then .bad (6, p) else .ok (((lo.length + 1 : Nat) : Int), lo ++ [x.text]) := by
 unfold bringC
 rw [namesC_ok (fun y hy => by obtain rfl := List.mem_singleton.1 hy; exact hx), thOk]
 simp only [List.map_cons, List.map_nil, List.length_append, List.length_cons, List.length_nil]
 by_cases h : lo.length + 1 > 60
 ·rw [few_no (by omega), if_pos h]; rfl
 ·rw [few_ok (by omega), if_neg h, thOk]
  simp only [PR.ok.injEq, Prod.mk.injEq, and_true]
  split <;> omega
theorem for_k (d : Nat) (s s1 : CSt) (p : Int) (n x y b : Tree) (h : nodesC (fun s x => nodeC d [] s x false) s [x, y] = .ok s1) : nodeC (d + 1) [] s (.mk 26 noB 0 p [n, x, y, b]) false = loopC (fun s x => nodeC d [] s x false) p s1 [n] b 3 := by
 rw [nodeC, if_neg (by decide), if_neg (by decide), if_neg (by decide), if_neg (by decide), if_neg (by decide), if_pos rfl]
 show PR.th (nodesC (fun s x => nodeC d [] s x false) s [x, y]) (fun s => loopC (fun s x => nodeC d [] s x false) p s [n] b 3) = _
 rw [h, thOk]
theorem two_c (d : Nat) (s : CSt) (t u : ByteArray) (p q : Int) (hcs : s.cs = []) : nodesC (fun s x => nodeC (d + 1) [] s x false) s [.mk 4 t 1 p [], .mk 4 u 2 q []] = .ok { s with cs := [(2, 1, ⟨#[]⟩), (2, 2, ⟨#[]⟩)] } := by
 have h1 : constC p s.cs (2, 1, ⟨#[]⟩) = .ok [(2, 1, ⟨#[]⟩)] := by rw [hcs]; rfl
 have h2 : constC q [(2, 1, ⟨#[]⟩)] (2, 2, ⟨#[]⟩) = .ok [(2, 1, ⟨#[]⟩), (2, 2, ⟨#[]⟩)] := by kernel_rfl
 simp only [nodesC]
 rw [int_c, h1, thOk, thOk, int_c]
 simp only [h2, thOk]
theorem for_c (d a b p q : Nat) (s : CSt) (L B : List Tree) (n x y : Tree) (t u : ByteArray) (p1 p2 : Int) (hx : x = .mk 4 t 1 p1 []) (hy : y = .mk 4 u 2 p2 []) (hn : keptB n.text = false) (hlo : s.lo.length = a) (hsl : s.sl = a) (hcs : s.cs = []) (hBl : B.length = b) (hb' : b ≤ 50) (hB : ∀ x ∈ B, keptB x.text = false) :
  nodeC (d + 4) [] s (.mk 26 noB 0 (p : Int) [n, x, y, .mk 20 noB 0 (q : Int) [.mk 21 noB (b : Int) (q : Int) B]]) false =
   if a + 4 > 60 then .bad (6, (p : Int)) else if a + 4 + b > 60 then .bad (6, (q : Int)) else .ok { s with sl := ((a + 4 + b : Nat) : Int), cs := [(2, 1, ⟨#[]⟩), (2, 2, ⟨#[]⟩)], lp := s.lp + 1 - 1 } := by
 subst hx hy
 rw [for_k (d + 3) s _ _ _ _ _ _ (two_c (d + 2) s t u p1 p2 hcs)]
 have hb := bring1 (p : Int) s.sl (s.lo ++ List.replicate 3 ⟨#[]⟩) n hn (by rw [hsl, List.length_append, List.length_replicate, hlo]; omega)
 rw [List.length_append, List.length_replicate, hlo] at hb
 by_cases h : a + 4 > 60
 ·rw [if_pos h]
  rw [if_pos (by omega)] at hb
  exact loop3_bad hb
 rw [if_neg h]
 rw [if_neg (by omega)] at hb
 have hL := local_c (d + 1) [] ⟨s.fs, s.gl, ((a + 3 + 1 : Nat) : Int), [(2, 1, ⟨#[]⟩), (2, 2, ⟨#[]⟩)], s.lo ++ List.replicate 3 ⟨#[]⟩ ++ [n.text], s.lp + 1⟩ (q : Int) B (by omega) hB (by simp only [List.length_append, List.length_replicate, List.length_cons, List.length_nil, hlo]; omega)
 rw [hBl] at hL
 rw [loop3_ok (f := fun s x => nodeC (d + 3) [] s x false) (s := { s with cs := [(2, 1, ⟨#[]⟩), (2, 2, ⟨#[]⟩)] }) hb (one_c (d + 2) [] _ _ _ _ hL)]
 simp only [List.length_append, List.length_replicate, List.length_cons, List.length_nil, hlo]
 by_cases h2 : a + 4 + b > 60
 ·rw [if_pos (by omega), if_pos h2]; rfl
 ·rw [if_neg (by omega), if_neg h2, thOk, thOk]
  simp only [PR.ok.injEq, CSt.mk.injEq, true_and]
  refine ⟨?_, trivial⟩
  rw [List.take_take, List.append_assoc, List.append_assoc, List.take_append_of_le_length (by omega), List.take_of_length_le (by omega)]
theorem hts_leaf : ∀ {l : List Tree}, (∀ x ∈ l, x.kids = []) → htTs l ≤ 1
 | [], _ => by simp [htTs]
 | x :: l, h => by
  have := hts_leaf fun y hy => h y (List.mem_cons_of_mem _ hy)
  have hx := h x (List.mem_cons_self ..)
  cases x with
  | mk k t n a m =>
   simp only [Tree.kids] at hx
   subst hx
   simp only [htTs, htT]
   omega
theorem nmTr_leaf (c : UInt8) : ∀ (d i p : Nat), ∀ x ∈ nmTr c i p d, x.kids = []
 | 0, _, _ => fun x hx => absurd hx List.not_mem_nil
 | d + 1, i, p => fun x hx => by
  rcases List.mem_cons.1 hx with rfl | hx
  ·rfl
  ·exact nmTr_leaf c d _ _ x hx
theorem rowTr_leaf (c : UInt8) (n p : Nat) : ∀ x ∈ rowTr c n p, x.kids = [] := fun x hx => by
 rcases List.mem_cons.1 hx with rfl | hx
 ·rfl
 ·exact nmTr_leaf c _ _ _ x hx
theorem loc_check (a b p q : Nat) (ha : 1 ≤ a) (ha' : a ≤ 50) (hb : 1 ≤ b) (hb' : b ≤ 50) : ∃ s, treeC 100000 (locTr a b p q) = (if a + 4 > 60 then .bad (6, (p : Int)) else if a + 4 + b > 60 then .bad (6, (q : Int)) else .ok s) ∧ s.fs.tail = [] ∧ s.sl = ((a + 4 + b : Nat) : Int) ∧ s.cs = [(2, 1, ⟨#[]⟩), (2, 2, ⟨#[]⟩)] := by
 have hh : htT (locTr a b p q) ≤ 100 := by
  have h1 := hts_leaf (rowTr_leaf 97 a 6)
  have h2 := hts_leaf (rowTr_leaf 98 b (q + 6))
  simp only [locTr, forTr, htT, htTs]
  omega
 unfold treeC
 rw [if_neg (by omega)]
 show ∃ s, nodeC (99995 + 5) [] st0 (locTr a b p q) false = _ ∧ _
 unfold locTr
 rw [nodeC, if_pos rfl]
 have hL := local_c 99998 [] st0 ((0 : Nat) : Int) (rowTr 97 a 6) (by rw [rowTr_len 97 a _ ha]; exact ha') (rowTr_free 97 nm_a a _ ha ha') (Int.le_refl _)
 rw [rowTr_len 97 a _ ha] at hL
 simp only [nodesC]
 rw [show nodeC (99995 + 4) [] st0 (.mk 21 noB (a : Int) ((0 : Nat) : Int) (rowTr 97 a 6)) false = _ from hL]
 have e0 : st0.lo = [] := rfl
 simp only [e0, List.length_nil, Nat.zero_add, List.nil_append, if_neg (by omega : ¬ a > 60), PR.th]
 unfold forTr
 rw [for_c 99995 a b p q _ [] (rowTr 98 b (q + 6)) _ _ _ _ _ _ _ rfl rfl (by kernel_rfl) (by show ((rowTr 97 a 6).map Tree.text).length = a; rw [List.length_map, rowTr_len 97 a _ ha]) rfl rfl (rowTr_len 98 b _ hb) hb' (rowTr_free 98 nm_b b _ hb hb')]
 by_cases h : a + 4 > 60
 ·exact ⟨⟨[], [], ((a + 4 + b : Nat) : Int), [(2, 1, ⟨#[]⟩), (2, 2, ⟨#[]⟩)], [], 0⟩, by simp only [if_pos h], rfl, rfl, rfl⟩
 ·simp only [if_neg h]
  by_cases h2 : a + 4 + b > 60
  ·exact ⟨⟨[], [], ((a + 4 + b : Nat) : Int), [(2, 1, ⟨#[]⟩), (2, 2, ⟨#[]⟩)], [], 0⟩, by simp only [if_pos h2], rfl, rfl, rfl⟩
  ·simp only [if_neg h2]
   exact ⟨_, rfl, rfl, rfl, rfl⟩
theorem fixedL : law13_fixed.f 1000000 = some true := by kernel_rfl
theorem mod_nat (x : Int) (m : Nat) (hm : 0 < m) (hm' : m ≤ 1000000) : ∃ n : Nat, IntKind.i64.wrap (Int.tmod (IntKind.u64.wrap x) (m : Int)) = n ∧ n < m := by
 have h0 : 0 ≤ IntKind.u64.wrap x := by unfold IntKind.wrap; simp [IntKind.bits, IntKind.signed]; omega
 have h1 : Int.tmod (IntKind.u64.wrap x) (m : Int) = (IntKind.u64.wrap x) % (m : Int) := Int.tmod_eq_emod_of_nonneg h0
 have h2 := Int.emod_nonneg (IntKind.u64.wrap x) (b := (m : Int)) (by omega)
 have h3 := Int.emod_lt_of_pos (IntKind.u64.wrap x) (b := (m : Int)) (by omega)
 rw [h1, wiC _ (by omega) (by omega)]
 exact ⟨((IntKind.u64.wrap x) % (m : Int)).toNat, by omega, by omega⟩
theorem checkLocals_true (x y : Int) : law13_CheckLocals.f 1000000 x y = some true := by
 obtain ⟨a, ea, ha⟩ := mod_nat x 50 (by omega) (by omega)
 obtain ⟨b, eb, hb⟩ := mod_nat y 50 (by omega) (by omega)
 have ea : IntKind.i64.wrap (Int.tmod (IntKind.u64.wrap x) (50 : Int)) = a := ea
 have eb : IntKind.i64.wrap (Int.tmod (IntKind.u64.wrap y) (50 : Int)) = b := eb
 unfold law13_CheckLocals.f
 rw [fixedL, ea, eb, wiC (1 + (a : Int)) (by omega) (by omega), wiC (1 + (b : Int)) (by omega) (by omega), wiC (1 + (a : Int) + 4) (by omega) (by omega), wiC (1 + (a : Int) + 4 + (1 + (b : Int))) (by omega) (by omega)]
 rw [show (1 : Int) + (a : Int) = ((a + 1 : Nat) : Int) by omega, show (1 : Int) + (b : Int) = ((b + 1 : Nat) : Int) by omega]
 have hla := nms_len 97 (a + 1) 0
 have hlb := nms_len 98 (b + 1) 0
 have ma := many_eq 97 (a + 1) 1000000 (by omega) (by omega)
 have mb := many_eq 98 (b + 1) 1000000 (by omega) (by omega)
 have ma : law13_many.f 1000000 ((a + 1 : Nat) : Int) ⟨#[97]⟩ = some (str (nms 97 0 (a + 1))) := ma
 have mb : law13_many.f 1000000 ((b + 1 : Nat) : Int) ⟨#[98]⟩ = some (str (nms 98 0 (b + 1))) := mb
 have z6 : ByteArray.size ⟨#[108, 111, 99, 97, 108, 32]⟩ = 6 := rfl
 have z1 : ByteArray.size ⟨#[32]⟩ = 1 := rfl
 have z16 : ByteArray.size ⟨#[102, 111, 114, 32, 105, 32, 61, 32, 49, 44, 32, 50, 32, 100, 111, 32]⟩ = 16 := rfl
 have z4 : ByteArray.size ⟨#[32, 101, 110, 100]⟩ = 4 := rfl
 have l6 : (bs ⟨#[108, 111, 99, 97, 108, 32]⟩).length = 6 := rfl
 have l1 : (bs ⟨#[32]⟩).length = 1 := rfl
 have l16 : (bs ⟨#[102, 111, 114, 32, 105, 32, 61, 32, 49, 44, 32, 50, 32, 100, 111, 32]⟩).length = 16 := rfl
 simp only [Option.bind_some, Bool.not_true, cond_false, ma, mb]
 rw [catE (by rw [str_size]; omega), Option.bind_some, catE (by rw [str_size]; simp only [List.length_append, bs_str]; omega), Option.bind_some, catE (by rw [str_size]; simp only [List.length_append, bs_str]; omega), Option.bind_some, catE (by rw [str_size]; simp only [List.length_append, bs_str]; omega), Option.bind_some,
  catE (by rw [str_size, str_size]; simp only [List.length_append, bs_str]; omega), Option.bind_some, catE (by rw [str_size]; simp only [List.length_append, bs_str]; omega), Option.bind_some]
 simp only [bs_str, str_size, List.length_append]
 have eS : bs ⟨#[108, 111, 99, 97, 108, 32]⟩ ++ nms 97 0 (a + 1) ++ bs ⟨#[32]⟩ ++ bs ⟨#[102, 111, 114, 32, 105, 32, 61, 32, 49, 44, 32, 50, 32, 100, 111, 32]⟩ ++ bs ⟨#[108, 111, 99, 97, 108, 32]⟩ ++ nms 98 0 (b + 1) ++ bs ⟨#[32, 101, 110, 100]⟩ = locS (a + 1) (b + 1) := by
  simp only [List.append_assoc]
  rfl
 rw [eS, check_eq 1000000 (by omega), loc_parse (a + 1) (b + 1) (by omega) (by omega) (by omega) (by omega)]
 obtain ⟨s', h1, h2, h3, h4⟩ := loc_check (a + 1) (b + 1) (locP (a + 1)) (locP (a + 1) + 16) (by omega) (by omega) (by omega) (by omega)
 have eT : ∀ (n : Tree), Tree.mk n.kind n.text n.n n.at_ n.kids = n := fun n => by cases n; rfl
 unfold treeV
 simp only [ne_eq, not_true_eq_false, if_false, eT, Option.bind_some, h1]
 by_cases hA : a + 1 + 4 > 60
 ·rw [if_pos hA, decide_eq_true (by omega)]
  rfl
 rw [if_neg hA, decide_eq_false (by omega), cond_false]
 by_cases hB : a + 1 + 4 + (b + 1) > 60
 ·rw [if_pos hB, decide_eq_true (by omega), cond_true, wiC _ (by omega) (by rw [z16, l6, l1]; omega)]
  simp only [repC, beq_self_eq_true, Bool.true_and, Bool.and_true]
  rw [eqC (by rw [z16, l6, l1]; unfold locP; omega)]
 ·rw [if_neg hB, decide_eq_false (by omega), cond_false]
  simp only [repC, h2, h3, h4, List.length_cons, List.length_nil, beq_self_eq_true, cond_true]
  rw [eqC (by omega), cond_true]
  rw [show ∀ (x : FRow) (l : List FRow), lIdx (x :: l) (0 : Int) = some x from fun _ _ => rfl]
  simp only [Option.bind_some]
  rw [eqC (by omega), cond_true]
  have e2 : law13_t2.f 1000000 [(2, 1, ⟨#[]⟩), (2, 2, ⟨#[]⟩)] = some true := by kernel_rfl
  rw [e2]
  rfl
end Go.Proofs.YtdkgnlaneccioaaGreatDoor
