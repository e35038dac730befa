/- Texts of mine for parseMemory_card, part 7. -/
import Derived.Test.YtidiahkobapnjaaGreatDoorMeF
set_option linter.unusedSimpArgs false
set_option linter.unusedVariables false
set_option linter.unusedSectionVars false
namespace Go.Proofs.YtidiahkobapnjaaGreatDoor
open Go Go.RowKit
theorem sufL_at : ∀ (n : Nat) (at_ : Int) (x y : Tree) (ts r : List Tk), ts.length ≤ n → Good ts → x.at_ = at_ → vSufL at_ x ts = .ok y r → y.at_ = at_
 | 0, _, _, _, [], _, _, hg, _, _ => hg.elim
 | n + 1, at_, x, y, ts, r, hn, hg, hx, h => by
  rw [vSufL_eq at_ x hg] at h
  have more : ∀ (z : Tree) (s : List Tk), Good s → s.length + 1 ≤ ts.length → z.at_ = at_ → vSufL at_ z s = .ok y r → y.at_ = at_ := fun z s hs hl hz h => sufL_at n at_ z y s r (by omega) hs hz h
  split at h
  ·rename_i hc
   obtain ⟨g1, g2, _⟩ := hg.tail (isH_ne hc)
   obtain ⟨e, s, h1, h⟩ := then_ok h
   have f1 := fExp (least := 0) (by omega) g1
   rw [h1] at f1
   obtain ⟨_, s2, h2, h⟩ := then_ok h
   have f2 := fWant kRb f1.1
   rw [h2] at f2
   exact more _ s2 f2.1 (by have := f1.2.1; have := f2.2.1; omega) rfl h
  ·split at h
   ·rename_i hc
    obtain ⟨g1, g2, _⟩ := hg.tail (isH_ne hc)
    obtain ⟨e, s, h1, h⟩ := then_ok h
    have f1 := fName 5 g1
    rw [h1] at f1
    exact more _ s f1.1 (by have := f1.2.1; omega) rfl h
   ·split at h
    ·rename_i hc
     obtain ⟨g1, g2, _⟩ := hg.tail (isH_ne hc)
     obtain ⟨e, s, h1, h⟩ := then_ok h
     have f1 := fArgs g1
     rw [h1] at f1
     obtain ⟨_, s2, h2, h⟩ := then_ok h
     have f2 := fWant kRp f1.1
     rw [h2] at f2
     exact more _ s2 f2.1 (by have := f1.2.1; have := f2.2.1; omega) rfl h
    ·cases h; exact hx
theorem suf_at {ts r : List Tk} {e : Tree} (hg : Good ts) (h : vSuffixed ts = .ok e r) : e.at_ = (hd ts).2.2.2 := by
 rw [vSuffixed_eq hg] at h
 split at h
 ·rename_i hc
  obtain ⟨g1, g2, _⟩ := hg.tail (isH_ne hc)
  obtain ⟨x, s, h1, h⟩ := then_ok h
  have f1 := fExp (least := 0) (by omega) g1
  rw [h1] at f1
  obtain ⟨_, s2, h2, h⟩ := then_ok h
  have f2 := fWant kRp f1.1
  rw [h2] at f2
  exact sufL_at _ _ _ _ s2 r (Nat.le_refl _) f2.1 rfl h
 ·obtain ⟨x, s, h1, h⟩ := then_ok h
  have f1 := fName 6 hg
  rw [h1] at f1
  refine sufL_at _ _ _ _ s r (Nat.le_refl _) f1.1 ?_ h
  unfold vName at h1
  split at h1
  ·cases h1; rfl
  ·cases h1
theorem ends_excl {ts : List Tk} (h : endsH ts = true) : isH kSemi ts = false ∧ isH kReturn ts = false ∧ isH kFunction ts = false := by
 unfold endsH at h
 simp only [Bool.or_eq_true] at h
 have lit : ∀ {w : ByteArray}, isH w ts = true → ∀ w', (w.data.toList == w'.data.toList) = false → isH w' ts = false := fun h w' e => by
  rw [isH_lit h, Lib.toList_data, Lib.toList_data]; exact e
 rcases h with ((h | h) | h) | h
 ·have h6 : (hd ts).1 = 6 := by simpa using h
  have hf : ∀ w, isH w ts = false := fun w => by
   cases hw : isH w ts with
   | false => rfl
   | true => exact absurd h6 (isH_ne hw)
  exact ⟨hf _, hf _, hf _⟩
 ·exact ⟨lit h _ rfl, lit h _ rfl, lit h _ rfl⟩
 ·exact ⟨lit h _ rfl, lit h _ rfl, lit h _ rfl⟩
 ·exact ⟨lit h _ rfl, lit h _ rfl, lit h _ rfl⟩
theorem good_pos {ts : List Tk} (hg : Good ts) : 1 ≤ ts.length := by cases ts with | nil => exact hg.elim | cons => simp
structure BS (l : List Tk) (k : Nat) : Prop where
 block : ∀ c ts, Good ts → ts <:+ l → 64 * ts.length + 50 ≤ k → Rel l GT eT3 ((RS.at k).r12_reader_block l (ix l ts) (-1) c) (vBlock c ts)
 blockF : ∀ c b, 0 ≤ b → 2 ≤ k → ∃ n, (RS.at k).r12_reader_block l (EE l) b c = some (eT3 n (EE l) b)
 stat : ∀ ts, Good ts → ts <:+ l → 64 * ts.length + 47 ≤ k → Rel l GT eT3 ((RS.at k).r12_reader_stat l (ix l ts) (-1) (hd ts).2.2.2) (vStat ts)
 loop : ∀ at_ ts, Good ts → ts <:+ l → 64 * ts.length + 48 ≤ k → Rel l GT eT3 ((RS.at k).r12_reader_loop l (ix l ts) (-1) at_) (vFor at_ ts)
 plain : ∀ ts, Good ts → ts <:+ l → 64 * ts.length + 46 ≤ k → Rel l GT eT3 ((RS.at k).r12_reader_plain l (ix l ts) (-1) (hd ts).2.2.2) (vPlain ts)
 body : ∀ ts, Good ts → ts <:+ l → 64 * ts.length + 46 ≤ k → Rel l GT eT3 ((RS.at k).r12_reader_body l (ix l ts) (-1)) (vBody ts)
 bodyF : ∀ b, 0 ≤ b → 3 ≤ k → ∃ n, (RS.at k).r12_reader_body l (EE l) b = some (eT3 n (EE l) b)
section
variable {l : List Tk} (hl : l.length ≤ 1000000) (ha : AtOk l) (h0 : l ≠ [])
include hl h0
theorem fexpR_F (k : Nat) (lev b : Int) (hb : 0 ≤ b) : r12_reader_exp.f k l (EE l) b lev = some (0, ⟨#[]⟩, 0, 0, [], EE l, b) := exp_F hl h0 _ lev b hb
theorem blockL_F (m : Nat) (Rc : RS) (c : Bool) (r2 : Int) (J : List Tree → Int → Int → Option (Int × ByteArray × Int × Int × List Tree × Int × Int)) (acc : List Tree) (b : Int) (hb : 0 ≤ b) : r12_reader_block.l0 (m + 1) Rc l c r2 J acc (EE l) b = J acc (EE l) b := by
 rw [r12_reader_block.l0, end_F hl h0 m hb]
 rfl
theorem blockR_F (k : Nat) (hk : 1 ≤ k) (Rc : RS) (c : Bool) (b : Int) (hb : 0 ≤ b) : ∃ n, r12_reader_block.g Rc k l (EE l) b c = some (eT3 n (EE l) b) := by
 unfold r12_reader_block.g
 obtain ⟨t, ht⟩ := at_F hl h0 k hb
 obtain ⟨k, rfl⟩ : ∃ q, k = q + 1 := ⟨k - 1, by omega⟩
 simp only [ht, Option.bind_some, joinF, blockL_F hl h0 k Rc c t _ [] b hb]
 exact ⟨.mk _ _ _ _ _, rfl⟩
include ha
theorem fexpR_ok (k : Nat) {ts : List Tk} (hg : Good ts) (hs : ts <:+ l) (hk : 32 * ts.length + 30 ≤ k) : Rel l GT eT3 (r12_reader_exp.f k l (ix l ts) (-1) 1) (vExp 0 ts) := expR_ok hl h0 (bE hl ha h0 k) 1 (by omega) (by omega) hg hs (by omega)
theorem flistR_ok (k : Nat) {ts : List Tk} (hg : Good ts) (hs : ts <:+ l) (hk : 32 * ts.length + 31 ≤ k) : Rel l GL eL3 (r12_reader_list.f k l (ix l ts) (-1)) (vExps ts) := listR_ok hl ha h0 (bE hl ha h0 k) hg hs hk
theorem flistR_F (k : Nat) (b : Int) (hb : 0 ≤ b) (hk : 1 ≤ k) : r12_reader_list.f k l (EE l) b = some ([nilT], EE l, b) := list_F hl h0 (bE hl ha h0 k) b hb hk
theorem fsufR_ok (k : Nat) {ts : List Tk} (hg : Good ts) (hs : ts <:+ l) (hk : 32 * ts.length + 22 ≤ k) : Rel l GT eT3 (r12_reader_suffixed.f k l (ix l ts) (-1)) (vSuffixed ts) := suffixedR_ok hl ha h0 (bE hl ha h0 k) hg hs hk
theorem namesLR_ok : ∀ (m : Nat) (acc : List Tree) (ts : List Tk), Good ts → ts <:+ l → ts.length + 1 < m → acc.length + ts.length ≤ 1000000 →
  Rel l GL eL3 (r12_reader_names.l0 m l (fun l7 x12 x13 => some (l7, x12, x13)) acc (ix l ts) (-1)) (vNamesL acc ts)
 | 0, _, _, _, _, h, _ => by omega
 | m + 1, acc, ts, hg, hs, hm, hc => by
  rw [r12_reader_names.l0, take_ok hl m hg hs, vNamesL_eq acc hg]
  simp only [Option.bind_some]
  refine rel_if (bool_dec _) (fun hc' => ?_) fun hc' => ?_
  ·simp only [hc', if_true]
   obtain ⟨g1, g2, g3⟩ := hg.tail (isH_ne hc')
   have gs := g3.trans hs
   refine rel_bind (nameR_ok hl ha _ g1 gs 6) (fName 6 g1) (fun x r hv hr hrs hrn => ?_) fun a b hb0 _ => ?_
   ·simp only [eT3, tree_eta]
    rw [apd_ok' (by simp only [List.length_cons, List.length_nil]; omega)]
    simp only [Option.bind_some]
    exact namesLR_ok m _ r hr (hrs.trans gs) (by omega) (by simp only [List.length_append, List.length_cons, List.length_nil]; omega)
   ·simp only [eT3, tree_eta]
    rw [apd_ok' (by simp only [List.length_cons, List.length_nil]; omega)]
    simp only [Option.bind_some]
    rw [namesL_F hl h0 hb0 _ _ m (by omega)]
    exact ⟨acc ++ [a], by unfold GL; simp only [List.length_append, List.length_cons, List.length_nil]; omega, rfl⟩
  ·simp only [if_neg hc']
   rfl
theorem namesR_ok (k : Nat) {ts : List Tk} (hg : Good ts) (hs : ts <:+ l) (hk : ts.length + 1 < k) : Rel l GL eL3 (r12_reader_names.f k l (ix l ts) (-1)) (vNames ts) := by
 unfold r12_reader_names.f vNames
 have hle := hs.length_le
 refine rel_bind (nameR_ok hl ha _ hg hs 6) (fName 6 hg) (fun x r hv hr hrs hrn => ?_) fun a b hb0 _ => ?_
 ·simp only [eT3, tree_eta, joinF]
  exact namesLR_ok hl ha h0 k _ r hr (hrs.trans hs) (by omega) (by simp only [List.length_cons, List.length_nil]; omega)
 ·simp only [eT3, tree_eta, joinF]
  rw [namesL_F hl h0 hb0 _ _ k (by omega)]
  exact ⟨[a], by unfold GL; simp, rfl⟩
variable {k : Nat} (ih : BS l k)
include ih
theorem bodyR_F (b : Int) (hb : 0 ≤ b) (hk : 2 ≤ k) : ∃ n, r12_reader_body.g (RS.at k) k l (EE l) b = some (eT3 n (EE l) b) := by
 unfold r12_reader_body.g
 obtain ⟨n, hn⟩ := ih.blockF false b hb hk
 simp only [need_F hl h0 _ hb, Option.bind_some, hn, eT3]
 exact ⟨n, rfl⟩
theorem bodyR_ok {ts : List Tk} (hg : Good ts) (hs : ts <:+ l) (hk : 64 * ts.length + 45 ≤ k) : Rel l GT eT3 (r12_reader_body.g (RS.at k) k l (ix l ts) (-1)) (vBody ts) := by
 unfold r12_reader_body.g
 rw [vBody_eq hg]
 have hp := good_pos hg
 refine rel_bind (need_ok hl ha _ hg hs _) (fWant _ hg) (fun _ r _ hr hrs hn => ?_) fun _ b hb0 _ => ?_
 ·simp only [eU3]
  have h1 := hrs.trans hs
  refine rel_bind (ih.block false r hr h1 (by omega)) (fBlock false hr) (fun x r2 _ hr2 hrs2 hn2 => ?_) fun a b hb0 _ => ?_
  ·simp only [eT3]
   exact rel_bind (need_ok hl ha _ hr2 (hrs2.trans h1) _) (fWant _ hr2) (fun _ r3 _ _ _ _ => rfl) fun _ b hb0 _ => ⟨x, trivial, rfl⟩
  ·simp only [eT3, need_F hl h0 _ hb0, Option.bind_some]
   exact ⟨a, trivial, rfl⟩
 ·obtain ⟨n, hn⟩ := ih.blockF false b hb0 (by omega)
  simp only [eU3, hn, Option.bind_some, eT3, need_F hl h0 _ hb0]
  exact ⟨n, trivial, rfl⟩
theorem blockLR_ok (chunk : Bool) (r2 : Int) : ∀ (m : Nat) (acc : List Tree) (ts : List Tk), Good ts → ts <:+ l → 64 * ts.length + 10 < m → acc.length + ts.length ≤ 1000000 → 64 * ts.length + 47 ≤ k →
  Rel l GT eT3 (r12_reader_block.l0 m (RS.at k) l chunk r2 (fun l4 x9 x10 => some ((20 : Int), (⟨#[]⟩ : ByteArray), (0 : Int), r2, l4, x9, x10)) acc (ix l ts) (-1)) (vBlockL chunk r2 acc ts)
 | 0, _, _, _, _, h, _, _ => by omega
 | m + 1, acc, ts, hg, hs, hm, hac, hk => by
  have hp := good_pos hg
  rw [r12_reader_block.l0, end_ok m hg hs, vBlockL_eq chunk _ acc hg]
  simp only [Option.bind_some]
  obtain ⟨m', hm'⟩ : ∃ q, m = q + 1 := ⟨m - 1, by omega⟩
  have stopF : ∀ (xs : List Tree) (b : Int), 0 ≤ b → ∃ a', GT a' ∧ r12_reader_block.l0 m (RS.at k) l chunk r2 (fun l4 x9 x10 => some ((20 : Int), (⟨#[]⟩ : ByteArray), (0 : Int), r2, l4, x9, x10)) xs (EE l) b = some (eT3 a' (EE l) b) := fun xs b hb0 => by
   rw [hm', blockL_F hl h0 m' _ _ _ _ xs b hb0]
   exact ⟨.mk _ _ _ _ _, trivial, rfl⟩
  cases hE : endsH ts with
  | true =>
   obtain ⟨e1, e2, e3⟩ := ends_excl hE
   simp only [Bool.not_true, cond_false, e1, e2, e3, Bool.and_false, Bool.false_eq_true, if_false, if_true]
   rfl
  | false =>
  simp only [Bool.not_false, cond_true, atR_ok m hg hs, Option.bind_some, take_ok hl m hg hs, Bool.false_eq_true, if_false]
  refine rel_if (bool_dec _) (fun hc => ?_) fun h1 => ?_
  ·simp only [hc, if_true]
   obtain ⟨g1, g2, g3⟩ := hg.tail (isH_ne hc)
   exact blockLR_ok chunk r2 m acc _ g1 (g3.trans hs) (by omega) (by omega) (by omega)
  simp only [if_neg h1, take_ok hl m hg hs, Option.bind_some]
  refine rel_if (bool_dec _) (fun hc => ?_) fun h2 => ?_
  ·simp only [hc, if_true]
   obtain ⟨g1, g2, g3⟩ := hg.tail (isH_ne hc)
   have gs := g3.trans hs
   have hend : ∀ (xs : List Tree) (r : List Tk), Good r → r <:+ l → Rel l GT eT3 ((r12_reader_take.f m l (ix l r) (-1) (⟨#[59]⟩ : ByteArray)).bind (fun r36 => (apd 64 acc [(Tree.mk (30 : Int) (⟨#[]⟩ : ByteArray) (0 : Int) (hd ts).2.2.2 xs)]).bind fun l40 => some ((20 : Int), (⟨#[]⟩ : ByteArray), (0 : Int), r2, l40, r36.2, (-1 : Int)))) (.ok (.mk 20 noB 0 r2 (acc ++ [.mk 30 noB 0 (hd ts).2.2.2 xs])) (if isH kSemi r then r.tail else r)) := fun xs r hr hrl => by
    rw [take_ok hl m hr hrl, apd_ok' (by simp only [List.length_cons, List.length_nil]; omega)]
    rfl
   simp only [joinF, end_ok m g1 gs, see_ok m g1 gs, Option.bind_some]
   unfold vRets
   cases hE2 : endsH ts.tail with
   | true =>
    simp only [Bool.not_true, cond_false, Option.bind_some, Bool.true_or, if_true]
    exact hend [] _ g1 gs
   | false =>
    simp only [Bool.not_false, cond_true, Option.bind_some, Bool.false_or]
    by_cases hS : isH kSemi ts.tail = true
    ·rw [if_pos hS, show isH (⟨#[59]⟩ : ByteArray) ts.tail = true from hS]
     exact hend [] _ g1 gs
    ·rw [if_neg hS, show isH (⟨#[59]⟩ : ByteArray) ts.tail = false from by simpa using hS]
     simp only [Bool.not_false, cond_true]
     refine rel_bind (flistR_ok hl ha h0 m g1 gs (by omega)) (fExps g1) (fun xs r hv hr hrs hrn => ?_) fun a b hb0 hga => ?_
     ·exact hend xs r hr (hrs.trans gs)
     ·simp only [eL3, take_F hl h0 _ hb0, Option.bind_some]
      rw [apd_ok' (by simp only [List.length_cons, List.length_nil]; omega)]
      exact ⟨.mk _ _ _ _ _, trivial, rfl⟩
  simp only [if_neg h2, joinF]
  have more : ∀ (x : Tree) (r : List Tk), Good r → r <:+ ts → r.length + 1 ≤ ts.length → Rel l GT eT3 ((apd 64 acc [x]).bind fun l56 => r12_reader_block.l0 m (RS.at k) l chunk r2 (fun l4 x9 x10 => some ((20 : Int), (⟨#[]⟩ : ByteArray), (0 : Int), r2, l4, x9, x10)) l56 (ix l r) (-1)) (vBlockL chunk r2 (acc ++ [x]) r) := fun x r hr hrs hn => by
   rw [apd_ok' (by simp only [List.length_cons, List.length_nil]; omega)]
   exact blockLR_ok chunk r2 m _ r hr (hrs.trans hs) (by omega) (by simp only [List.length_append, List.length_cons, List.length_nil]; omega) (by omega)
  have moreF : ∀ (x : Tree) (b : Int), 0 ≤ b → ∃ a', GT a' ∧ ((apd 64 acc [x]).bind fun l56 => r12_reader_block.l0 m (RS.at k) l chunk r2 (fun l4 x9 x10 => some ((20 : Int), (⟨#[]⟩ : ByteArray), (0 : Int), r2, l4, x9, x10)) l56 (EE l) b) = some (eT3 a' (EE l) b) := fun x b hb0 => by
   rw [apd_ok' (by simp only [List.length_cons, List.length_nil]; omega)]
   exact stopF _ b hb0
  have hst : Rel l GT eT3 (((RS.at k).r12_reader_stat l (ix l ts) (-1) (hd ts).2.2.2).bind fun r104 => (apd 64 acc [(Tree.mk r104.1 r104.2.1 r104.2.2.1 r104.2.2.2.1 r104.2.2.2.2.1)]).bind fun l112 => r12_reader_block.l0 m (RS.at k) l chunk r2 (fun l4 x9 x10 => some ((20 : Int), (⟨#[]⟩ : ByteArray), (0 : Int), r2, l4, x9, x10)) l112 r104.2.2.2.2.2.1 r104.2.2.2.2.2.2) ((vStat ts).then fun x r => vBlockL chunk r2 (acc ++ [x]) r) := by
   refine rel_bind (ih.stat ts hg hs hk) (fStat hg) (fun x r hv hr hrs hrn => ?_) fun a b hb0 _ => ?_
   ·simp only [eT3, tree_eta]
    exact more x r hr hrs hrn
   ·simp only [eT3, tree_eta]
    exact moreF a b hb0
  by_cases hF : (chunk && isH kFunction ts) = true
  ·simp only [Bool.and_eq_true] at hF
   obtain ⟨hc, hF⟩ := hF
   subst hc
   rw [if_pos (by rw [hF]; rfl)]
   simp only [cond_true, take_ok hl m hg hs, Option.bind_some, show isH (⟨#[102, 117, 110, 99, 116, 105, 111, 110]⟩ : ByteArray) ts = true from hF, if_true]
   rw [vFunction_eq (isH_ne hF) hg]
   obtain ⟨g1, g2, g3⟩ := hg.tail (isH_ne hF)
   have gs := g3.trans hs
   have hle := hs.length_le
   -- behind the parameters
   have tl : ∀ (nm : ByteArray) (ps : List Tree) (r : List Tk), Good r → r <:+ ts → r.length + 1 ≤ ts.length → ps.length ≤ 1000000 → Rel l GT eT3 ((r12_reader_need.f m l (ix l r) (-1) (⟨#[41]⟩ : ByteArray)).bind fun r74 => ((RS.at k).r12_reader_block l r74.1 r74.2 false).bind fun r75 => (apd 64 ps [(Tree.mk r75.1 r75.2.1 r75.2.2.1 r75.2.2.2.1 r75.2.2.2.2.1)]).bind fun l83 => (r12_reader_need.f m l r75.2.2.2.2.2.1 r75.2.2.2.2.2.2 (⟨#[101, 110, 100]⟩ : ByteArray)).bind fun r88 => (apd 64 acc [(Tree.mk (31 : Int) nm ((ps.length : Nat) : Int) (hd ts).2.2.2 l83)]).bind fun l92 => r12_reader_block.l0 m (RS.at k) l true r2 (fun l4 x9 x10 => some ((20 : Int), (⟨#[]⟩ : ByteArray), (0 : Int), r2, l4, x9, x10)) l92 r88.1 r88.2)
     ((vWant kRp r).then fun _ r => (vBlock false r).then fun b r => (vWant kEnd r).then fun _ r => vBlockL true r2 (acc ++ [.mk 31 nm ps.length (hd ts).2.2.2 (ps ++ [b])]) r) := fun nm ps r hr hrs hn hps => by
    have hrl := hrs.trans hs
    refine rel_bind (need_ok hl ha _ hr hrl _) (fWant _ hr) (fun _ s _ hs1 hss hn' => ?_) fun _ b hb0 _ => ?_
    ·simp only [eU3]
     have h3 := hss.trans hrl
     refine rel_bind (ih.block false s hs1 h3 (by omega)) (fBlock false hs1) (fun x s2 _ hs2 hss2 hn2' => ?_) fun a b hb0 _ => ?_
     ·simp only [eT3, tree_eta]
      rw [apd_ok' (by simp only [List.length_cons, List.length_nil]; omega)]
      simp only [Option.bind_some]
      have h4 := hss2.trans h3
      refine rel_bind (need_ok hl ha _ hs2 h4 _) (fWant _ hs2) (fun _ s3 _ hs3 hss3 hn3 => ?_) fun _ b hb0 _ => ?_
      ·simp only [eU3]
       exact more _ s3 hs3 (hss3.trans (hss2.trans (hss.trans hrs))) (by omega)
      ·simp only [eU3]
       exact moreF _ b hb0
     ·simp only [eT3, tree_eta]
      rw [apd_ok' (by simp only [List.length_cons, List.length_nil]; omega)]
      simp only [Option.bind_some, need_F hl h0 _ hb0]
      exact moreF _ b hb0
    ·obtain ⟨n, hn⟩ := ih.blockF false b hb0 (by omega)
     simp only [eU3, hn, Option.bind_some, eT3, tree_eta]
     rw [apd_ok' (by simp only [List.length_cons, List.length_nil]; omega)]
     simp only [Option.bind_some, need_F hl h0 _ hb0]
     exact moreF _ b hb0
   have tlF : ∀ (nm : ByteArray) (ps : List Tree) (b : Int), 0 ≤ b → ps.length ≤ 3000000 → ∃ a', GT a' ∧ ((r12_reader_need.f m l (EE l) b (⟨#[41]⟩ : ByteArray)).bind fun r74 => ((RS.at k).r12_reader_block l r74.1 r74.2 false).bind fun r75 => (apd 64 ps [(Tree.mk r75.1 r75.2.1 r75.2.2.1 r75.2.2.2.1 r75.2.2.2.2.1)]).bind fun l83 => (r12_reader_need.f m l r75.2.2.2.2.2.1 r75.2.2.2.2.2.2 (⟨#[101, 110, 100]⟩ : ByteArray)).bind fun r88 => (apd 64 acc [(Tree.mk (31 : Int) nm ((ps.length : Nat) : Int) (hd ts).2.2.2 l83)]).bind fun l92 => r12_reader_block.l0 m (RS.at k) l true r2 (fun l4 x9 x10 => some ((20 : Int), (⟨#[]⟩ : ByteArray), (0 : Int), r2, l4, x9, x10)) l92 r88.1 r88.2) = some (eT3 a' (EE l) b) := fun nm ps b hb0 hps => by
    obtain ⟨n, hn⟩ := ih.blockF false b hb0 (by omega)
    simp only [need_F hl h0 _ hb0, Option.bind_some, hn, eT3, tree_eta]
    rw [apd_ok' (by simp only [List.length_cons, List.length_nil]; omega)]
    simp only [Option.bind_some, need_F hl h0 _ hb0]
    exact moreF _ b hb0
   have whole : Rel l GT eT3 ((r12_reader_name.f m l (ix l ts.tail) (-1) (6 : Int)).bind fun r60 => (r12_reader_need.f m l r60.2.2.2.2.2.1 r60.2.2.2.2.2.2 (⟨#[40]⟩ : ByteArray)).bind fun r65 => (r12_reader_see.f m l r65.1 r65.2 (⟨#[41]⟩ : ByteArray)).bind fun r97 => cond (!r97) ((r12_reader_names.f m l r65.1 r65.2).bind fun r99 => (r12_reader_need.f m l r99.2.1 r99.2.2 (⟨#[41]⟩ : ByteArray)).bind fun r74 => ((RS.at k).r12_reader_block l r74.1 r74.2 false).bind fun r75 => (apd 64 r99.1 [(Tree.mk r75.1 r75.2.1 r75.2.2.1 r75.2.2.2.1 r75.2.2.2.2.1)]).bind fun l83 => (r12_reader_need.f m l r75.2.2.2.2.2.1 r75.2.2.2.2.2.2 (⟨#[101, 110, 100]⟩ : ByteArray)).bind fun r88 => (apd 64 acc [(Tree.mk (31 : Int) r60.2.1 ((r99.1.length : Nat) : Int) (hd ts).2.2.2 l83)]).bind fun l92 => r12_reader_block.l0 m (RS.at k) l true r2 (fun l4 x9 x10 => some ((20 : Int), (⟨#[]⟩ : ByteArray), (0 : Int), r2, l4, x9, x10)) l92 r88.1 r88.2) ((r12_reader_need.f m l r65.1 r65.2 (⟨#[41]⟩ : ByteArray)).bind fun r74 => ((RS.at k).r12_reader_block l r74.1 r74.2 false).bind fun r75 => (apd 64 [] [(Tree.mk r75.1 r75.2.1 r75.2.2.1 r75.2.2.2.1 r75.2.2.2.2.1)]).bind fun l83 => (r12_reader_need.f m l r75.2.2.2.2.2.1 r75.2.2.2.2.2.2 (⟨#[101, 110, 100]⟩ : ByteArray)).bind fun r88 => (apd 64 acc [(Tree.mk (31 : Int) r60.2.1 ((([] : List Tree).length : Nat) : Int) (hd ts).2.2.2 l83)]).bind fun l92 => r12_reader_block.l0 m (RS.at k) l true r2 (fun l4 x9 x10 => some ((20 : Int), (⟨#[]⟩ : ByteArray), (0 : Int), r2, l4, x9, x10)) l92 r88.1 r88.2))
     ((vName 6 ts.tail).then fun nm r => (vWant kLp r).then fun _ r => (vParams r).then fun ps r => (vWant kRp r).then fun _ r => (vBlock false r).then fun b r => (vWant kEnd r).then fun _ r => vBlockL true r2 (acc ++ [.mk 31 nm.text ps.length (hd ts).2.2.2 (ps ++ [b])]) r) := by
    refine rel_bind (nameR_ok hl ha _ g1 gs 6) (fName 6 g1) (fun nm r _ hr hrs hrn => ?_) fun a b hb0 _ => ?_
    ·simp only [eT3]
     have h1' := hrs.trans gs
     refine rel_bind (need_ok hl ha _ hr h1' _) (fWant _ hr) (fun _ s _ hs1 hss hn' => ?_) fun _ b hb0 _ => ?_
     ·simp only [eU3]
      have hsl := hss.trans h1'
      rw [see_ok m hs1 hsl]
      simp only [Option.bind_some]
      unfold vParams
      by_cases hR : isH kRp s = true
      ·rw [if_pos hR, show isH (⟨#[41]⟩ : ByteArray) s = true from hR]
       exact tl nm.text [] s hs1 (hss.trans (hrs.trans g3)) (by omega) (by simp)
      ·rw [if_neg hR, show isH (⟨#[41]⟩ : ByteArray) s = false from by simpa using hR]
       simp only [Bool.not_false, cond_true]
       refine rel_bind (namesR_ok hl ha h0 m hs1 hsl (by omega)) (fNames hs1) (fun ps s2 hv hs2 hss2 hn2 => ?_) fun a b hb0 hga => ?_
       ·have hln := len_names hs1 hv
        exact tl nm.text ps s2 hs2 (hss2.trans (hss.trans (hrs.trans g3))) (by omega) (by omega)
       ·exact tlF nm.text a b hb0 hga
     ·simp only [eU3, see_F hl h0 _ hb0, Option.bind_some, Bool.not_false, cond_true, names_F hl h0 _ hb0 (show 0 < m by omega)]
      exact tlF nm.text [nilT] b hb0 (by simp)
    ·simp only [eT3, need_F hl h0 m hb0 (⟨#[40]⟩ : ByteArray), Option.bind_some, see_F hl h0 _ hb0, Bool.not_false, cond_true, names_F hl h0 _ hb0 (show 0 < m by omega)]
     exact tlF a.text [nilT] b hb0 (by simp)
   simp only [then_assoc]
   exact whole
  ·rw [if_neg hF]
   cases chunk with
   | false =>
    simp only [cond_false]
    exact hst
   | true =>
    simp only [cond_true, take_ok hl m hg hs, Option.bind_some]
    have hF' : isH kFunction ts = false := by simpa using hF
    rw [show isH (⟨#[102, 117, 110, 99, 116, 105, 111, 110]⟩ : ByteArray) ts = false from hF']
    simp only [cond_false, Bool.false_eq_true, if_false]
    exact hst
theorem blockR_ok (c : Bool) {ts : List Tk} (hg : Good ts) (hs : ts <:+ l) (hk : 64 * ts.length + 49 ≤ k) : Rel l GT eT3 (r12_reader_block.g (RS.at k) k l (ix l ts) (-1) c) (vBlock c ts) := by
 unfold r12_reader_block.g
 rw [atR_ok k hg hs, vBlock_eq c hg]
 simp only [Option.bind_some, joinF]
 have := hs.length_le
 exact blockLR_ok hl ha h0 ih c (hd ts).2.2.2 k [] ts hg hs (by omega) (by simp only [List.length_nil]; omega) (by omega)
omit ih in
theorem targetsR_ok (J : List Tree → Int → Int → Option (Int × ByteArray × Int × Int × List Tree × Int × Int)) (g : List Tree → List Tk → PV Tree) (N : Nat) (hJ : ∀ a r, Good r → r <:+ l → r.length ≤ N → a.length ≤ 1000000 → Rel l GT eT3 (J a (ix l r) (-1)) (g a r)) (hJF : ∀ a b, 0 ≤ b → a.length ≤ 1000001 → ∃ a', GT a' ∧ J a (EE l) b = some (eT3 a' (EE l) b)) :
  ∀ (m : Nat) (acc : List Tree) (e : Tree) (ts : List Tk), 0 ≤ e.at_ → Good ts → ts <:+ l → 64 * ts.length + 2 < m → ts.length ≤ N → acc.length + ts.length + 1 ≤ 1000000 → Rel l GT eT3 (r12_reader_plain.l0 m l J acc e.kind e.text e.n e.at_ e.kids (ix l ts) (-1)) ((vTargets acc e ts).then g)
 | 0, _, _, _, _, _, _, h, _, _ => by omega
 | m + 1, acc, e, ts, he, hg, hs, hm, hN, hac => by
  have hp := good_pos hg
  rw [r12_reader_plain.l0, vTargets_eq acc e hg]
  simp only [joinF, tree_eta, show decide ((-1 : Int) < 0) = true from rfl, cond_true]
  have hq : (cond (e.kind != (6 : Int)) (some (e.kind != (7 : Int))) (some false) : Option Bool) = some (!decide (e.kind = 6 ∨ e.kind = 7)) := by
   rw [bne, bne, beq_dec, beq_dec]
   by_cases h6 : e.kind = 6
   ·simp [h6]
   ·simp [h6]
  rw [hq]
  simp only [Option.bind_some]
  obtain ⟨m', hm'⟩ : ∃ q, m = q + 1 := ⟨m - 1, by omega⟩
  by_cases hk : e.kind = 6 ∨ e.kind = 7
  ·rw [if_pos hk, decide_eq_true hk]
   simp only [Bool.not_true, cond_false]
   rw [apd_ok' (by simp only [List.length_cons, List.length_nil]; omega)]
   simp only [Option.bind_some, take_ok hl m hg hs]
   by_cases hc : isH kComma ts = true
   ·rw [show isH (⟨#[44]⟩ : ByteArray) ts = true from hc]
    simp only [Bool.not_true, cond_false, if_true]
    rw [then_assoc]
    obtain ⟨g1, g2, g3⟩ := hg.tail (isH_ne hc)
    have gs := g3.trans hs
    refine rel_bind (fsufR_ok hl ha h0 m g1 gs (by omega)) (fSuffixed g1) (fun x r hv hr hrs hn => ?_) fun a b hb0 _ => ?_
    ·refine targetsR_ok J g N hJ hJF m _ x r ?_ hr (hrs.trans gs) (by omega) (by omega) (by simp only [List.length_append, List.length_cons, List.length_nil]; omega)
     rw [suf_at g1 hv]
     exact (ha.suf gs).hd
    ·have hstop : ∀ kd tx n p ks, r12_reader_plain.l0 (m' + 1) l J (acc ++ [e]) kd tx n p ks (EE l) b = J (acc ++ [e]) (EE l) b := fun kd tx n p ks => by rw [r12_reader_plain.l0, decide_eq_false (by omega)]; rfl
     rw [hm']
     simp only [eT3, hstop]
     exact hJF (acc ++ [e]) b hb0 (by simp only [List.length_append, List.length_cons, List.length_nil]; omega)
   ·rw [show isH (⟨#[44]⟩ : ByteArray) ts = false from by simpa using hc]
    simp only [Bool.not_false, cond_true, Bool.false_eq_true, if_false]
    exact hJ _ ts hg hs hN (by simp only [List.length_append, List.length_cons, List.length_nil]; omega)
  ·rw [if_neg hk, decide_eq_false hk]
   simp only [Bool.not_false, cond_true, bad_ok hl h0 m, Option.bind_some]
   rw [apd_ok' (by simp only [List.length_cons, List.length_nil]; omega)]
   simp only [Option.bind_some, take_F hl h0 m he, Bool.not_false, cond_true]
   obtain ⟨a', ha', h⟩ := hJF (acc ++ [e]) e.at_ he (by simp only [List.length_append, List.length_cons, List.length_nil]; omega)
   exact ⟨he, a', ha', h⟩
omit ih in
theorem plainR_ok (k : Nat) {ts : List Tk} (hg : Good ts) (hs : ts <:+ l) (hk : 64 * ts.length + 45 ≤ k) : Rel l GT eT3 (r12_reader_plain.g (RS.at k) k l (ix l ts) (-1) (hd ts).2.2.2) (vPlain ts) := by
 unfold r12_reader_plain.g
 rw [vPlain_eq hg]
 have hle := hs.length_le
 have hp := good_pos hg
 refine rel_bind (fsufR_ok hl ha h0 k hg hs (by omega)) (fSuffixed hg) (fun e r hv hr hrs hn => ?_) fun a b hb0 _ => ?_
 ·have h1 := hrs.trans hs
  have hat := suf_at hg hv
  simp only [eT3, tree_eta, see_ok k hr h1, Option.bind_some, joinF]
  have hq : (cond (!isH (⟨#[61]⟩ : ByteArray) r) (some (!isH (⟨#[44]⟩ : ByteArray) r)) (some false) : Option Bool) = some (!(isH kEq r || isH kComma r)) := by
   show (cond (!isH kEq r) (some (!isH kComma r)) (some false) : Option Bool) = _
   cases isH kEq r <;> cases isH kComma r <;> rfl
  rw [hq]
  simp only [Option.bind_some]
  cases hb : (isH kEq r || isH kComma r) with
  | true =>
   simp only [Bool.not_true, cond_false, if_true]
   have h := targetsR_ok hl ha h0 (fun l20 x25 x26 => (r12_reader_need.f k l x25 x26 (⟨#[61]⟩ : ByteArray)).bind fun r28 => (r12_reader_list.f k l r28.1 r28.2).bind fun r29 => (apd 64 l20 r29.1).bind fun l34 => some ((22 : Int), (⟨#[]⟩ : ByteArray), ((l20.length : Nat) : Int), (hd ts).2.2.2, l34, r29.2.1, r29.2.2)) (fun l r => (vWant kEq r).then fun _ r => (vExps r).then fun es r => .ok (.mk 22 noB l.length (hd ts).2.2.2 (l ++ es)) r) r.length (fun a s hs1 hsl hsn ha' => by
    refine rel_bind (need_ok hl ha _ hs1 hsl _) (fWant _ hs1) (fun _ s2 _ hs2 hss2 hn2 => ?_) fun _ b hb0 _ => ?_
    ·simp only [eU3]
     refine rel_bind (flistR_ok hl ha h0 k hs2 (hss2.trans hsl) (by omega)) (fExps hs2) (fun es s3 hv3 hs3 hss3 hn3 => ?_) fun c b hb0 hga => ?_
     ·have hln := len_exps hs2 hv3
      have := hsl.length_le
      simp only [eL3]
      rw [apd_ok' (by omega)]
      rfl
     ·unfold GL at hga
      simp only [eL3]
      rw [apd_ok' (by omega)]
      exact ⟨.mk _ _ _ _ _, trivial, rfl⟩
    ·simp only [eU3, flistR_F hl ha h0 k b hb0 (by omega), Option.bind_some]
     rw [apd_ok' (by simp only [List.length_cons, List.length_nil]; omega)]
     exact ⟨.mk _ _ _ _ _, trivial, rfl⟩) (fun a b hb0 ha' => by
    simp only [need_F hl h0 _ hb0, Option.bind_some, flistR_F hl ha h0 k b hb0 (by omega)]
    rw [apd_ok' (by simp only [List.length_cons, List.length_nil]; omega)]
    exact ⟨.mk _ _ _ _ _, trivial, rfl⟩) k [] e r (by rw [hat]; exact (ha.suf hs).hd) hr h1 (by omega) (Nat.le_refl _) (by simp only [List.length_nil]; omega)
   rw [hat] at h ⊢
   exact h
  | false =>
   simp only [Bool.not_false, cond_true, Bool.false_eq_true, if_false]
   by_cases h8 : e.kind = 8
   ·rw [if_pos h8, h8, hat]
    rfl
   ·rw [if_neg h8, show (e.kind != 8) = true by rw [bne_iff_ne]; exact h8]
    simp only [cond_true, atR_ok k hr h1, Option.bind_some, bad_ok hl h0 k]
    exact ⟨(ha.suf h1).hd, .mk _ _ _ _ _, trivial, rfl⟩
 ·simp only [eT3, tree_eta, see_F hl h0 _ hb0, Option.bind_some, Bool.not_false, cond_true, joinF]
  obtain ⟨t, ht⟩ := at_F hl h0 k hb0
  cases a.kind != (8 : Int) with
  | true =>
   simp only [cond_true, ht, Option.bind_some, bad_F hl h0 k hb0]
   exact ⟨.mk _ _ _ _ _, trivial, rfl⟩
  | false =>
   simp only [cond_false]
   exact ⟨.mk _ _ _ _ _, trivial, rfl⟩
omit ih in
theorem forL_F (m : Nat) (J : List Tree → Int → Int → Option (Int × ByteArray × Int × Int × List Tree × Int × Int)) (acc : List Tree) (b : Int) (hb : 0 ≤ b) : r12_reader_loop.l0 (m + 1) l J acc (EE l) b = J acc (EE l) b := by
 rw [r12_reader_loop.l0, take_F hl h0 m hb]
 rfl
omit ih in
theorem forL_ok (J : List Tree → Int → Int → Option (Int × ByteArray × Int × Int × List Tree × Int × Int)) (g : List Tree → List Tk → PV Tree) (N : Nat) (hJ : ∀ a r, Good r → r <:+ l → r.length ≤ N → a.length + r.length ≤ 1000000 → Rel l GT eT3 (J a (ix l r) (-1)) (g a r)) (hJF : ∀ a b, 0 ≤ b → a.length ≤ 1000001 → ∃ a', GT a' ∧ J a (EE l) b = some (eT3 a' (EE l) b)) :
  ∀ (m : Nat) (acc : List Tree) (ts : List Tk), Good ts → ts <:+ l → ts.length + 1 < m → ts.length ≤ N → acc.length + ts.length ≤ 1000000 → Rel l GT eT3 (r12_reader_loop.l0 m l J acc (ix l ts) (-1)) ((vNamesL acc ts).then g)
 | 0, _, _, _, _, h, _, _ => by omega
 | m + 1, acc, ts, hg, hs, hm, hN, hc => by
  rw [r12_reader_loop.l0, take_ok hl m hg hs, vNamesL_eq acc hg]
  simp only [Option.bind_some]
  by_cases hc' : isH kComma ts = true
  ·rw [show isH (⟨#[44]⟩ : ByteArray) ts = true from hc']
   simp only [cond_true, if_true]
   rw [then_assoc]
   obtain ⟨g1, g2, g3⟩ := hg.tail (isH_ne hc')
   have gs := g3.trans hs
   refine rel_bind (nameR_ok hl ha _ g1 gs 6) (fName 6 g1) (fun x r hv hr hrs hrn => ?_) fun a b hb0 _ => ?_
   ·simp only [eT3, tree_eta]
    rw [apd_ok' (by simp only [List.length_cons, List.length_nil]; omega)]
    simp only [Option.bind_some]
    exact forL_ok J g N hJ hJF m _ r hr (hrs.trans gs) (by omega) (by omega) (by simp only [List.length_append, List.length_cons, List.length_nil]; omega)
   ·simp only [eT3, tree_eta]
    rw [apd_ok' (by simp only [List.length_cons, List.length_nil]; omega)]
    obtain ⟨m, rfl⟩ : ∃ q, m = q + 1 := ⟨m - 1, by omega⟩
    simp only [Option.bind_some, forL_F hl ha h0 m J _ b hb0]
    exact hJF _ b hb0 (by simp only [List.length_append, List.length_cons, List.length_nil]; omega)
  ·rw [show isH (⟨#[44]⟩ : ByteArray) ts = false from by simpa using hc']
   simp only [cond_false, Bool.false_eq_true, if_false]
   exact hJ _ ts hg hs hN hc
theorem forR_ok (at_ : Int) {ts : List Tk} (hg : Good ts) (hs : ts <:+ l) (hk : 64 * ts.length + 47 ≤ k) : Rel l GT eT3 (r12_reader_loop.g (RS.at k) k l (ix l ts) (-1) at_) (vFor at_ ts) := by
 unfold r12_reader_loop.g
 rw [vFor_eq at_ hg]
 have hle := hs.length_le
 have hp := good_pos hg
 obtain ⟨k', hk'⟩ : ∃ q, k = q + 1 := ⟨k - 1, by omega⟩
 -- the body, and the end
 have tl : ∀ (kd nn : Int) (xs : List Tree) (r : List Tk), Good r → r <:+ l → r.length + 1 ≤ ts.length → xs.length ≤ 4000000 → Rel l GT eT3 (((RS.at k).r12_reader_body l (ix l r) (-1)).bind fun r47 => (apd 64 xs [(Tree.mk r47.1 r47.2.1 r47.2.2.1 r47.2.2.2.1 r47.2.2.2.2.1)]).bind fun l55 => some (kd, (⟨#[]⟩ : ByteArray), nn, at_, l55, r47.2.2.2.2.2.1, r47.2.2.2.2.2.2)) ((vBody r).then fun bd r => .ok (.mk kd noB nn at_ (xs ++ [bd])) r) := fun kd nn xs r hr hrl hn hxs => by
  refine rel_bind (ih.body r hr hrl (by omega)) (fBody hr) (fun x s _ _ _ _ => ?_) fun a b hb0 _ => ?_
  ·simp only [eT3, tree_eta]
   rw [apd_ok' (by simp only [List.length_cons, List.length_nil]; omega)]
   rfl
  ·simp only [eT3, tree_eta]
   rw [apd_ok' (by simp only [List.length_cons, List.length_nil]; omega)]
   exact ⟨.mk _ _ _ _ _, trivial, rfl⟩
 have tlF : ∀ (kd nn : Int) (xs : List Tree) (b : Int), 0 ≤ b → xs.length ≤ 4000000 → ∃ a', GT a' ∧ (((RS.at k).r12_reader_body l (EE l) b).bind fun r47 => (apd 64 xs [(Tree.mk r47.1 r47.2.1 r47.2.2.1 r47.2.2.2.1 r47.2.2.2.2.1)]).bind fun l55 => some (kd, (⟨#[]⟩ : ByteArray), nn, at_, l55, r47.2.2.2.2.2.1, r47.2.2.2.2.2.2)) = some (eT3 a' (EE l) b) := fun kd nn xs b hb0 hxs => by
  obtain ⟨n, hn⟩ := ih.bodyF b hb0 (by omega)
  simp only [hn, Option.bind_some, eT3, tree_eta]
  rw [apd_ok' (by simp only [List.length_cons, List.length_nil]; omega)]
  exact ⟨.mk _ _ _ _ _, trivial, rfl⟩
 -- behind the names of a 'for in'
 have inF : ∀ (xs : List Tree) (b : Int), 0 ≤ b → xs.length ≤ 1000001 → ∃ a', GT a' ∧ ((r12_reader_need.f k l (EE l) b (⟨#[105, 110]⟩ : ByteArray)).bind fun r84 => (r12_reader_list.f k l r84.1 r84.2).bind fun r85 => (apd 64 xs r85.1).bind fun l90 => ((RS.at k).r12_reader_body l r85.2.1 r85.2.2).bind fun r95 => (apd 64 l90 [(Tree.mk r95.1 r95.2.1 r95.2.2.1 r95.2.2.2.1 r95.2.2.2.2.1)]).bind fun l103 => some ((27 : Int), (⟨#[]⟩ : ByteArray), ((xs.length : Nat) : Int), at_, l103, r95.2.2.2.2.2.1, r95.2.2.2.2.2.2)) = some (eT3 a' (EE l) b) := fun xs b hb0 hxs => by
  simp only [need_F hl h0 _ hb0, Option.bind_some, flistR_F hl ha h0 k b hb0 (by omega)]
  rw [apd_ok' (by simp only [List.length_cons, List.length_nil]; omega)]
  exact tlF 27 _ _ b hb0 (by simp only [List.length_append, List.length_cons, List.length_nil]; omega)
 have in_ok : ∀ (xs : List Tree) (r : List Tk), Good r → r <:+ l → r.length + 1 ≤ ts.length → xs.length + r.length ≤ 1000000 → Rel l GT eT3 ((r12_reader_need.f k l (ix l r) (-1) (⟨#[105, 110]⟩ : ByteArray)).bind fun r84 => (r12_reader_list.f k l r84.1 r84.2).bind fun r85 => (apd 64 xs r85.1).bind fun l90 => ((RS.at k).r12_reader_body l r85.2.1 r85.2.2).bind fun r95 => (apd 64 l90 [(Tree.mk r95.1 r95.2.1 r95.2.2.1 r95.2.2.2.1 r95.2.2.2.2.1)]).bind fun l103 => some ((27 : Int), (⟨#[]⟩ : ByteArray), ((xs.length : Nat) : Int), at_, l103, r95.2.2.2.2.2.1, r95.2.2.2.2.2.2)) ((vWant kIn r).then fun _ r => (vExps r).then fun es r => (vBody r).then fun bd r => .ok (.mk 27 noB xs.length at_ (xs ++ es ++ [bd])) r) := fun xs r hr hrl hn hxs => by
  refine rel_bind (need_ok hl ha _ hr hrl _) (fWant _ hr) (fun _ s _ hs1 hss hn' => ?_) fun _ b hb0 _ => ?_
  ·simp only [eU3]
   have h3 := hss.trans hrl
   refine rel_bind (flistR_ok hl ha h0 k hs1 h3 (by omega)) (fExps hs1) (fun es s2 hv2 hs2 hss2 hn2 => ?_) fun c b hb0 hga => ?_
   ·have hln := len_exps hs1 hv2
    simp only [eL3]
    rw [apd_ok' (by omega)]
    exact tl 27 _ _ s2 hs2 (hss2.trans h3) (by omega) (by simp only [List.length_append]; omega)
   ·unfold GL at hga
    simp only [eL3]
    rw [apd_ok' (by omega)]
    exact tlF 27 _ _ b hb0 (by simp only [List.length_append]; omega)
  ·simp only [eU3, Option.bind_some, flistR_F hl ha h0 k b hb0 (by omega)]
   rw [apd_ok' (by simp only [List.length_cons, List.length_nil]; omega)]
   exact tlF 27 _ _ b hb0 (by simp only [List.length_append, List.length_cons, List.length_nil]; omega)
 refine rel_bind (nameR_ok hl ha _ hg hs 6) (fName 6 hg) (fun n r hv hr hrs hrn => ?_) fun a b hb0 _ => ?_
 ·simp only [eT3, tree_eta, joinF]
  have h1 := hrs.trans hs
  rw [take_ok hl k hr h1]
  simp only [Option.bind_some]
  refine rel_if (bool_dec _) (fun hc => ?_) fun hne => ?_
  ·simp only [hc, if_true]
   obtain ⟨g1, g2, g3⟩ := hr.tail (isH_ne hc)
   have gs := g3.trans h1
   -- behind the first bound
   have stepF : ∀ (xs : List Tree) (b : Int), 0 ≤ b → xs.length ≤ 100 → ∃ a', GT a' ∧ ((r12_reader_take.f k l (EE l) b (⟨#[44]⟩ : ByteArray)).bind fun r60 => cond r60.1 ((r12_reader_exp.f k l r60.2 b (1 : Int)).bind fun r62 => (apd 64 xs [(Tree.mk r62.1 r62.2.1 r62.2.2.1 r62.2.2.2.1 r62.2.2.2.2.1)]).bind fun l70 => ((RS.at k).r12_reader_body l r62.2.2.2.2.2.1 r62.2.2.2.2.2.2).bind fun r47 => (apd 64 l70 [(Tree.mk r47.1 r47.2.1 r47.2.2.1 r47.2.2.2.1 r47.2.2.2.2.1)]).bind fun l55 => some ((26 : Int), (⟨#[]⟩ : ByteArray), (0 : Int), at_, l55, r47.2.2.2.2.2.1, r47.2.2.2.2.2.2)) (((RS.at k).r12_reader_body l r60.2 b).bind fun r47 => (apd 64 xs [(Tree.mk r47.1 r47.2.1 r47.2.2.1 r47.2.2.2.1 r47.2.2.2.2.1)]).bind fun l55 => some ((26 : Int), (⟨#[]⟩ : ByteArray), (0 : Int), at_, l55, r47.2.2.2.2.2.1, r47.2.2.2.2.2.2))) = some (eT3 a' (EE l) b) := fun xs b hb0 hxs => by
    simp only [take_F hl h0 _ hb0, Option.bind_some, cond_false]
    exact tlF 26 0 xs b hb0 (by omega)
   refine rel_bind (fexpR_ok hl ha h0 k g1 gs (by omega)) (fExp (by omega) g1) (fun x r2 _ hr2 hrs2 hn2 => ?_) fun a b hb0 _ => ?_
   ·simp only [eT3, tree_eta]
    have h2 := hrs2.trans gs
    rw [apd_ok' (by simp)]
    simp only [Option.bind_some]
    refine rel_bind (need_ok hl ha _ hr2 h2 _) (fWant _ hr2) (fun _ r3 _ hr3 hrs3 hn3 => ?_) fun _ b hb0 _ => ?_
    ·simp only [eU3]
     have h3 := hrs3.trans h2
     refine rel_bind (fexpR_ok hl ha h0 k hr3 h3 (by omega)) (fExp (by omega) hr3) (fun y r4 _ hr4 hrs4 hn4 => ?_) fun a b hb0 _ => ?_
     ·simp only [eT3, tree_eta]
      have h4 := hrs4.trans h3
      rw [apd_ok' (by simp)]
      simp only [Option.bind_some, take_ok hl k hr4 h4]
      unfold vStep
      by_cases hC : isH kComma r4 = true
      ·rw [if_pos hC, show isH (⟨#[44]⟩ : ByteArray) r4 = true from hC]
       simp only [cond_true, if_true]
       obtain ⟨g5, g6, g7⟩ := hr4.tail (isH_ne hC)
       have gs5 := g7.trans h4
       rw [then_assoc]
       refine rel_bind (fexpR_ok hl ha h0 k g5 gs5 (by omega)) (fExp (by omega) g5) (fun z r5 _ hr5 hrs5 hn5 => ?_) fun a b hb0 _ => ?_
       ·simp only [eT3, tree_eta]
        rw [apd_ok' (by simp)]
        exact tl 26 0 _ r5 hr5 (hrs5.trans gs5) (by omega) (by simp)
       ·simp only [eT3, tree_eta]
        rw [apd_ok' (by simp)]
        exact tlF 26 0 _ b hb0 (by simp)
      ·rw [if_neg hC, show isH (⟨#[44]⟩ : ByteArray) r4 = false from by simpa using hC]
       simp only [cond_false, Bool.false_eq_true, if_false]
       have := tl 26 0 ([n] ++ [x] ++ [y]) r4 hr4 h4 (by omega) (by simp)
       simp only [PV.then, List.append_nil]
       exact this
     ·simp only [eT3, tree_eta]
      rw [apd_ok' (by simp)]
      exact stepF _ b hb0 (by simp)
    ·simp only [eU3, fexpR_F hl h0 k 1 b hb0, Option.bind_some]
     rw [apd_ok' (by simp)]
     exact stepF _ b hb0 (by simp)
   ·simp only [eT3, tree_eta]
    rw [apd_ok' (by simp)]
    simp only [Option.bind_some, need_F hl h0 _ hb0, fexpR_F hl h0 k 1 b hb0]
    rw [apd_ok' (by simp)]
    exact stepF _ b hb0 (by simp)
  ·simp only [if_neg hne]
   refine forL_ok hl ha h0 _ _ r.length (fun a s hs1 hsl hsn ha' => ?_) inF k [n] r hr h1 (by omega) (Nat.le_refl _) (by simp only [List.length_cons, List.length_nil]; omega)
   exact in_ok a s hs1 hsl (by omega) ha'
 ·simp only [eT3, tree_eta, joinF, take_F hl h0 _ hb0, Option.bind_some, cond_false]
  rw [hk', forL_F hl ha h0 k' _ _ b hb0, ← hk']
  exact inF [a] b hb0 (by simp)
theorem ifL_ok (J : List Tree → Int → Int → Option (Int × ByteArray × Int × Int × List Tree × Int × Int)) (T : List Tree → Tree)
  (hJ : ∀ a r, Good r → r <:+ l → 64 * r.length + 50 ≤ k → a.length ≤ 1000000 → Rel l GT eT3 (J a (ix l r) (-1)) ((if isH kElse r then (vBlock false r.tail).then fun c r => (vWant kEnd r).then fun _ r => .ok (a ++ [c]) r else (vWant kEnd r).then fun _ r => .ok a r).then fun l r => .ok (T l) r))
  (hJF : ∀ a b, 0 ≤ b → a.length ≤ 1000002 → ∃ a', GT a' ∧ J a (EE l) b = some (eT3 a' (EE l) b)) :
  ∀ (m : Nat) (acc : List Tree) (ts : List Tk), Good ts → ts <:+ l → 64 * ts.length + 4 < m → acc.length + 2 * ts.length ≤ 1000000 → 64 * ts.length ≤ k → Rel l GT eT3 (r12_reader_stat.l0 m (RS.at k) l J true acc (ix l ts) (-1)) ((vBranches acc ts).then fun l r => .ok (T l) r)
 | 0, _, _, _, _, h, _, _ => by omega
 | m + 1, acc, ts, hg, hs, hm, hac, hk => by
  have hp := good_pos hg
  rw [r12_reader_stat.l0, vBranches_eq acc hg]
  simp only [cond_true, then_assoc]
  obtain ⟨m', hm'⟩ : ∃ q, m = q + 1 := ⟨m - 1, by omega⟩
  have stop : ∀ (acc : List Tree) (i f : Int), r12_reader_stat.l0 m (RS.at k) l J false acc i f = J acc i f := fun acc i f => by rw [hm', r12_reader_stat.l0]; rfl
  have endF : ∀ (e : Tree) (b : Int), 0 ≤ b → ∃ a', GT a' ∧ (((RS.at k).r12_reader_block l (EE l) b false).bind fun r91 => (apd 64 acc [e, (Tree.mk r91.1 r91.2.1 r91.2.2.1 r91.2.2.2.1 r91.2.2.2.2.1)]).bind fun l100 => (r12_reader_take.f m l r91.2.2.2.2.2.1 r91.2.2.2.2.2.2 (⟨#[101, 108, 115, 101, 105, 102]⟩ : ByteArray)).bind fun r105 => r12_reader_stat.l0 m (RS.at k) l J r105.1 l100 r105.2 r91.2.2.2.2.2.2) = some (eT3 a' (EE l) b) := fun e b hb0 => by
   obtain ⟨n, hn⟩ := ih.blockF false b hb0 (by omega)
   simp only [hn, Option.bind_some, eT3, tree_eta]
   rw [apd_ok' (by simp only [List.length_cons, List.length_nil]; omega)]
   simp only [Option.bind_some, take_F hl h0 _ hb0, stop]
   exact hJF _ b hb0 (by simp only [List.length_append, List.length_cons, List.length_nil]; omega)
  refine rel_bind (fexpR_ok hl ha h0 m hg hs (by omega)) (fExp (by omega) hg) (fun e r _ hr hrs hn => ?_) fun a b hb0 _ => ?_
  ·simp only [eT3, tree_eta]
   have h1 := hrs.trans hs
   refine rel_bind (need_ok hl ha _ hr h1 _) (fWant _ hr) (fun _ r2 _ hr2 hrs2 hn2 => ?_) fun _ b hb0 _ => ?_
   ·simp only [eU3]
    have h2 := hrs2.trans h1
    refine rel_bind (ih.block false r2 hr2 h2 (by omega)) (fBlock false hr2) (fun bb r3 _ hr3 hrs3 hn3 => ?_) fun a b hb0 _ => ?_
    ·simp only [eT3, tree_eta]
     have h3 := hrs3.trans h2
     rw [apd_ok' (by simp only [List.length_cons, List.length_nil]; omega)]
     simp only [Option.bind_some, take_ok hl m hr3 h3]
     have e2 : acc ++ [e] ++ [bb] = acc ++ [e, bb] := by simp
     rw [e2]
     by_cases hc : isH kElseif r3 = true
     ·rw [if_pos hc, show isH (⟨#[101, 108, 115, 101, 105, 102]⟩ : ByteArray) r3 = true from hc]
      simp only [if_true]
      obtain ⟨g1, g2, g3⟩ := hr3.tail (isH_ne hc)
      exact ifL_ok J T hJ hJF m _ _ g1 (g3.trans h3) (by omega) (by simp only [List.length_append, List.length_cons, List.length_nil]; omega) (by omega)
     ·rw [if_neg hc, show isH (⟨#[101, 108, 115, 101, 105, 102]⟩ : ByteArray) r3 = false from by simpa using hc]
      simp only [Bool.false_eq_true, if_false, stop]
      exact hJ _ r3 hr3 h3 (by omega) (by simp only [List.length_append, List.length_cons, List.length_nil]; omega)
    ·simp only [eT3, tree_eta]
     rw [apd_ok' (by simp only [List.length_cons, List.length_nil]; omega)]
     simp only [Option.bind_some, take_F hl h0 _ hb0, stop]
     exact hJF _ b hb0 (by simp only [List.length_append, List.length_cons, List.length_nil]; omega)
   ·simp only [eU3]
    exact endF e b hb0
  ·simp only [eT3, tree_eta, need_F hl h0 _ hb0, Option.bind_some]
   exact endF a b hb0
theorem statR_ok (hl2 : l.length ≤ 400000) {ts : List Tk} (hg : Good ts) (hs : ts <:+ l) (hk : 64 * ts.length + 46 ≤ k) : Rel l GT eT3 (r12_reader_stat.g (RS.at k) k l (ix l ts) (-1) (hd ts).2.2.2) (vStat ts) := by
 unfold r12_reader_stat.g
 rw [vStat_eq hg]
 have hle := hs.length_le
 have hp := good_pos hg
 simp only [joinF, see_ok k hg hs, Option.bind_some]
 have same : ∀ {x : Option (Int × ByteArray × Int × Int × List Tree × Int × Int)} {v : PV Tree}, Rel l GT eT3 x v → Rel l GT eT3 (x.bind fun r108 => some (r108.1, r108.2.1, r108.2.2.1, r108.2.2.2.1, r108.2.2.2.2.1, r108.2.2.2.2.2.1, r108.2.2.2.2.2.2)) v := fun {x v} hx => by
  have e : (x.bind fun r108 => some (r108.1, r108.2.1, r108.2.2.1, r108.2.2.2.1, r108.2.2.2.2.1, r108.2.2.2.2.2.1, r108.2.2.2.2.2.2)) = x := by cases x <;> rfl
  rw [e]; exact hx
 refine rel_if (bool_dec _) (fun hc => ?_) fun h1 => ?_
 ·refine rel_bind (ih.body ts hg hs hk) (fBody hg) (fun x r _ _ _ _ => ?_) fun a b hb0 _ => ?_
  ·simp only [eT3, tree_eta]; rfl
  ·exact ⟨.mk _ _ _ _ _, trivial, rfl⟩
 simp only [take_ok hl k hg hs, Option.bind_some]
 refine rel_if (bool_dec _) (fun hc => ?_) fun h2 => ?_
 ·simp only [hc, if_true]
  obtain ⟨g1, g2, g3⟩ := hg.tail (isH_ne hc)
  have gs := g3.trans hs
  refine rel_bind (fexpR_ok hl ha h0 k g1 gs (by omega)) (fExp (by omega) g1) (fun x r _ hr hrs hrn => ?_) fun a b hb0 _ => ?_
  ·simp only [eT3, tree_eta]
   refine rel_bind (ih.body r hr (hrs.trans gs) (by omega)) (fBody hr) (fun y s _ _ _ _ => ?_) fun a b hb0 _ => ?_
   ·simp only [eT3, tree_eta]; rfl
   ·exact ⟨.mk _ _ _ _ _, trivial, rfl⟩
  ·obtain ⟨n, hn⟩ := ih.bodyF b hb0 (by omega)
   simp only [eT3, hn, Option.bind_some]
   exact ⟨.mk _ _ _ _ _, trivial, rfl⟩
 simp only [if_neg h2, take_ok hl k hg hs, Option.bind_some]
 refine rel_if (bool_dec _) (fun hc => ?_) fun h3 => ?_
 ·simp only [hc, if_true]
  obtain ⟨g1, g2, g3⟩ := hg.tail (isH_ne hc)
  refine ifL_ok hl ha h0 ih _ (fun l => .mk 24 noB 0 (hd ts).2.2.2 l) (fun a r hr hrl hk2 ha2 => ?_) (fun a b hb0 ha2 => ?_) k [] _ g1 (g3.trans hs) (by omega) (by simp only [List.length_nil]; omega) (by omega)
  ·rw [take_ok hl k hr hrl]
   simp only [Option.bind_some]
   by_cases hE : isH kElse r = true
   ·rw [if_pos hE, show isH (⟨#[101, 108, 115, 101]⟩ : ByteArray) r = true from hE]
    simp only [cond_true, if_true, then_assoc]
    obtain ⟨g4, g5, g6⟩ := hr.tail (isH_ne hE)
    have gs4 := g6.trans hrl
    refine rel_bind (ih.block false _ g4 gs4 (by omega)) (fBlock false g4) (fun c r3 _ hr3 hrs3 hn3 => ?_) fun c b hb0 _ => ?_
    ·simp only [eT3, tree_eta]
     rw [apd_ok' (by simp only [List.length_cons, List.length_nil]; omega)]
     simp only [Option.bind_some]
     exact rel_bind (need_ok hl ha _ hr3 (hrs3.trans gs4) _) (fWant _ hr3) (fun _ _ _ _ _ _ => rfl) fun _ b hb0 _ => ⟨.mk _ _ _ _ _, trivial, rfl⟩
    ·simp only [eT3, tree_eta]
     rw [apd_ok' (by simp only [List.length_cons, List.length_nil]; omega)]
     simp only [Option.bind_some, need_F hl h0 _ hb0]
     exact ⟨.mk _ _ _ _ _, trivial, rfl⟩
   ·rw [if_neg hE, show isH (⟨#[101, 108, 115, 101]⟩ : ByteArray) r = false from by simpa using hE]
    simp only [cond_false, Bool.false_eq_true, if_false, then_assoc]
    exact rel_bind (need_ok hl ha _ hr hrl _) (fWant _ hr) (fun _ _ _ _ _ _ => rfl) fun _ b hb0 _ => ⟨.mk _ _ _ _ _, trivial, rfl⟩
  ·simp only [take_F hl h0 _ hb0, Option.bind_some, cond_false, need_F hl h0 _ hb0]
   exact ⟨.mk _ _ _ _ _, trivial, rfl⟩
 simp only [if_neg h3, take_ok hl k hg hs, Option.bind_some]
 refine rel_if (bool_dec _) (fun hc => ?_) fun h4 => ?_
 ·simp only [hc, if_true]
  obtain ⟨g1, g2, g3⟩ := hg.tail (isH_ne hc)
  exact same (ih.loop _ _ g1 (g3.trans hs) (by omega))
 simp only [if_neg h4, take_ok hl k hg hs, Option.bind_some]
 refine rel_if (bool_dec _) (fun hc => ?_) fun h5 => ?_
 ·simp only [hc, if_true]
  obtain ⟨g1, g2, g3⟩ := hg.tail (isH_ne hc)
  have gs := g3.trans hs
  refine rel_bind (namesR_ok hl ha h0 k g1 gs (by omega)) (fNames g1) (fun xs r hv hr hrs hrn => ?_) fun a b hb0 hga => ?_
  ·have hln := len_names g1 hv
   have hrl := hrs.trans gs
   simp only [eL3]
   rw [take_ok hl k hr hrl]
   unfold vInit
   simp only [Option.bind_some]
   by_cases hE : isH kEq r = true
   ·rw [if_pos hE, show isH (⟨#[61]⟩ : ByteArray) r = true from hE]
    simp only [cond_true, if_true]
    obtain ⟨g4, g5, g6⟩ := hr.tail (isH_ne hE)
    refine rel_bind (flistR_ok hl ha h0 k g4 (g6.trans hrl) (by omega)) (fExps g4) (fun es s hv2 hs2 hss2 hn2 => ?_) fun c b hb0 hga => ?_
    ·have hln2 := len_exps g4 hv2
     simp only [eL3]
     rw [apd_ok' (by omega)]
     rfl
    ·unfold GL at hga
     simp only [eL3]
     rw [apd_ok' (by omega)]
     exact ⟨.mk _ _ _ _ _, trivial, rfl⟩
   ·rw [if_neg hE, show isH (⟨#[61]⟩ : ByteArray) r = false from by simpa using hE]
    simp only [cond_false, Bool.false_eq_true, if_false, PV.then, List.append_nil]
    rfl
  ·simp only [eL3, take_F hl h0 _ hb0, Option.bind_some, cond_false]
   exact ⟨.mk _ _ _ _ _, trivial, rfl⟩
 simp only [if_neg h5, take_ok hl k hg hs, Option.bind_some]
 refine rel_if (bool_dec _) (fun hc => ?_) fun h6 => ?_
 ·simp only [hc, if_true]
  rfl
 simp only [if_neg h6]
 exact same (ih.plain _ hg hs (by omega))
end
theorem bS {l : List Tk} (hl : l.length ≤ 400000) (ha : AtOk l) (h0 : l ≠ []) : ∀ k, BS l k
 | 0 => by constructor <;> intros <;> omega
 | k + 1 => by
  have ih := bS hl ha h0 k
  have h1 : l.length ≤ 1000000 := by omega
  exact ⟨fun c ts hg hs h => blockR_ok h1 ha h0 ih c hg hs (by omega), fun c b hb h => blockR_F h1 h0 k (by omega) _ c b hb, fun ts hg hs h => statR_ok h1 ha h0 ih hl hg hs (by omega), fun at_ ts hg hs h => forR_ok h1 ha h0 ih at_ hg hs (by omega), fun ts hg hs h => plainR_ok h1 ha h0 k hg hs (by omega), fun ts hg hs h => bodyR_ok h1 ha h0 ih hg hs (by omega), fun b hb h => bodyR_F h1 ha h0 ih b hb (by omega)⟩
theorem fblockR_ok {l : List Tk} (hl : l.length ≤ 400000) (ha : AtOk l) (h0 : l ≠ []) (k : Nat) (c : Bool) {ts : List Tk} (hg : Good ts) (hs : ts <:+ l) (hk : 64 * ts.length + 49 ≤ k) : Rel l GT eT3 (r12_reader_block.f k l (ix l ts) (-1) c) (vBlock c ts) := blockR_ok (by omega) ha h0 (bS hl ha h0 k) c hg hs hk
end Go.Proofs.YtidiahkobapnjaaGreatDoor
namespace Go.Proofs.YtidiahkobapnjaaGreatDoor
open Go Go.RowKit Lx
namespace Lx
def lenR (r : Nat) : Nat := if r < 128 then 1 else if r < 2048 then 2 else if r < 65536 then 3 else 4
theorem letterR_iff (r : Nat) : letterR r = decide (97 ≤ r ∧ r ≤ 122 ∨ 65 ≤ r ∧ r ≤ 90 ∨ r = 95 ∨ (128 ≤ r ∧ r ≤ 1114111 ∧ r ≠ 65533 ∧ Utf8.valid (r : Int) = true)) := by
 unfold letterR
 generalize Utf8.valid (r : Int) = v
 rw [Bool.eq_iff_iff]
 cases v <;> simp only [decide_eq_true_eq, Bool.or_eq_true, Bool.and_eq_true, beq_iff_eq, bne_iff_ne, Bool.false_eq_true, and_false, or_false, and_true, ne_eq] <;> omega
theorem valid_top (r : Nat) (h : 1114111 < r) : Utf8.valid (r : Int) = false := by
 unfold Utf8.valid
 simp
 omega
def stepsR : Nat → Nat → Bs → Option Nat
 | 0, r, _ => some r
 | _ + 1, _, [] => none
 | k + 1, r, b :: t => if 128 ≤ b.toNat ∧ b.toNat < 192 then stepsR k (r * 64 + b.toNat - 128) t else none
theorem stepsR_short : ∀ (k r : Nat) (t : Bs), t.length < k → stepsR k r t = none
 | 0, _, _, h => by omega
 | k + 1, r, [], _ => rfl
 | k + 1, r, b :: t, h => by
  simp only [stepsR]
  split
  ·exact stepsR_short k _ t (by simpa using h)
  ·rfl
def endR (n : Nat) (x : Option Nat) : Nat × Nat := match x with | none => (65533, 1) | some r => if Utf8.valid r = true ∧ lenR r = n then (r, n) else (65533, 1)
theorem valid_low (r : Nat) (h : r < 55296) : Utf8.valid (r : Int) = true := by
 unfold Utf8.valid
 simp
 omega
theorem cont_iff (c : UInt8) : (c.toNat / 64 == 2) = decide (128 ≤ c.toNat ∧ c.toNat < 192) := by
 rw [Bool.eq_iff_iff]
 simp
 omega
theorem end1 (b : UInt8) (t : Bs) (h : b.toNat < 128) : endR 1 (stepsR 0 b.toNat t) = decL (b :: t) := by
 rw [decL_low b t h]
 simp only [stepsR, endR]
 rw [if_pos ⟨valid_low _ (by omega), if_pos h⟩]
theorem end2 (b : UInt8) (t : Bs) (h1 : 192 ≤ b.toNat) (h2 : b.toNat < 224) : endR 2 (stepsR 1 (b.toNat - 192) t) = decL (b :: t) := by
 have a0 : ¬ b.toNat < 128 := by omega
 have a1 : (b.toNat / 32 == 6) = true := by rw [beq_iff_eq]; omega
 have a2 : (b.toNat / 16 == 14) = false := by rw [beq_eq_false_iff_ne]; omega
 have a3 : (b.toNat / 8 == 30) = false := by rw [beq_eq_false_iff_ne]; omega
 cases t with
 | nil => simp [decL, stepsR, endR, a0, a1, a2, a3]
 | cons c t =>
  by_cases hc : 128 ≤ c.toNat ∧ c.toNat < 192
  ·have ev : (b.toNat - 192) * 64 + c.toNat - 128 = b.toNat % 32 * 64 + c.toNat % 64 := by omega
   simp only [stepsR, if_pos hc, endR]
   rw [ev]
   have hv : Utf8.valid ((b.toNat % 32 * 64 + c.toNat % 64 : Nat) : Int) = true := valid_low _ (by omega)
   have hl : lenR (b.toNat % 32 * 64 + c.toNat % 64) = 2 ↔ 128 ≤ b.toNat % 32 * 64 + c.toNat % 64 := by
    unfold lenR
    (repeat' split) <;> omega
   simp only [decL, List.getD_cons_zero, List.getD_cons_succ, List.length_cons, cont_iff, a0, a1, hc, hv, hl]
   simp
  ·simp [decL, stepsR, endR, a0, a1, a2, a3, cont_iff, hc]
theorem end3 (b : UInt8) (t : Bs) (h1 : 224 ≤ b.toNat) (h2 : b.toNat < 240) : endR 3 (stepsR 2 (b.toNat - 224) t) = decL (b :: t) := by
 have a0 : ¬ b.toNat < 128 := by omega
 have a1 : (b.toNat / 32 == 6) = false := by rw [beq_eq_false_iff_ne]; omega
 have a2 : (b.toNat / 16 == 14) = true := by rw [beq_iff_eq]; omega
 have a3 : (b.toNat / 8 == 30) = false := by rw [beq_eq_false_iff_ne]; omega
 match t with
 | [] => simp [decL, stepsR, endR, a0, a1, a2, a3]
 | [c] =>
  by_cases hc : 128 ≤ c.toNat ∧ c.toNat < 192 <;> simp [decL, stepsR, endR, a0, a1, a2, a3, cont_iff, hc]
 | c :: d :: t =>
  by_cases hc : 128 ≤ c.toNat ∧ c.toNat < 192
  ·by_cases hd : 128 ≤ d.toNat ∧ d.toNat < 192
   ·have ev : ((b.toNat - 224) * 64 + c.toNat - 128) * 64 + d.toNat - 128 = b.toNat % 16 * 4096 + c.toNat % 64 * 64 + d.toNat % 64 := by omega
    simp only [stepsR, if_pos hc, if_pos hd, endR]
    rw [ev]
    have hl : lenR (b.toNat % 16 * 4096 + c.toNat % 64 * 64 + d.toNat % 64) = 3 ↔ 2048 ≤ b.toNat % 16 * 4096 + c.toNat % 64 * 64 + d.toNat % 64 := by
     unfold lenR
     (repeat' split) <;> omega
    simp only [decL, List.getD_cons_zero, List.getD_cons_succ, List.length_cons, cont_iff, a0, a1, a2, hc, hd, hl]
    simp [and_comm]
   ·simp [decL, stepsR, endR, a0, a1, a2, a3, cont_iff, hc, hd]
  ·simp [decL, stepsR, endR, a0, a1, a2, a3, cont_iff, hc]
theorem end4 (b : UInt8) (t : Bs) (h1 : 240 ≤ b.toNat) (h2 : b.toNat < 248) : endR 4 (stepsR 3 (b.toNat - 240) t) = decL (b :: t) := by
 have a0 : ¬ b.toNat < 128 := by omega
 have a1 : (b.toNat / 32 == 6) = false := by rw [beq_eq_false_iff_ne]; omega
 have a2 : (b.toNat / 16 == 14) = false := by rw [beq_eq_false_iff_ne]; omega
 have a3 : (b.toNat / 8 == 30) = true := by rw [beq_iff_eq]; omega
 match t with
 | [] => simp [decL, stepsR, endR, a0, a1, a2, a3]
 | [c] =>
  by_cases hc : 128 ≤ c.toNat ∧ c.toNat < 192 <;> simp [decL, stepsR, endR, a0, a1, a2, a3, cont_iff, hc]
 | [c, d] =>
  by_cases hc : 128 ≤ c.toNat ∧ c.toNat < 192 <;> by_cases hd : 128 ≤ d.toNat ∧ d.toNat < 192 <;> simp [decL, stepsR, endR, a0, a1, a2, a3, cont_iff, hc, hd]
 | c :: d :: e :: t =>
  by_cases hc : 128 ≤ c.toNat ∧ c.toNat < 192
  ·by_cases hd : 128 ≤ d.toNat ∧ d.toNat < 192
   ·by_cases he : 128 ≤ e.toNat ∧ e.toNat < 192
    ·have ev : (((b.toNat - 240) * 64 + c.toNat - 128) * 64 + d.toNat - 128) * 64 + e.toNat - 128 = b.toNat % 8 * 262144 + c.toNat % 64 * 4096 + d.toNat % 64 * 64 + e.toNat % 64 := by omega
     simp only [stepsR, if_pos hc, if_pos hd, if_pos he, endR]
     rw [ev]
     have hl : lenR (b.toNat % 8 * 262144 + c.toNat % 64 * 4096 + d.toNat % 64 * 64 + e.toNat % 64) = 4 ↔ 65536 ≤ b.toNat % 8 * 262144 + c.toNat % 64 * 4096 + d.toNat % 64 * 64 + e.toNat % 64 := by
      unfold lenR
      (repeat' split) <;> omega
     simp only [decL, List.getD_cons_zero, List.getD_cons_succ, List.length_cons, cont_iff, a0, a1, a2, a3, hc, hd, he, hl]
     simp [and_comm]
    ·simp [decL, stepsR, endR, a0, a1, a2, a3, cont_iff, hc, hd, he]
   ·simp [decL, stepsR, endR, a0, a1, a2, a3, cont_iff, hc, hd]
  ·simp [decL, stepsR, endR, a0, a1, a2, a3, cont_iff, hc]
theorem end_bad (b : UInt8) (t : Bs) (h0 : 128 ≤ b.toNat) (h : b.toNat < 192 ∨ 248 ≤ b.toNat) : decL (b :: t) = (65533, 1) := by
 have a0 : ¬ b.toNat < 128 := by omega
 have a1 : (b.toNat / 32 == 6) = false := by rw [beq_eq_false_iff_ne]; have := b.toNat_lt; omega
 have a2 : (b.toNat / 16 == 14) = false := by rw [beq_eq_false_iff_ne]; omega
 have a3 : (b.toNat / 8 == 30) = false := by rw [beq_eq_false_iff_ne]; omega
 simp [decL, a0, a1, a2, a3]
end Lx
end Go.Proofs.YtidiahkobapnjaaGreatDoor
namespace Go.Proofs.YtidiahkobapnjaaGreatDoor
open Go Go.RowKit Lx
def Evt {α : Type} (g : Nat → Option α) (r : α) : Prop := ∃ K, ∀ k, K ≤ k → g k = some r
theorem Evt.bind {α β : Type} {g : Nat → Option α} {f : Nat → α → Option β} {a : α} {r : β} (h1 : Evt g a) (h2 : Evt (fun k => f k a) r) : Evt (fun k => (g k).bind (f k)) r := by
 obtain ⟨K1, h1⟩ := h1
 obtain ⟨K2, h2⟩ := h2
 exact ⟨max K1 K2, fun k hk => by show (g k).bind (f k) = some r; rw [h1 k (by omega)]; exact h2 k (by omega)⟩
theorem wi (x : Int) (h0 : -9223372036854775808 ≤ x) (h1 : x ≤ 9223372036854775807) : IntKind.i64.wrap x = x := by unfold IntKind.wrap; simp [IntKind.bits, IntKind.signed]; omega
theorem wb (c : UInt8) : IntKind.i64.wrap (c.toNat : Int) = c.toNat := wi _ (by omega) (by have := c.toNat_lt; omega)
theorem cond_dec {α : Type} (p : Prop) [Decidable p] (a b : α) : cond (decide p) a b = if p then a else b := Bool.cond_decide p a b
theorem cond_beq {α : Type} (x y : Int) (a b : α) : cond (x == y) a b = if x = y then a else b := by rw [← cond_dec]; rfl
theorem cond_bne {α : Type} (x y : Int) (a b : α) : cond (x != y) a b = if x = y then b else a := by
 by_cases h : x = y
 ·subst h; simp
 ·rw [if_neg h, show (x != y) = true from bne_iff_ne.2 h]; rfl
theorem sIdx_nat (s : ByteArray) (i : Nat) : sIdx s (i : Int) = (bs s)[i]? := by
 unfold sIdx
 rw [if_pos (by omega), Int.toNat_natCast]
 simp only [bs]
 rcases Nat.lt_or_ge i s.size with h | h
 ·rw [getElem?_pos s i h, List.getElem?_eq_getElem (by simpa using h)]
  rfl
 ·rw [getElem?_neg s i (by omega), List.getElem?_eq_none (by simpa using h)]
theorem sIdx_head (s : ByteArray) (i : Nat) : sIdx s (i : Int) = ((bs s).drop i).head? := by rw [sIdx_nat, List.head?_drop]
theorem good_eq (k : Nat) (r : Nat) : r01_good.f k (r : Int) = some (Utf8.valid (r : Int)) := by
 have hv : Utf8.valid (r : Int) = decide (r < 55296 ∨ (57343 < r ∧ r ≤ 1114111)) := by
  unfold Utf8.valid
  rw [Bool.eq_iff_iff]
  simp
  omega
 unfold r01_good.f
 simp only [cond_dec]
 rw [hv]
 rw [if_pos (by omega)]
 by_cases h1 : (r : Int) ≤ 1114111
 ·rw [if_pos h1]
  by_cases h2 : (r : Int) < 55296
  ·rw [if_pos h2]
   simp only [Option.bind_some, Option.some.injEq, Bool.true_eq, decide_eq_true_eq]
   omega
  ·rw [if_neg h2]
   simp only [Option.bind_some, Option.some.injEq, decide_eq_decide]
   omega
 ·rw [if_neg h1]
  simp only [Option.bind_some, Option.some.injEq, Bool.false_eq, decide_eq_false_iff_not]
  omega
theorem bytes_eq (k : Nat) (r : Nat) : r01_bytes.f k (r : Int) = some ((lenR r : Nat) : Int) := by
 unfold r01_bytes.f joinF lenR
 simp only [cond_dec, wi 2 (by omega) (by omega), show (1 : Int) + 1 = 2 from rfl, show (2 : Int) + 1 = 3 from rfl, show (3 : Int) + 1 = 4 from rfl]
 by_cases h1 : r < 128
 ·simp [show ¬ (r : Int) ≥ 128 by omega, show ¬ (r : Int) ≥ 2048 by omega, show ¬ (r : Int) ≥ 65536 by omega, h1]
 by_cases h2 : r < 2048
 ·simp [show (r : Int) ≥ 128 by omega, show ¬ (r : Int) ≥ 2048 by omega, show ¬ (r : Int) ≥ 65536 by omega, h1, h2]
 by_cases h3 : r < 65536
 ·simp [show (r : Int) ≥ 128 by omega, show (r : Int) ≥ 2048 by omega, show ¬ (r : Int) ≥ 65536 by omega, h1, h2, h3, wi 3 (by omega) (by omega)]
 ·simp [show (r : Int) ≥ 128 by omega, show (r : Int) ≥ 2048 by omega, show (r : Int) ≥ 65536 by omega, h1, h2, h3, wi 3 (by omega) (by omega), wi 4 (by omega) (by omega)]
theorem rdigit_eq (k : Nat) (r : Nat) : r01_Digit.f k (r : Int) = some (digitR r) := by
 unfold r01_Digit.f digitR
 simp only [cond_dec]
 by_cases h : (r : Int) ≥ 48
 ·rw [if_pos h]
  simp only [Option.bind_some, Option.some.injEq]
  rw [Bool.eq_iff_iff]; simp; omega
 ·rw [if_neg h]
  simp only [Option.bind_some, Option.some.injEq]
  rw [Bool.eq_iff_iff]; simp; omega
theorem rletter_eq (k : Nat) (r : Nat) : r01_Letter.f k (r : Int) = some (letterR r) := by
 have hv := valid_top r
 unfold r01_Letter.f
 simp only [cond_dec, cond_beq, cond_bne, good_eq, Option.bind_some]
 rw [letterR_iff]
 generalize Utf8.valid (r : Int) = v at *
 cases v
 ·(repeat' split) <;> simp <;> omega
 ·have hv : r ≤ 1114111 := by
   rcases Nat.lt_or_ge 1114111 r with h | h
   ·cases hv h
   ·exact h
  (repeat' split) <;> simp <;> omega
theorem at_loop (s : ByteArray) (at_ n : Nat) (hs : s.size ≤ 2000000) (hn : n ≤ 4) (hn1 : 1 ≤ n) (J : Int → Option (Int × Int × Int)) : ∀ (d i r k : Nat), d = n - i → 1 ≤ i → i ≤ n → at_ < s.size → r < 64 ^ i * 2 → d < k →
  r01_At.l0 k s (at_ : Int) (n : Int) J (r : Int) (i : Int) = match stepsR d r ((bs s).drop (at_ + i)) with | none => some ((at_ : Int), 1, 65533) | some r' => J (r' : Int)
 | 0, i, r, k, hd, h1, h2, ha, hr, hk => by
  obtain ⟨k, rfl⟩ : ∃ m, k = m + 1 := ⟨k - 1, by omega⟩
  have : i = n := by omega
  subst this
  simp only [r01_At.l0, cond_dec, stepsR]
  rw [if_neg (by omega)]
 | d + 1, i, r, k, hd, h1, h2, ha, hr, hk => by
  obtain ⟨k, rfl⟩ : ∃ m, k = m + 1 := ⟨k - 1, by omega⟩
  have hlt : (i : Int) < n := by omega
  have hr4 : r < 33554432 := by
   have : 64 ^ i ≤ 64 ^ 4 := Nat.pow_le_pow_right (by omega) (by omega)
   omega
  simp only [r01_At.l0, cond_dec]
  rw [if_pos hlt, wi ((s.size : Int) - at_) (by omega) (by omega), wi ((at_ : Int) + i) (by omega) (by omega)]
  by_cases hsh : s.size < at_ + n
  ·rw [if_pos (by omega)]
   simp only [Option.bind_some, cond_true]
   rw [stepsR_short _ _ _ (by rw [List.length_drop, bs_length]; omega)]
  ·rw [if_neg (by omega)]
   have hai : at_ + i < (bs s).length := by rw [bs_length]; omega
   have hc : sIdx s ((at_ : Int) + i) = some (bs s)[at_ + i] := by rw [show (at_ : Int) + i = ((at_ + i : Nat) : Int) by omega, sIdx_nat, List.getElem?_eq_getElem hai]
   rw [hc]
   simp only [Option.bind_some]
   have hdr : (bs s).drop (at_ + i) = (bs s)[at_ + i] :: (bs s).drop (at_ + (i + 1)) := by rw [← Nat.add_assoc]; exact List.drop_eq_getElem_cons hai
   rw [hdr]
   generalize (bs s)[at_ + i] = c
   have hcl := c.toNat_lt
   by_cases hc1 : c.toNat < 128
   ·rw [if_pos (by omega)]
    simp only [Option.bind_some, cond_true, stepsR]
    rw [if_neg (by omega)]
   ·rw [if_neg (by omega)]
    simp only [Option.bind_some, cond_dec, stepsR]
    by_cases hc2 : c.toNat < 192
    ·rw [if_neg (by omega), if_pos (by omega), wb, wi ((r : Int) * 64) (by omega) (by omega), wi ((r : Int) * 64 + (c.toNat : Int)) (by omega) (by omega), wi ((r : Int) * 64 + (c.toNat : Int) - 128) (by omega) (by omega), wi ((i : Int) + 1) (by omega) (by omega)]
     have hpw := Nat.pow_succ 64 i
     have := at_loop s at_ n hs hn hn1 J d (i + 1) (r * 64 + c.toNat - 128) k (by omega) (by omega) (by omega) ha (by omega) (by omega)
     rw [← this]
     congr 1 <;> omega
    ·rw [if_pos (by omega), if_neg (by omega)]
set_option maxRecDepth 100000 in
theorem at_eqU (s : ByteArray) (at_ : Nat) (k : Nat) (hs : s.size ≤ 2000000) (ha : at_ < s.size) (hk : 4 < k) :
  r01_At.f k s (at_ : Int) = some ((at_ : Int), (((decL ((bs s).drop at_)).2 : Nat) : Int), (((decL ((bs s).drop at_)).1 : Nat) : Int)) := by
 have hal : at_ < (bs s).length := by rw [bs_length]; omega
 have hdr : (bs s).drop at_ = (bs s)[at_] :: (bs s).drop (at_ + 1) := List.drop_eq_getElem_cons hal
 have hc : sIdx s (at_ : Int) = some (bs s)[at_] := by rw [sIdx_nat, List.getElem?_eq_getElem hal]
 unfold r01_At.f joinF
 rw [hc, hdr]
 generalize (bs s)[at_] = c at hdr
 have hcl := c.toNat_lt
 have key : ∀ (n r0 : Nat), 1 ≤ n → n ≤ 4 → r0 < 128 → endR n (stepsR (n - 1) r0 ((bs s).drop (at_ + 1))) = decL (c :: (bs s).drop (at_ + 1)) →
   r01_At.l0 k s (at_ : Int) (n : Int) (fun x6 => (((r01_good.f k x6).bind fun r10 => cond (!r10) (some true) ((r01_bytes.f k x6).bind fun r12 => some (r12 != (n : Int)))) : Option Bool).bind fun q8 => cond q8 (some ((at_ : Int), (1 : Int), (65533 : Int))) (some ((at_ : Int), (n : Int), x6))) (r0 : Int) 1 =
    some ((at_ : Int), (((decL (c :: (bs s).drop (at_ + 1))).2 : Nat) : Int), (((decL (c :: (bs s).drop (at_ + 1))).1 : Nat) : Int)) := by
  intro n r0 h1 h2 h3 he
  have := at_loop s at_ n hs h2 h1 (fun x6 => (((r01_good.f k x6).bind fun r10 => cond (!r10) (some true) ((r01_bytes.f k x6).bind fun r12 => some (r12 != (n : Int)))) : Option Bool).bind fun q8 => cond q8 (some ((at_ : Int), (1 : Int), (65533 : Int))) (some ((at_ : Int), (n : Int), x6))) (n - 1) 1 r0 k rfl (Nat.le_refl _) h1 ha (by omega) (by omega)
  rw [show ((1 : Nat) : Int) = 1 from rfl] at this
  rw [this, ← he]
  cases hst : stepsR (n - 1) r0 ((bs s).drop (at_ + 1)) with
  | none => simp [endR]
  | some r =>
   simp only [good_eq, bytes_eq, Option.bind_some, endR]
   cases hv : Utf8.valid (r : Int) with
   | false => simp
   | true =>
    simp only [Bool.not_true, cond_false, Option.bind_some, cond_bne, true_and]
    by_cases hl : lenR r = n
    ·rw [if_pos (by omega), if_pos hl]
    ·rw [if_neg (by omega), if_neg hl]; rfl
 simp only [Option.bind_some, cond_dec, wb]
 by_cases h1 : c.toNat < 128
 ·rw [if_neg (by omega), if_neg (by omega), if_neg (by omega)]
  simp only [Option.bind_some, cond_false]
  rw [if_neg (by omega)]
  exact key 1 c.toNat (by omega) (by omega) h1 (end1 c _ h1)
 by_cases h2 : c.toNat < 192
 ·rw [if_neg (by omega), if_neg (by omega), if_neg (by omega)]
  simp only [Option.bind_some, cond_false]
  rw [if_pos (by omega), end_bad c _ (by omega) (.inl h2)]
  rfl
 by_cases h3 : c.toNat < 224
 ·rw [if_pos (by omega)]
  simp only [Option.bind_some, cond_dec]
  rw [if_pos (by omega), wi _ (by omega) (by omega)]
  have := key 2 (c.toNat - 192) (by omega) (by omega) (by omega) (end2 c _ (by omega) h3)
  rw [← this]
  congr 1
  omega
 rw [if_pos (by omega)]
 simp only [Option.bind_some, cond_dec]
 rw [if_neg (by omega)]
 by_cases h4 : c.toNat < 240
 ·rw [if_pos (by omega)]
  simp only [Option.bind_some, cond_dec]
  rw [if_pos (by omega), wi _ (by omega) (by omega)]
  have := key 3 (c.toNat - 224) (by omega) (by omega) (by omega) (end3 c _ (by omega) h4)
  rw [← this]
  congr 1
  omega
 rw [if_pos (by omega)]
 simp only [Option.bind_some, cond_dec]
 rw [if_neg (by omega), if_pos (by omega)]
 simp only [Option.bind_some, cond_dec]
 by_cases h5 : c.toNat < 248
 ·rw [if_pos (by omega), wi _ (by omega) (by omega)]
  have := key 4 (c.toNat - 240) (by omega) (by omega) (by omega) (end4 c _ (by omega) h5)
  rw [← this]
  congr 1
  omega
 ·rw [if_neg (by omega), if_pos (by omega), end_bad c _ (by omega) (.inr (by omega))]
  rfl
theorem at_eq (s : ByteArray) (at_ : Nat) (k : Nat) (hs : s.size ≤ 1000000) (ha : at_ < s.size) (hk : 4 < k) :
  r01_At.f k s (at_ : Int) = some ((at_ : Int), (((decL ((bs s).drop at_)).2 : Nat) : Int), (((decL ((bs s).drop at_)).1 : Nat) : Int)) := at_eqU s at_ k (Nat.le_trans hs (by decide)) ha hk
end Go.Proofs.YtidiahkobapnjaaGreatDoor
namespace Go.Proofs.YtidiahkobapnjaaGreatDoor
open Go Go.RowKit Lx
theorem chainJ {β : Type} (J : Bool → β) (b x : Bool) : cond b (J b) (J x) = J (b || x) := by cases b <;> rfl
theorem toL (s : ByteArray) : s.toList = bs s := Lib.toList_data s
theorem bs_mk (l : Bs) : bs (⟨l.toArray⟩ : ByteArray) = l := bs_str l
theorem names_loop (s : ByteArray) (hs : s.size ≤ 1000000) (J : Int → Option Int) : ∀ (d n k : Nat), s.size - n ≤ d → n ≤ s.size → d + 6 ≤ k →
  r11_names.l0 k s J (n : Int) = J ((n + runL partR ((bs s).drop n) : Nat) : Int)
 | d, n, k, hd, hn, hk => by
  obtain ⟨k, rfl⟩ : ∃ m, k = m + 1 := ⟨k - 1, by omega⟩
  simp only [r11_names.l0, cond_dec]
  by_cases h : n < s.size
  ·rw [if_pos (by omega), at_eq s n k hs h (by omega)]
   have hne : (bs s).drop n ≠ [] := by
    intro e
    have := congrArg List.length e
    rw [List.length_drop, bs_length, List.length_nil] at this
    omega
   have hw := decL_width ((bs s).drop n)
   have hw3 := hw.2.2 hne
   rw [List.length_drop, bs_length] at hw3
   simp only [Option.bind_some, rletter_eq, rdigit_eq]
   rw [runL_step partR _ hne]
   unfold partR
   generalize letterR (decL ((bs s).drop n)).1 = x
   generalize digitR (decL ((bs s).drop n)).1 = y
   have hgo : r11_names.l0 k s J (IntKind.i64.wrap ((n : Int) + ((decL ((bs s).drop n)).2 : Int))) = J ((n + ((decL ((bs s).drop n)).2 + runL partR (((bs s).drop n).drop (decL ((bs s).drop n)).2)) : Nat) : Int) := by
    cases d with
    | zero => omega
    | succ d =>
     rw [wi _ (by omega) (by omega), List.drop_drop, show (n : Int) + ((decL ((bs s).drop n)).2 : Int) = ((n + (decL ((bs s).drop n)).2 : Nat) : Int) by omega]
     rw [names_loop s hs J d (n + (decL ((bs s).drop n)).2) k (by omega) (by omega) (by omega)]
     congr 2
     omega
   cases x <;> cases y <;> simp only [Bool.not_true, Bool.not_false, cond_true, cond_false, Option.bind_some, Bool.or_true, Bool.or_false, Bool.true_or, Bool.false_or, Bool.false_eq_true, if_true, if_false, Nat.add_zero] <;> exact hgo
  ·rw [if_neg (by omega), List.drop_of_length_le (by rw [bs_length]; omega)]
   rfl
theorem names_eq (s : ByteArray) (hs : s.size ≤ 1000000) (at_ k : Nat) (h : at_ ≤ s.size) (hk : s.size + 6 ≤ k) : r11_names.f k s (at_ : Int) = some ((runL partR ((bs s).drop at_) : Nat) : Int) := by
 unfold r11_names.f joinF
 have hle := runL_le' partR ((bs s).drop at_)
 rw [List.length_drop, bs_length] at hle
 refine (names_loop s hs _ (s.size - at_) at_ k (Nat.le_refl _) h (by omega)).trans ?_
 rw [wi _ (by omega) (by omega)]
 congr 1
 omega
theorem contains_or (l w : Bs) (ws : List Bs) : (w :: ws).contains l = ((l == w) || ws.contains l) := by
 rw [List.contains_cons]
theorem isWord_eq (k : Nat) (s : ByteArray) : r11_IsWord.f k s = some (isWordF (bs s)) := by
 unfold r11_IsWord.f
 generalize hJ : (fun (x1 : Bool) => cond x1 (some true) (some false)) = J
 unfold joinF
 simp only [chainJ, toL]
 subst hJ
 have e : ∀ l : Bs, bs (⟨l.toArray⟩ : ByteArray) = l := bs_mk
 simp only [e]
 unfold isWordF wordList
 simp only [contains_or, List.contains_nil, Bool.or_false]
 generalize (_ || _ : Bool) = x
 cases x <;> rfl
theorem sSub_str (s : ByteArray) (a b : Nat) (h1 : a ≤ b) (h2 : b ≤ s.size) : sSub s (a : Int) (b : Int) = some (str (((bs s).drop a).take (b - a))) := by
 unfold sSub
 rw [cond_dec, if_pos ⟨by omega, by omega, by omega⟩]
 congr 1
 apply bs_inj
 rw [bs_str, bs_extract]
 simp
def sgn2 : List Bs := [[61, 61], [126, 61], [60, 61], [62, 61], [47, 47], [46, 46]]
def sgn1 : Bs := [43, 45, 42, 37, 60, 62, 61, 35, 40, 41, 123, 125, 91, 93, 59, 44, 46]
theorem signList_eq : signList = sgn2 ++ sgn1.map (fun c => [c]) := rfl
theorem find_two (l : Bs) : ∀ ws : List Bs, (∀ s ∈ ws, s.length = 2) → ws.find? (fun s => s.isPrefixOf l) = if ws.contains (l.take 2) then some (l.take 2) else none
 | [], _ => rfl
 | w :: ws, h => by
  have hw := h w (List.mem_cons_self ..)
  rw [List.find?_cons, find_two l ws fun s hs => h s (List.mem_cons_of_mem _ hs), contains_or]
  have e : w.isPrefixOf l = (l.take 2 == w) := by
   rw [Bool.eq_iff_iff, List.isPrefixOf_iff_prefix, beq_iff_eq, List.prefix_iff_eq_take, hw]
   exact eq_comm
  rw [e]
  cases hc : (l.take 2 == w) with
  | true => rw [← beq_iff_eq.1 hc]; simp
  | false => simp
theorem find_one (c : UInt8) (t : Bs) : ∀ ws : Bs, (ws.map fun c => [c]).find? (fun s => s.isPrefixOf (c :: t)) = if ws.contains c then some [c] else none
 | [] => rfl
 | w :: ws => by
  rw [List.map_cons, List.find?_cons, find_one c t ws, List.contains_cons]
  have e : ([w].isPrefixOf (c :: t)) = (c == w) := by
   show ((w == c) && true) = _
   rw [Bool.and_true, Bool.eq_iff_iff, beq_iff_eq, beq_iff_eq]
   exact eq_comm
  rw [e]
  cases hc : (c == w) with
  | true => rw [beq_iff_eq.1 hc]; simp
  | false => simp
theorem signF_eq (c : UInt8) (t : Bs) : signF (c :: t) = if sgn2.contains ((c :: t).take 2) then some ((c :: t).take 2) else if sgn1.contains c then some [c] else none := by
 unfold signF
 rw [signList_eq, List.find?_append, find_two _ _ (by decide), find_one]
 split <;> rfl
theorem beq_byte (c d : UInt8) : ((c.toNat : Int) == (d.toNat : Int)) = (c == d) := by
 rw [Bool.eq_iff_iff, beq_iff_eq, beq_iff_eq, ← UInt8.toNat_inj]
 omega
def sgnR (l : Bs) : Bs := match signF l with | none => [] | some t => t
set_option maxRecDepth 20000 in
theorem sign_eq (k : Nat) (s : ByteArray) (at_ : Nat) (hs : s.size ≤ 1000000) (h : at_ < s.size) : r11_sign.f k s (at_ : Int) = some (str (sgnR ((bs s).drop at_))) := by
 have hal : at_ < (bs s).length := by rw [bs_length]; omega
 have hdr : (bs s).drop at_ = (bs s)[at_] :: (bs s).drop (at_ + 1) := List.drop_eq_getElem_cons hal
 have hc : sIdx s (at_ : Int) = some (bs s)[at_] := by rw [sIdx_nat, List.getElem?_eq_getElem hal]
 have e1 : IntKind.i64.wrap ((at_ : Int) + 1) = ((at_ + 1 : Nat) : Int) := by rw [wi _ (by omega) (by omega)]; omega
 have e2 : IntKind.i64.wrap ((at_ : Int) + 2) = ((at_ + 2 : Nat) : Int) := by rw [wi _ (by omega) (by omega)]; omega
 have e3 : IntKind.i64.wrap ((s.size : Int) - 1) = (s.size : Int) - 1 := wi _ (by omega) (by omega)
 have hlenT : ((bs s).drop (at_ + 1)).length = s.size - (at_ + 1) := by rw [List.length_drop, bs_length]
 have h1 : sSub s (at_ : Int) ((at_ + 1 : Nat) : Int) = some (str [(bs s)[at_]]) := by
  rw [sSub_str s at_ (at_ + 1) (by omega) (by omega), hdr, show at_ + 1 - at_ = 1 by omega]; rfl
 unfold r11_sign.f
 rw [e1, e2, e3, hc, h1]
 unfold sgnR
 rw [hdr, signF_eq]
 generalize (bs s)[at_] = c at *
 have key : ∀ b : Bool, b = sgn1.contains c → (joinF (fun (x3 : Bool) => cond x3 ((some (str [c])).bind fun s6 : ByteArray => some (s6)) (some ((⟨#[]⟩ : ByteArray)))) (fun J4 => J4 b) : Option ByteArray) = some (str (match (if sgn1.contains c then some [c] else none) with | none => [] | some t => t)) := by
  intro b hb
  rw [← hb]
  cases b <;> rfl
 have one : ∀ (J4 : Bool → Option ByteArray), (cond ((c.toNat : Int) == (43 : Int)) (J4 ((c.toNat : Int) == (43 : Int))) (cond ((c.toNat : Int) == (45 : Int)) (J4 ((c.toNat : Int) == (45 : Int))) (cond ((c.toNat : Int) == (42 : Int)) (J4 ((c.toNat : Int) == (42 : Int))) (cond ((c.toNat : Int) == (37 : Int)) (J4 ((c.toNat : Int) == (37 : Int))) (cond ((c.toNat : Int) == (60 : Int)) (J4 ((c.toNat : Int) == (60 : Int))) (cond ((c.toNat : Int) == (62 : Int)) (J4 ((c.toNat : Int) == (62 : Int))) (cond ((c.toNat : Int) == (61 : Int)) (J4 ((c.toNat : Int) == (61 : Int))) (cond ((c.toNat : Int) == (35 : Int)) (J4 ((c.toNat : Int) == (35 : Int))) (cond ((c.toNat : Int) == (40 : Int)) (J4 ((c.toNat : Int) == (40 : Int))) (cond ((c.toNat : Int) == (41 : Int)) (J4 ((c.toNat : Int) == (41 : Int))) (cond ((c.toNat : Int) == (123 : Int)) (J4 ((c.toNat : Int) == (123 : Int))) (cond ((c.toNat : Int) == (125 : Int)) (J4 ((c.toNat : Int) == (125 : Int))) (cond ((c.toNat : Int) == (91 : Int)) (J4 ((c.toNat : Int) == (91 : Int))) (cond ((c.toNat : Int) == (93 : Int)) (J4 ((c.toNat : Int) == (93 : Int))) (cond ((c.toNat : Int) == (59 : Int)) (J4 ((c.toNat : Int) == (59 : Int))) (cond ((c.toNat : Int) == (44 : Int)) (J4 ((c.toNat : Int) == (44 : Int))) (J4 ((c.toNat : Int) == (46 : Int))))))))))))))))))) = J4 (sgn1.contains c) := by
  intro J4
  simp only [chainJ]
  congr 1
  unfold sgn1
  simp only [List.contains_cons, List.contains_nil, Bool.or_false]
  have e := fun d => beq_byte c d
  simp only [← e]
  rfl
 unfold joinF
 simp only [Option.bind_some]
 simp only [cond_dec]
 by_cases h2 : at_ + 1 < s.size
 ·obtain ⟨d, t, ht⟩ : ∃ d t, (bs s).drop (at_ + 1) = d :: t := by
   cases hq : (bs s).drop (at_ + 1) with
   | nil => rw [hq] at hlenT; simp at hlenT; omega
   | cons d t => exact ⟨d, t, rfl⟩
  have hs2 : sSub s (at_ : Int) ((at_ + 2 : Nat) : Int) = some (str [c, d]) := by
   rw [sSub_str s at_ (at_ + 2) (by omega) (by omega), hdr, ht, show at_ + 2 - at_ = 2 by omega]; rfl
  rw [if_pos (by omega), hs2, ht]
  simp only [Option.bind_some]
  have two : ∀ (J26 : Bool → Option ByteArray), (cond ((str [c, d]).toList == (⟨#[61, 61]⟩ : ByteArray).toList) (J26 ((str [c, d]).toList == (⟨#[61, 61]⟩ : ByteArray).toList)) (cond ((str [c, d]).toList == (⟨#[126, 61]⟩ : ByteArray).toList) (J26 ((str [c, d]).toList == (⟨#[126, 61]⟩ : ByteArray).toList)) (cond ((str [c, d]).toList == (⟨#[60, 61]⟩ : ByteArray).toList) (J26 ((str [c, d]).toList == (⟨#[60, 61]⟩ : ByteArray).toList)) (cond ((str [c, d]).toList == (⟨#[62, 61]⟩ : ByteArray).toList) (J26 ((str [c, d]).toList == (⟨#[62, 61]⟩ : ByteArray).toList)) (cond ((str [c, d]).toList == (⟨#[47, 47]⟩ : ByteArray).toList) (J26 ((str [c, d]).toList == (⟨#[47, 47]⟩ : ByteArray).toList)) (J26 ((str [c, d]).toList == (⟨#[46, 46]⟩ : ByteArray).toList))))))) = J26 (sgn2.contains [c, d]) := by
   intro J
   simp only [chainJ, toL, bs_str]
   have e : ∀ l : Bs, bs (⟨l.toArray⟩ : ByteArray) = l := bs_mk
   simp only [e]
   unfold sgn2
   simp only [contains_or, List.contains_nil, Bool.or_false]
  have key2 := key _ rfl
  unfold joinF at key2
  simp only [Option.bind_some] at key2
  rw [show (c :: d :: t).take 2 = [c, d] from rfl]
  have one' := one (fun x3 => cond x3 (some (str [c])) (some ((⟨#[]⟩ : ByteArray))))
  refine (two (fun x25 => cond x25 (some (str [c, d])) _)).trans ?_
  cases hx : sgn2.contains [c, d] with
  | true => rfl
  | false =>
   simp only [cond_false, Bool.false_eq_true, if_false]
   exact one'.trans key2
 ·have ht : (bs s).drop (at_ + 1) = [] := List.eq_nil_of_length_eq_zero (by rw [hlenT]; omega)
  rw [if_neg (by omega), ht]
  have hx : sgn2.contains ([c].take 2) = false := by
   show sgn2.contains [c] = false
   unfold sgn2
   simp
  rw [hx]
  simp only [Bool.false_eq_true, if_false]
  have key2 := key _ rfl
  unfold joinF at key2
  simp only [Option.bind_some] at key2
  exact (one (fun x3 => cond x3 (some (str [c])) (some ((⟨#[]⟩ : ByteArray))))).trans key2
end Go.Proofs.YtidiahkobapnjaaGreatDoor
namespace Go.Proofs.YtidiahkobapnjaaGreatDoor
open Go Go.RowKit Lx
theorem w8 (x : Int) (h0 : 0 ≤ x) (h1 : x < 256) : IntKind.u8.wrap x = x := by unfold IntKind.wrap; simp [IntKind.bits, IntKind.signed]; omega
theorem tm (n m : Nat) : Int.tmod (n : Int) (m : Int) = ((n % m : Nat) : Int) := (Int.ofNat_tmod n m).symm
theorem td (n m : Nat) : Int.tdiv (n : Int) (m : Int) = ((n / m : Nat) : Int) := (Int.ofNat_tdiv n m).symm
def bI (b : Bs) : List Int := b.map fun x => (x.toNat : Int)
theorem strOf_bI (b : Bs) : strOfNums (bI b) = str b := by
 unfold strOfNums bI str
 congr 2
 rw [List.map_map]
 conv => rhs; rw [← List.map_id b]
 apply List.map_congr_left
 intro x _
 simp
theorem bsI_bI (s : ByteArray) : bsI s = bI (bs s) := rfl
theorem hexes_loop (s : ByteArray) (hs : s.size ≤ 1000000) (at_ most : Nat) (ha : at_ ≤ 1000010) (hm : most ≤ 8) : ∀ (m j n k : Nat), m + j = most → n < 16 ^ j → m < k →
  r11_hexes.l0 k s (at_ : Int) (most : Int) (fun a b => some (a, b)) (n : Int) (j : Int) = some (((hexG m ((bs s).drop (at_ + j)) n j).1 : Int), ((hexG m ((bs s).drop (at_ + j)) n j).2 : Int))
 | m, j, n, k, hj, hn, hk => by
  obtain ⟨k, rfl⟩ : ∃ m, k = m + 1 := ⟨k - 1, by omega⟩
  have h16 : 16 ^ j ≤ 16 ^ 8 := Nat.pow_le_pow_right (by omega) (by omega)
  have hn2 : n < 4294967296 := by omega
  simp only [r11_hexes.l0]
  cases m with
  | zero =>
   rw [cond_dec, if_neg (by omega)]
   simp [hexG]
  | succ m =>
   rw [cond_dec, if_pos (by omega), wi ((at_ : Int) + j) (by omega) (by omega)]
   simp only [Option.bind_some]
   rcases Nat.lt_or_ge (at_ + j) s.size with h | h
   ·rw [cond_dec, if_pos (by omega)]
    have hal : at_ + j < (bs s).length := by rw [bs_length]; omega
    have hdr : (bs s).drop (at_ + j) = (bs s)[at_ + j] :: (bs s).drop (at_ + (j + 1)) := by rw [← Nat.add_assoc]; exact List.drop_eq_getElem_cons hal
    have hc : sIdx s ((at_ : Int) + j) = some (bs s)[at_ + j] := by rw [show (at_ : Int) + j = ((at_ + j : Nat) : Int) by omega, sIdx_nat, List.getElem?_eq_getElem hal]
    rw [hc, hdr]
    generalize (bs s)[at_ + j] = c
    have hcl := c.toNat_lt
    have hpw := Nat.pow_succ 16 j
    have ih : ∀ d : Nat, d < 16 → r11_hexes.l0 k s (at_ : Int) (most : Int) (fun a b => some (a, b)) ((16 * n + d : Nat) : Int) ((j : Int) + 1) = some (((hexG m ((bs s).drop (at_ + (j + 1))) (16 * n + d) (j + 1)).1 : Int), ((hexG m ((bs s).drop (at_ + (j + 1))) (16 * n + d) (j + 1)).2 : Int)) := fun d hd => by
     have := hexes_loop s hs at_ most ha hm m (j + 1) (16 * n + d) k (by omega) (by omega) (by omega)
     rw [show ((j + 1 : Nat) : Int) = (j : Int) + 1 by omega] at this
     exact this
    simp only [Option.bind_some, joinF, wb, hexG]
    rw [wi ((j : Int) + 1) (by omega) (by omega), wi ((n : Int) * 16) (by omega) (by omega), wi ((n : Int) * 16 + c.toNat) (by omega) (by omega)]
    unfold hexD
    have T : ∀ {p : Prop} [Decidable p], p → decide p = true := fun h => decide_eq_true h
    have F : ∀ {p : Prop} [Decidable p], ¬ p → decide p = false := fun h => decide_eq_false h
    by_cases h1 : 48 ≤ c.toNat ∧ c.toNat ≤ 57
    ·rw [if_pos h1, T (p := (c.toNat : Int) ≥ 48) (by omega), T (p := (c.toNat : Int) ≤ 57) (by omega)]
     simp only [cond_true, Option.bind_some]
     rw [wi ((n : Int) * 16 + c.toNat - 48) (by omega) (by omega), ← ih (c.toNat - 48) (by omega)]
     congr 1
     omega
    rw [if_neg h1]
    by_cases h2 : 97 ≤ c.toNat ∧ c.toNat ≤ 102
    ·rw [if_pos h2, T (p := (c.toNat : Int) ≥ 48) (by omega), F (p := (c.toNat : Int) ≤ 57) (by omega), T (p := (c.toNat : Int) ≥ 97) (by omega), T (p := (c.toNat : Int) ≤ 102) (by omega)]
     simp only [cond_true, cond_false, Option.bind_some]
     rw [wi ((n : Int) * 16 + c.toNat - 97) (by omega) (by omega), wi ((n : Int) * 16 + c.toNat - 97 + 10) (by omega) (by omega), ← ih (c.toNat - 87) (by omega)]
     congr 1
     omega
    rw [if_neg h2]
    by_cases h3 : 65 ≤ c.toNat ∧ c.toNat ≤ 70
    ·rw [if_pos h3, T (p := (c.toNat : Int) ≥ 48) (by omega), F (p := (c.toNat : Int) ≤ 57) (by omega), F (p := (c.toNat : Int) ≥ 97) (by omega), T (p := (c.toNat : Int) ≥ 65) (by omega), T (p := (c.toNat : Int) ≤ 70) (by omega)]
     simp only [cond_true, cond_false, Option.bind_some]
     rw [wi ((n : Int) * 16 + c.toNat - 65) (by omega) (by omega), wi ((n : Int) * 16 + c.toNat - 65 + 10) (by omega) (by omega), ← ih (c.toNat - 55) (by omega)]
     congr 1
     omega
    rw [if_neg h3]
    have hq : c.toNat < 48 ∨ (57 < c.toNat ∧ c.toNat < 65) ∨ (70 < c.toNat ∧ c.toNat < 97) ∨ 102 < c.toNat := by omega
    rcases hq with h | h | h | h
    ·rw [F (p := (c.toNat : Int) ≥ 48) (by omega), F (p := (c.toNat : Int) ≥ 97) (by omega), F (p := (c.toNat : Int) ≥ 65) (by omega)]; rfl
    ·rw [T (p := (c.toNat : Int) ≥ 48) (by omega), F (p := (c.toNat : Int) ≤ 57) (by omega), F (p := (c.toNat : Int) ≥ 97) (by omega), F (p := (c.toNat : Int) ≥ 65) (by omega)]; rfl
    ·rw [T (p := (c.toNat : Int) ≥ 48) (by omega), F (p := (c.toNat : Int) ≤ 57) (by omega), F (p := (c.toNat : Int) ≥ 97) (by omega), T (p := (c.toNat : Int) ≥ 65) (by omega), F (p := (c.toNat : Int) ≤ 70) (by omega)]; rfl
    ·rw [T (p := (c.toNat : Int) ≥ 48) (by omega), F (p := (c.toNat : Int) ≤ 57) (by omega), T (p := (c.toNat : Int) ≥ 97) (by omega), F (p := (c.toNat : Int) ≤ 102) (by omega), T (p := (c.toNat : Int) ≥ 65) (by omega), F (p := (c.toNat : Int) ≤ 70) (by omega)]; rfl
   ·rw [cond_dec, if_neg (by omega), List.drop_of_length_le (by rw [bs_length]; omega)]
    simp [hexG]
theorem hexes_eq (s : ByteArray) (hs : s.size ≤ 1000000) (at_ most k : Nat) (ha : at_ ≤ 1000010) (hm : most ≤ 8) (hk : 8 < k) :
  r11_hexes.f k s (at_ : Int) (most : Int) = some (((hexG most ((bs s).drop at_) 0 0).1 : Int), ((hexG most ((bs s).drop at_) 0 0).2 : Int)) := by
 unfold r11_hexes.f joinF
 exact hexes_loop s hs at_ most ha hm most 0 0 k rfl (by omega) (by omega)
def encR (n : Nat) : ByteArray × Int := if Utf8.valid n then (Utf8.encode n, 0) else (⟨#[]⟩, 3)
theorem enc_small (n : Nat) (hv : Utf8.valid (n : Int) = true) : Utf8.encode (n : Int) = if n < 128 then str [UInt8.ofNat n] else if n < 2048 then str [UInt8.ofNat (192 + n / 64), UInt8.ofNat (128 + n % 64)] else if n < 65536 then str [UInt8.ofNat (224 + n / 4096), UInt8.ofNat (128 + n / 64 % 64), UInt8.ofNat (128 + n % 64)] else str [UInt8.ofNat (240 + n / 262144), UInt8.ofNat (128 + n / 4096 % 64), UInt8.ofNat (128 + n / 64 % 64), UInt8.ofNat (128 + n % 64)] := by
 unfold Utf8.encode
 simp only [hv, if_true, Int.toNat_natCast]
 rfl
set_option maxRecDepth 100000 in
theorem encode_eq (n k : Nat) (hn : n ≤ 4294967296) (hk : 4 < k) : r01_Encode.f k (n : Int) = some (encR n) := by
 unfold r01_Encode.f encR
 rw [good_eq]
 simp only [Option.bind_some]
 cases hv : Utf8.valid (n : Int) with
 | false => rfl
 | true =>
  have hmax : n ≤ 1114111 := by
   rcases Nat.lt_or_ge 1114111 n with h | h
   ·rw [valid_top n h] at hv; cases hv
   ·exact h
  rw [bytes_eq, enc_small n hv]
  obtain ⟨k, rfl⟩ : ∃ m, k = m + 4 := ⟨k - 4, by omega⟩
  simp only [Bool.not_true, cond_false, Option.bind_some, cond_beq, if_true]
  unfold lenR
  have hb : ∀ x y : Nat, x < 256 → x = y → UInt8.ofNat ((x : Int).toNat) = UInt8.ofNat y := fun x y _ h => by subst h; simp
  by_cases h1 : n < 128
  ·rw [if_pos h1, if_pos (by decide), if_pos h1, w8 _ (by omega) (by omega)]
   rfl
  ·rw [if_neg h1, if_neg h1]
   by_cases h2 : n < 2048
   ·rw [if_pos h2, if_pos h2, if_neg (by decide)]
    have e : mkd 1 (0 : Int) ((2 : Nat) : Int) = some [0, 0] := by decide
    rw [e]
    simp only [Option.bind_some, joinF]
    rw [show IntKind.i64.wrap (((2 : Nat) : Int) - 1) = 1 by decide]
    simp only [r01_Encode.l0, cond_dec]
    rw [if_pos (by omega), show lIdx [(0 : Int), 0] 1 = some 0 by decide]
    simp only [Option.bind_some, lSet, cond_dec]
    rw [if_pos (by decide)]
    simp only [Option.bind_some]
    rw [show IntKind.i64.wrap ((1 : Int) - 1) = 0 by decide, if_neg (by omega)]
    rw [show ((64 : Int)) = ((64 : Nat) : Int) from rfl, tm, td, wi (128 + ((n % 64 : Nat) : Int)) (by omega) (by omega), w8 (128 + ((n % 64 : Nat) : Int)) (by omega) (by omega), wi ((n / 64 : Nat) : Int) (by omega) (by omega)]
    simp only [show ((1 : Int)).toNat = 1 from rfl, List.set_cons_succ, List.set_cons_zero, lIdx, Int.le_refl, if_true, show ((0 : Int)).toNat = 0 from rfl, List.getElem?_cons_zero, Option.bind_some]
    rw [if_neg (by decide), if_neg (by decide), if_pos (by simp)]
    simp only [Option.bind_some, List.set_cons_zero]
    rw [wi (192 + ((n / 64 : Nat) : Int)) (by omega) (by omega), w8 (192 + ((n / 64 : Nat) : Int)) (by omega) (by omega)]
    simp only [strOfNums, str, List.map_cons, List.map_nil]
    rw [show ((192 + ((n / 64 : Nat) : Int)).toNat) = 192 + n / 64 by omega, show ((128 + ((n % 64 : Nat) : Int)).toNat) = 128 + n % 64 by omega]
   ·rw [if_neg h2, if_neg h2]
    by_cases h3 : n < 65536
    ·rw [if_pos h3, if_pos h3, if_neg (by decide)]
     have e : mkd 1 (0 : Int) ((3 : Nat) : Int) = some [0, 0, 0] := by decide
     rw [e]
     simp only [Option.bind_some, joinF]
     rw [show IntKind.i64.wrap (((3 : Nat) : Int) - 1) = 2 by decide]
     simp only [r01_Encode.l0, cond_dec]
     rw [if_pos (by omega), show lIdx [(0 : Int), 0, 0] 2 = some 0 by decide]
     simp only [Option.bind_some, lSet, cond_dec]
     rw [if_pos (by decide)]
     simp only [Option.bind_some]
     rw [show IntKind.i64.wrap ((2 : Int) - 1) = 1 by decide, if_pos (by omega)]
     rw [show ((64 : Int)) = ((64 : Nat) : Int) from rfl, tm, td, wi (128 + ((n % 64 : Nat) : Int)) (by omega) (by omega), w8 (128 + ((n % 64 : Nat) : Int)) (by omega) (by omega), wi ((n / 64 : Nat) : Int) (by omega) (by omega)]
     simp only [show ((2 : Int)).toNat = 2 from rfl, List.set_cons_succ, List.set_cons_zero, lIdx, show (0 : Int) ≤ 1 by omega, if_true, show ((1 : Int)).toNat = 1 from rfl, List.getElem?_cons_zero, List.getElem?_cons_succ, Option.bind_some]
     rw [if_pos (by simp)]
     simp only [Option.bind_some]
     rw [show IntKind.i64.wrap ((1 : Int) - 1) = 0 by decide, if_neg (by omega)]
     rw [tm, td, wi (128 + ((n / 64 % 64 : Nat) : Int)) (by omega) (by omega), w8 (128 + ((n / 64 % 64 : Nat) : Int)) (by omega) (by omega), wi ((n / 64 / 64 : Nat) : Int) (by omega) (by omega)]
     simp only [Int.le_refl, if_true, show ((0 : Int)).toNat = 0 from rfl, List.getElem?_cons_zero, Option.bind_some]
     rw [if_pos (by decide), if_neg (by decide), if_pos (by simp)]
     simp only [Option.bind_some, List.set_cons_zero, List.set_cons_succ]
     rw [wi (224 + ((n / 64 / 64 : Nat) : Int)) (by omega) (by omega), w8 (224 + ((n / 64 / 64 : Nat) : Int)) (by omega) (by omega)]
     simp only [strOfNums, str, List.map_cons, List.map_nil]
     rw [show ((224 + ((n / 64 / 64 : Nat) : Int)).toNat) = 224 + n / 4096 by omega, show ((128 + ((n % 64 : Nat) : Int)).toNat) = 128 + n % 64 by omega, show ((128 + ((n / 64 % 64 : Nat) : Int)).toNat) = 128 + n / 64 % 64 by omega]
    ·rw [if_neg h3, if_neg h3, if_neg (by decide)]
     have e : mkd 1 (0 : Int) ((4 : Nat) : Int) = some [0, 0, 0, 0] := by decide
     rw [e]
     simp only [Option.bind_some, joinF]
     rw [show IntKind.i64.wrap (((4 : Nat) : Int) - 1) = 3 by decide]
     simp only [r01_Encode.l0, cond_dec]
     rw [if_pos (by omega), show lIdx [(0 : Int), 0, 0, 0] 3 = some 0 by decide]
     simp only [Option.bind_some, lSet, cond_dec]
     rw [if_pos (by decide)]
     simp only [Option.bind_some]
     rw [show IntKind.i64.wrap ((3 : Int) - 1) = 2 by decide, if_pos (by omega)]
     rw [show ((64 : Int)) = ((64 : Nat) : Int) from rfl, tm, td, wi (128 + ((n % 64 : Nat) : Int)) (by omega) (by omega), w8 (128 + ((n % 64 : Nat) : Int)) (by omega) (by omega), wi ((n / 64 : Nat) : Int) (by omega) (by omega)]
     simp only [show ((3 : Int)).toNat = 3 from rfl, List.set_cons_succ, List.set_cons_zero, lIdx, show (0 : Int) ≤ 2 by omega, if_true, show ((2 : Int)).toNat = 2 from rfl, List.getElem?_cons_zero, List.getElem?_cons_succ, Option.bind_some]
     rw [if_pos (by simp)]
     simp only [Option.bind_some]
     rw [show IntKind.i64.wrap ((2 : Int) - 1) = 1 by decide, if_pos (by omega)]
     rw [tm, td, wi (128 + ((n / 64 % 64 : Nat) : Int)) (by omega) (by omega), w8 (128 + ((n / 64 % 64 : Nat) : Int)) (by omega) (by omega), wi ((n / 64 / 64 : Nat) : Int) (by omega) (by omega)]
     simp only [List.set_cons_succ, List.set_cons_zero, show (0 : Int) ≤ 1 by omega, if_true, show ((1 : Int)).toNat = 1 from rfl, List.getElem?_cons_zero, List.getElem?_cons_succ, Option.bind_some]
     rw [if_pos (by simp)]
     simp only [Option.bind_some]
     rw [show IntKind.i64.wrap ((1 : Int) - 1) = 0 by decide, if_neg (by omega)]
     rw [tm, td, wi (128 + ((n / 64 / 64 % 64 : Nat) : Int)) (by omega) (by omega), w8 (128 + ((n / 64 / 64 % 64 : Nat) : Int)) (by omega) (by omega), wi ((n / 64 / 64 / 64 : Nat) : Int) (by omega) (by omega)]
     simp only [Int.le_refl, if_true, show ((0 : Int)).toNat = 0 from rfl, List.getElem?_cons_zero, Option.bind_some]
     rw [if_neg (by decide), if_pos (by decide), if_pos (by simp)]
     simp only [Option.bind_some, List.set_cons_zero, List.set_cons_succ]
     rw [wi (240 + ((n / 64 / 64 / 64 : Nat) : Int)) (by omega) (by omega), w8 (240 + ((n / 64 / 64 / 64 : Nat) : Int)) (by omega) (by omega)]
     simp only [strOfNums, str, List.map_cons, List.map_nil]
     rw [show ((240 + ((n / 64 / 64 / 64 : Nat) : Int)).toNat) = 240 + n / 262144 by omega, show ((128 + ((n % 64 : Nat) : Int)).toNat) = 128 + n % 64 by omega, show ((128 + ((n / 64 % 64 : Nat) : Int)).toNat) = 128 + n / 64 % 64 by omega, show ((128 + ((n / 64 / 64 % 64 : Nat) : Int)).toNat) = 128 + n / 4096 % 64 by omega]
end Go.Proofs.YtidiahkobapnjaaGreatDoor
namespace Go.Proofs.YtidiahkobapnjaaGreatDoor
open Go Go.RowKit Lx
theorem dT {p : Prop} [Decidable p] (h : p) : decide p = true := decide_eq_true h
theorem dF {p : Prop} [Decidable p] (h : ¬ p) : decide p = false := decide_eq_false h
theorem bq (c d : UInt8) : ((c.toNat : Int) == (d.toNat : Int)) = decide (c = d) := by
 rw [beq_byte, Bool.eq_iff_iff, beq_iff_eq, decide_eq_true_eq]
theorem bn (c d : UInt8) : ((c.toNat : Int) != (d.toNat : Int)) = decide (c ≠ d) := by
 rw [bne, beq_byte, Bool.eq_iff_iff, decide_eq_true_eq]
 simp
theorem drop_s (s : ByteArray) (i : Nat) (h : i < s.size) : (bs s).drop i = s[i] :: (bs s).drop (i + 1) := drop_at s i h
theorem sIdx_at (s : ByteArray) (i : Nat) (h : i < s.size) : sIdx s (i : Int) = some s[i] := by rw [sIdx_head, drop_s s i h]; rfl
theorem dec_loop (s : ByteArray) (hs : s.size ≤ 1000000) (i : Nat) (hi : i ≤ 1000000) (J : Int → Int → Option (List Int × Int)) : ∀ (m j n k : Nat), m + j = 3 → n < 1000 ^ (j + 1) → m < k →
  r11_escape.l0 k s (i : Int) J (n : Int) (j : Int) = J ((decG m ((bs s).drop (i + 1 + j)) n j).1 : Int) ((decG m ((bs s).drop (i + 1 + j)) n j).2 : Int)
 | m, j, n, k, hj, hn, hk => by
  obtain ⟨k, rfl⟩ : ∃ m, k = m + 1 := ⟨k - 1, by omega⟩
  simp only [r11_escape.l0]
  rw [wi ((i : Int) + 1) (by omega) (by omega)]
  cases m with
  | zero =>
   rw [dF (p := (j : Int) < 3) (by omega)]
   rfl
  | succ m =>
   rw [dT (p := (j : Int) < 3) (by omega), wi ((i : Int) + 1 + j) (by omega) (by omega), show (i : Int) + 1 + j = ((i + 1 + j : Nat) : Int) by omega]
   rcases Nat.lt_or_ge (i + 1 + j) s.size with h | h
   ·rw [dT (p := ((i + 1 + j : Nat) : Int) < s.size) (by omega), sIdx_at s _ h, drop_s s _ h]
    generalize s[i + 1 + j] = c
    have hcl := c.toNat_lt
    simp only [cond_true, Option.bind_some, decG]
    have hnb : n < 1000000000 := by
     have : 1000 ^ (j + 1) ≤ 1000 ^ 3 := Nat.pow_le_pow_right (by omega) (by omega)
     omega
    by_cases h1 : 48 ≤ c.toNat
    ·rw [dT (p := (c.toNat : Int) ≥ 48) (by omega)]
     simp only [cond_true, Option.bind_some]
     by_cases h2 : c.toNat ≤ 57
     ·rw [dT (p := (c.toNat : Int) ≤ 57) (by omega), if_pos ⟨h1, h2⟩]
      simp only [cond_true]
      have hp : 1000 ^ (j + 1 + 1) = 1000 ^ (j + 1) * 1000 := Nat.pow_succ _ _
      have hj3 : j ≤ 2 := by omega
      have hn3 : 10 * n + (c.toNat - 48) < 1000 ^ (j + 1 + 1) := by
       have : 1 ≤ 1000 ^ (j + 1) := Nat.one_le_pow _ _ (by omega)
       omega
      have hw : n * 10 ≤ 10000000000 := by
       have : 1000 ^ (j + 1) ≤ 1000 ^ 3 := Nat.pow_le_pow_right (by omega) (by omega)
       omega
      have := dec_loop s hs i hi J m (j + 1) (10 * n + (c.toNat - 48)) k (by omega) hn3 (by omega)
      rw [wb, wi ((n : Int) * 10) (by omega) (by omega), wi ((n : Int) * 10 + c.toNat) (by omega) (by omega), wi ((n : Int) * 10 + c.toNat - 48) (by omega) (by omega), wi ((j : Int) + 1) (by omega) (by omega)]
      rw [show i + 1 + j + 1 = i + 1 + (j + 1) by omega, ← this]
      congr 1
      omega
     ·rw [dF (p := (c.toNat : Int) ≤ 57) (by omega), if_neg (by omega)]
      rfl
    ·rw [dF (p := (c.toNat : Int) ≥ 48) (by omega), if_neg (by omega)]
     rfl
   ·rw [dF (p := ((i + 1 + j : Nat) : Int) < s.size) (by omega), List.drop_of_length_le (by rw [bs_length]; omega)]
    rfl
def escR (l : Bs) : List Int × Int := match escF l with | .ok b n => (bI b, (n : Int)) | _ => ([], 0)
set_option maxRecDepth 100000 in
theorem escape_eq (s : ByteArray) (hs : s.size ≤ 1000000) (i k : Nat) (hi : i + 1 < s.size) (hk : 20 < k) : r11_escape.f k s (i : Int) = some (escR ((bs s).drop (i + 1))) := by
 unfold r11_escape.f escR
 have e1 : IntKind.i64.wrap ((i : Int) + 1) = ((i + 1 : Nat) : Int) := by rw [wi _ (by omega) (by omega)]; omega
 have e2 : IntKind.i64.wrap ((i : Int) + 2) = ((i + 2 : Nat) : Int) := by rw [wi _ (by omega) (by omega)]; omega
 have e3 : IntKind.i64.wrap ((i : Int) + 3) = ((i + 3 : Nat) : Int) := by rw [wi _ (by omega) (by omega)]; omega
 rw [e1, e2, e3, sIdx_at s _ hi, drop_s s _ hi, show i + 1 + 1 = i + 2 by omega]
 have hdec := dec_loop s hs i (by omega) (fun (x34 : Int) (x35 : Int) => ((cond (x35 == (0 : Int)) (some true) (some (decide (x34 > (255 : Int)))) : Option Bool).bind fun q37 => cond q37 (some (([] : List Int), (0 : Int))) (some ([IntKind.u8.wrap x34], IntKind.i64.wrap (x35 + (1 : Int)))))) 3 0 0 k rfl (by omega) (by omega)
 rw [Nat.add_zero, drop_s s _ hi, show i + 1 + 1 = i + 2 by omega] at hdec
 generalize s[i + 1] = c at *
 have hcl := c.toNat_lt
 obtain ⟨E, hE⟩ : ∃ E, escF (c :: (bs s).drop (i + 2)) = E := ⟨_, rfl⟩
 have hE0 := hE
 rw [hE]
 rw [escF_cons] at hE
 simp only [Option.bind_some]
 by_cases c1 : c = 110
 ·subst c1; subst hE; rfl
 by_cases c2 : c = 116
 ·subst c2; subst hE; rfl
 by_cases c3 : c = 114
 ·subst c3; subst hE; rfl
 have f1 : ((c.toNat : Int) == 110) = false := by rw [beq_eq_false_iff_ne]; intro h; exact c1 (UInt8.toNat_inj.1 (by show c.toNat = 110; omega))
 have f2 : ((c.toNat : Int) == 116) = false := by rw [beq_eq_false_iff_ne]; intro h; exact c2 (UInt8.toNat_inj.1 (by show c.toNat = 116; omega))
 have f3 : ((c.toNat : Int) == 114) = false := by rw [beq_eq_false_iff_ne]; intro h; exact c3 (UInt8.toNat_inj.1 (by show c.toNat = 114; omega))
 rw [f1, f2, f3]
 simp only [cond_false]
 generalize hJ9 : (fun (x8 : Bool) => cond x8 (some ([(c.toNat : Int)], (2 : Int))) _) = J9
 unfold joinF
 simp only [chainJ]
 subst hJ9
 by_cases c4 : c = 92 ∨ c = 34 ∨ c = 39
 ·have hp : plainB c = c := by
   unfold plainB
   rw [if_neg c1, if_neg c2, if_neg c3, if_pos c4]
  have hb : (((c.toNat : Int) == 92) || (((c.toNat : Int) == 34) || ((c.toNat : Int) == 39))) = true := by
   rcases c4 with rfl | rfl | rfl <;> rfl
  rw [if_pos (by rw [hp]; rcases c4 with rfl | rfl | rfl <;> decide), hp] at hE
  rw [hb, ← hE]
  rfl
 have hp : plainB c = 0 := by
  unfold plainB
  rw [if_neg c1, if_neg c2, if_neg c3, if_neg c4]
 have hne : ∀ d : UInt8, c ≠ d → ((c.toNat : Int) == (d.toNat : Int)) = false := fun d h => by
  rw [beq_eq_false_iff_ne]
  intro he
  exact h (UInt8.toNat_inj.1 (by omega))
 have hb : (((c.toNat : Int) == 92) || (((c.toNat : Int) == 34) || ((c.toNat : Int) == 39))) = false := by
  simp only [not_or] at c4
  have g1 := hne 92 c4.1
  have g2 := hne 34 c4.2.1
  have g3 := hne 39 c4.2.2
  have g1 : ((c.toNat : Int) == 92) = false := g1
  have g2 : ((c.toNat : Int) == 34) = false := g2
  have g3 : ((c.toNat : Int) == 39) = false := g3
  rw [g1, g2, g3]; rfl
 rw [hb]
 rw [hp, if_neg (by simp)] at hE
 simp only [cond_false]
 by_cases c5 : c = 120
 ·subst c5
  rw [if_pos rfl] at hE
  have := hexes_eq s hs (i + 2) 2 k (by omega) (by omega) (by omega)
  rw [show (2 : Int) = ((2 : Nat) : Int) from rfl, this]
  have hle := hexG_le 2 ((bs s).drop (i + 2)) 0 0 (by omega)
  have h16 : 16 ^ (hexG 2 ((bs s).drop (i + 2)) 0 0).2 ≤ 16 ^ 2 := Nat.pow_le_pow_right (by omega) (by omega)
  generalize hexG 2 ((bs s).drop (i + 2)) 0 0 = g at *
  simp only [Option.bind_some]
  rw [show (((120 : UInt8).toNat : Int) == 120) = true from rfl]
  simp only [cond_true]
  by_cases hg : g.2 < 2
  ·rw [if_pos hg] at hE
   rw [← hE, show ((g.2 : Int) == ((2 : Nat) : Int)) = false by rw [beq_eq_false_iff_ne]; omega]
   rfl
  ·rw [if_neg hg] at hE
   rw [← hE, show ((g.2 : Int) == ((2 : Nat) : Int)) = true by rw [beq_iff_eq]; omega, w8 _ (by omega) (by omega)]
   simp only [cond_true, bI, List.map_cons, List.map_nil]
   rw [show (UInt8.ofNat g.1).toNat = g.1 by simp; omega]
   rfl
 rw [if_neg c5] at hE
 rw [show ((c.toNat : Int) == 120) = false from hne 120 c5]
 simp only [cond_false]
 by_cases c6 : c = 117
 ·subst c6
  rw [show (((117 : UInt8).toNat : Int) == 117) = true from rfl]
  simp only [cond_true]
  have hnd : ∀ t : Bs, decG 3 (117 :: t) 0 0 = (0, 0) := fun t => rfl
  clear hE
  by_cases h2 : i + 2 < s.size
  ·rw [dF (p := ((i + 2 : Nat) : Int) ≥ s.size) (by omega), sIdx_at s _ h2]
   rw [drop_s s _ h2, show i + 2 + 1 = i + 3 by omega] at hE0
   generalize s[i + 2] = d at *
   simp only [cond_false, Option.bind_some]
   by_cases hd : d = 123
   ·subst hd
    rw [escF_u] at hE0
    unfold uF at hE0
    rw [show (((123 : UInt8).toNat : Int) != 123) = false from rfl]
    simp only [cond_false]
    have := hexes_eq s hs (i + 3) 8 k (by omega) (by omega) (by omega)
    rw [show (8 : Int) = ((8 : Nat) : Int) from rfl, this]
    have hle := hexG_le 8 ((bs s).drop (i + 3)) 0 0 (by omega)
    have h16 : 16 ^ (hexG 8 ((bs s).drop (i + 3)) 0 0).2 ≤ 16 ^ 8 := Nat.pow_le_pow_right (by omega) (by omega)
    have hdr : ((bs s).drop (i + 3)).drop (hexG 8 ((bs s).drop (i + 3)) 0 0).2 = (bs s).drop (i + 3 + (hexG 8 ((bs s).drop (i + 3)) 0 0).2) := by rw [List.drop_drop]
    rw [hdr] at hE0
    rw [List.length_drop, bs_length] at hle
    generalize hexG 8 ((bs s).drop (i + 3)) 0 0 = g at *
    simp only [Option.bind_some]
    rw [encode_eq g.1 k (by omega) (by omega)]
    simp only [Option.bind_some, encR]
    rw [wi ((i + 3 : Nat) + (g.2 : Int)) (by omega) (by omega), show ((i + 3 : Nat) : Int) + (g.2 : Int) = ((i + 3 + g.2 : Nat) : Int) by omega]
    by_cases hg : g.2 = 0
    ·rw [if_pos (.inl hg)] at hE0
     rw [← hE0, show ((g.2 : Int) == 0) = true by rw [beq_iff_eq]; omega]
     rfl
    rw [show ((g.2 : Int) == 0) = false by rw [beq_eq_false_iff_ne]; omega]
    simp only [cond_false]
    cases hv : Utf8.valid (g.1 : Int) with
    | false =>
     rw [if_pos (.inr (.inl hv))] at hE0
     rw [← hE0]
     rfl
    | true =>
     simp only [if_true]
     rw [show ((0 : Int) != 0) = false from rfl]
     simp only [cond_false]
     rcases Nat.lt_or_ge (i + 3 + g.2) s.size with h3 | h3
     ·rw [dF (p := ((i + 3 + g.2 : Nat) : Int) ≥ s.size) (by omega), sIdx_at s _ h3]
      rw [drop_s s _ h3] at hE0
      generalize s[i + 3 + g.2] = z at *
      rw [List.head?_cons] at hE0
      simp only [cond_false, Option.bind_some]
      by_cases hz : z = 125
      ·subst hz
       rw [if_neg (by simp [hg, hv])] at hE0
       rw [← hE0, show (((125 : UInt8).toNat : Int) != 125) = false from rfl]
       simp only [cond_false]
       have hes := encode_size g.1
       rw [dT (p := (Utf8.encode (g.1 : Int)).size ≤ 140737488355328) (by omega), wi ((g.2 : Int) + 4) (by omega) (by omega)]
       simp only [cond_true, bsI_bI]
       rw [show (g.2 : Int) + 4 = ((4 + g.2 : Nat) : Int) by omega]
      ·rw [if_pos (.inr (.inr (by simpa using hz)))] at hE0
       rw [← hE0, show ((z.toNat : Int) != 125) = true by rw [bne_iff_ne]; intro h; exact hz (UInt8.toNat_inj.1 (by show z.toNat = 125; omega))]
       rfl
     ·rw [List.drop_of_length_le (by rw [bs_length]; omega), if_pos (.inr (.inr (by simp)))] at hE0
      rw [← hE0, dT (p := ((i + 3 + g.2 : Nat) : Int) ≥ s.size) (by omega)]
      rfl
   ·rw [escF_cons, if_neg (by decide), if_neg (by decide), if_neg (by simpa using hd), hnd] at hE0
    rw [← hE0, show ((d.toNat : Int) != 123) = true by rw [bne_iff_ne]; intro h; exact hd (UInt8.toNat_inj.1 (by show d.toNat = 123; omega))]
    rfl
  ·rw [List.drop_of_length_le (by rw [bs_length]; omega), escF_cons, if_neg (by decide), if_neg (by decide), if_neg (by simp), hnd] at hE0
   rw [← hE0, dT (p := ((i + 2 : Nat) : Int) ≥ s.size) (by omega)]
   rfl
 rw [if_neg (fun h => c6 h.1)] at hE
 rw [show ((c.toNat : Int) == 117) = false from hne 117 c6]
 simp only [cond_false]
 rw [show ((0 : Nat) : Int) = 0 from rfl] at hdec
 refine hdec.trans ?_
 have hle := decG_le 3 (c :: (bs s).drop (i + 2)) 0 0
 have hk3 : (decG 3 (c :: (bs s).drop (i + 2)) 0 0).2 ≤ 3 := by
  have : ∀ (m : Nat) (l : Bs) (n k : Nat), (decG m l n k).2 ≤ k + m := by
   intro m
   induction m with
   | zero => intro l n k; simp [decG]
   | succ m ih =>
    intro l n k
    cases l with
    | nil => simp [decG]
    | cons b t =>
     rw [decG_step]
     split
     ·have := ih t (10 * n + (b.toNat - 48)) (k + 1); omega
     ·simp
  have := this 3 (c :: (bs s).drop (i + 2)) 0 0
  omega
 generalize decG 3 (c :: (bs s).drop (i + 2)) 0 0 = g at *
 by_cases hg : g.2 = 0
 ·rw [if_pos (.inl hg)] at hE
  rw [← hE, show ((g.2 : Int) == 0) = true by rw [beq_iff_eq]; omega]
  rfl
 rw [show ((g.2 : Int) == 0) = false by rw [beq_eq_false_iff_ne]; omega]
 simp only [cond_false, Option.bind_some]
 by_cases hb2 : g.1 > 255
 ·rw [if_pos (.inr hb2)] at hE
  rw [← hE, dT (p := (g.1 : Int) > 255) (by omega)]
  rfl
 ·rw [if_neg (by omega)] at hE
  rw [← hE, dF (p := (g.1 : Int) > 255) (by omega), w8 _ (by omega) (by omega), wi ((g.2 : Int) + 1) (by omega) (by omega)]
  simp only [cond_false, bI, List.map_cons, List.map_nil]
  rw [show (UInt8.ofNat g.1).toNat = g.1 by simp; omega, show (g.2 : Int) + 1 = ((1 + g.2 : Nat) : Int) by omega]
end Go.Proofs.YtidiahkobapnjaaGreatDoor
namespace Go.Proofs.YtidiahkobapnjaaGreatDoor
open Go Go.RowKit Lx
theorem apd_ok {α : Type} (b : Nat) (l ys : List α) (h : (l.length + ys.length) * b ≤ 140737488355328) : apd b l ys = some (l ++ ys) := by
 unfold apd
 rw [dT h]
 rfl
theorem bI_append (a b : Bs) : bI (a ++ b) = bI a ++ bI b := by simp [bI]
theorem bI_length (a : Bs) : (bI a).length = a.length := by simp [bI]
def textP (at_ : Nat) : TextR → ByteArray × Int × Int × Int
 | .bad c rel => (⟨#[]⟩, 0, c, ((at_ + rel : Nat) : Int))
 | .ok v n => (str v, (n : Int), 0, 0)
def textJ (s : ByteArray) (a1 : Int) (l2 : List Int) (x7 : Int) : Option (ByteArray × Int × Int × Int) :=
 (cond (decide (x7 ≥ (s.size : Int))) (some true) ((sIdx s x7).bind fun c13 : UInt8 => some ((c13.toNat : Int) == (10 : Int))) : Option Bool).bind fun q9 => cond q9 (some ((⟨#[]⟩ : ByteArray), (0 : Int), (4 : Int), a1)) (cond (decide (((l2.length : Nat) : Int) > (10000 : Int))) (some ((⟨#[]⟩ : ByteArray), (0 : Int), (14 : Int), a1)) (some ((strOfNums l2), IntKind.i64.wrap ((IntKind.i64.wrap (x7 + (1 : Int))) - a1), (0 : Int), (0 : Int))))
set_option maxRecDepth 100000 in
theorem text_loop (s : ByteArray) (hs : s.size ≤ 1000000) (at_ : Nat) (q : UInt8) (ha : at_ < s.size) (hq : s[at_] = q) : ∀ (d i f k : Nat) (acc : Bs), s.size - i ≤ d → at_ + 1 ≤ i → i ≤ s.size → acc.length ≤ i → s.size - i < f → d + 25 ≤ k →
  r11_text.l0 k s (at_ : Int) (textJ s at_) (bI acc) (i : Int) = some (textP at_ (textG q f ((bs s).drop i) acc (i - at_)))
 | d, i, f, k, acc, hd, h1, h2, h3, h4, h5 => by
  obtain ⟨k, rfl⟩ : ∃ m, k = m + 1 := ⟨k - 1, by omega⟩
  obtain ⟨f, rfl⟩ : ∃ m, f = m + 1 := ⟨f - 1, by omega⟩
  simp only [r11_text.l0]
  rcases Nat.lt_or_ge i s.size with h | h
  ·obtain ⟨d, rfl⟩ : ∃ m, d = m + 1 := ⟨d - 1, by omega⟩
   rw [dT (p := (i : Int) < s.size) (by omega), sIdx_at s i h, sIdx_at s at_ ha, hq, drop_s s i h, textG_cons]
   have hJ : textJ s at_ (bI acc) i = if s[i] = 10 then some ((⟨#[]⟩ : ByteArray), (0 : Int), (4 : Int), (at_ : Int)) else if acc.length > 10000 then some ((⟨#[]⟩ : ByteArray), (0 : Int), (14 : Int), (at_ : Int)) else some (str acc, ((i + 1 - at_ : Nat) : Int), 0, 0) := by
    unfold textJ
    rw [dF (p := (i : Int) ≥ s.size) (by omega), sIdx_at s i h]
    simp only [cond_false, Option.bind_some]
    rw [show ((s[i].toNat : Int) == 10) = decide (s[i] = 10) from bq s[i] 10, cond_dec]
    split
    ·rfl
    ·rw [bI_length, cond_dec, strOf_bI, wi ((i : Int) + 1) (by omega) (by omega), wi ((i : Int) + 1 - at_) (by omega) (by omega)]
     rw [show (i : Int) + 1 - at_ = ((i + 1 - at_ : Nat) : Int) by omega]
     split
     ·rw [if_pos (by omega)]
     ·rw [if_neg (by omega)]
   have hgo : s[i] ≠ 10 → s[i] ≠ q → s[i] ≠ 92 → r11_text.l0 k s (at_ : Int) (textJ s at_) (bI acc ++ [(s[i].toNat : Int)]) (IntKind.i64.wrap ((i : Int) + 1)) = some (textP at_ (textG q f ((bs s).drop (i + 1)) (acc ++ [s[i]]) (i - at_ + 1))) := fun _ _ _ => by
    rw [wi _ (by omega) (by omega), show bI acc ++ [(s[i].toNat : Int)] = bI (acc ++ [s[i]]) by rw [bI_append]; rfl]
    have := text_loop s hs at_ q ha hq d (i + 1) f k (acc ++ [s[i]]) (by omega) (by omega) (by omega) (by simp; omega) (by omega) (by omega)
    rw [show i + 1 - at_ = i - at_ + 1 by omega] at this
    exact this
   have hesc := escape_eq s hs i k
   generalize hc : s[i] = c at *
   simp only [cond_true, Option.bind_some]
   rw [show ((c.toNat : Int) != 10) = decide (c ≠ 10) from bn c 10]
   by_cases c1 : c = 10
   ·rw [if_pos c1, dF (by simpa using c1)]
    simp only [cond_false, Option.bind_some]
    rw [hJ, if_pos c1]
    simp [textP]
   rw [if_neg c1, dT c1]
   simp only [cond_true, Option.bind_some, bn]
   by_cases c2 : c = q
   ·rw [if_pos c2, dF (by simpa using c2)]
    simp only [cond_false]
    rw [hJ, if_neg c1]
    split
    ·simp [textP]
    ·simp only [textP]
     rw [show i - at_ + 1 = i + 1 - at_ by omega]
   rw [if_neg c2, dT c2]
   simp only [cond_true]
   rw [show ((c.toNat : Int) != 92) = decide (c ≠ 92) from bn c 92]
   by_cases c3 : c = 92
   ·rw [if_pos c3, dF (by simpa using c3)]
    simp only [cond_false]
    rw [wi ((i : Int) + 1) (by omega) (by omega), show (i : Int) + 1 = ((i + 1 : Nat) : Int) by omega]
    rcases Nat.lt_or_ge (i + 1) s.size with h6 | h6
    ·rw [dF (p := ((i + 1 : Nat) : Int) ≥ s.size) (by omega), hesc h6 (by omega)]
     simp only [cond_false, Option.bind_some, escR]
     cases hE : escF ((bs s).drop (i + 1)) with
     | ended =>
      rw [drop_s s _ h6, escF_cons] at hE
      repeat' split at hE
      all_goals cases hE
     | unfit =>
      simp only [beq_self_eq_true, cond_true, textP]
      rw [show at_ + (i - at_) = i by omega]
     | ok b n =>
      have hl := escF_len hE
      rw [List.length_drop, bs_length] at hl
      rw [show ((n : Int) == 0) = false by rw [beq_eq_false_iff_ne]; omega]
      simp only [cond_false]
      rw [apd_ok _ _ _ (by rw [bI_length, bI_length]; omega)]
      simp only [Option.bind_some]
      rw [wi ((i : Int) + n) (by omega) (by omega), ← bI_append, show (i : Int) + n = ((i + n : Nat) : Int) by omega]
      have := text_loop s hs at_ q ha hq d (i + n) f k (acc ++ b) (by omega) (by omega) (by omega) (by simp; omega) (by omega) (by omega)
      rw [this, show i + n - at_ = i - at_ + n by omega, ← List.drop_drop, drop_s s i h, hc]
    ·rw [dT (p := ((i + 1 : Nat) : Int) ≥ s.size) (by omega), List.drop_of_length_le (by rw [bs_length]; omega)]
     simp [escF, textP]
   rw [if_neg c3, dT c3]
   simp only [cond_true]
   rw [apd_ok _ _ _ (by rw [bI_length]; simp; omega)]
   exact hgo c1 c2 c3
  ·rw [dF (p := (i : Int) < s.size) (by omega), List.drop_of_length_le (by rw [bs_length]; omega), textG_nil]
   simp only [cond_false, Option.bind_some]
   unfold textJ
   rw [dT (p := (i : Int) ≥ s.size) (by omega)]
   simp [textP]
theorem text_eq (s : ByteArray) (hs : s.size ≤ 1000000) (at_ k : Nat) (ha : at_ < s.size) (hk : s.size + 25 ≤ k) : r11_text.f k s (at_ : Int) = some (textP at_ (textG s[at_] (s.size - at_) ((bs s).drop (at_ + 1)) [] 1)) := by
 have := text_loop s hs at_ s[at_] ha rfl (s.size - (at_ + 1)) (at_ + 1) (s.size - at_) k [] (Nat.le_refl _) (Nat.le_refl _) (by omega) (by simp) (by omega) (by omega)
 rw [Nat.add_sub_cancel_left] at this
 rw [← this]
 unfold r11_text.f joinF
 rw [wi _ (by omega) (by omega), show (at_ : Int) + 1 = ((at_ + 1 : Nat) : Int) by omega]
 rfl
end Go.Proofs.YtidiahkobapnjaaGreatDoor
namespace Go.Proofs.YtidiahkobapnjaaGreatDoor
open Go Go.RowKit Lx
def wD (hex : Bool) (b : UInt8) : Option Nat :=
 if 48 ≤ b.toNat ∧ b.toNat ≤ 57 then some (b.toNat - 48) else if hex = true ∧ 97 ≤ b.toNat ∧ b.toNat ≤ 102 then some (b.toNat - 87) else if hex = true ∧ 65 ≤ b.toNat ∧ b.toNat ≤ 70 then some (b.toNat - 55) else none
theorem wD_lt {hex : Bool} {b : UInt8} {d : Nat} (h : wD hex b = some d) : d < 16 ∧ (hex = false → d < 10) := by
 unfold wD at h
 split at h
 ·cases h; omega
 ·split at h
  ·rename_i h2; cases h; exact ⟨by omega, fun e => by rw [e] at h2; simp at h2⟩
  ·split at h
   ·rename_i h3; cases h; exact ⟨by omega, fun e => by rw [e] at h3; simp at h3⟩
   ·cases h
def wZ (hex : Bool) (b : UInt8) : Int := match wD hex b with | some d => d | none => -1
theorem worth_eq (k : Nat) (b : UInt8) (hex : Bool) : r02_worth.f k (b.toNat : Int) hex = some (wZ hex b) := by
 have hb := b.toNat_lt
 unfold r02_worth.f wZ wD
 rw [wb, wi ((b.toNat : Int) - 48) (by omega) (by omega), wi ((b.toNat : Int) - 97) (by omega) (by omega), wi ((b.toNat : Int) - 97 + 10) (by omega) (by omega), wi ((b.toNat : Int) - 65) (by omega) (by omega), wi ((b.toNat : Int) - 65 + 10) (by omega) (by omega)]
 have hq : b.toNat < 48 ∨ (48 ≤ b.toNat ∧ b.toNat ≤ 57) ∨ (57 < b.toNat ∧ b.toNat < 65) ∨ (65 ≤ b.toNat ∧ b.toNat ≤ 70) ∨ (70 < b.toNat ∧ b.toNat < 97) ∨ (97 ≤ b.toNat ∧ b.toNat ≤ 102) ∨ 102 < b.toNat := by omega
 rcases hq with h | h | h | h | h | h | h
 ·rw [dF (p := (b.toNat : Int) ≥ 48) (by omega), dF (p := (b.toNat : Int) ≥ 97) (by omega), dF (p := (b.toNat : Int) ≥ 65) (by omega), if_neg (by omega), if_neg (by omega), if_neg (by omega)]
  cases hex <;> rfl
 ·rw [dT (p := (b.toNat : Int) ≥ 48) (by omega), dT (p := (b.toNat : Int) ≤ 57) (by omega), if_pos h]
  simp only [cond_true, Option.bind_some]
  congr 1; omega
 ·rw [dT (p := (b.toNat : Int) ≥ 48) (by omega), dF (p := (b.toNat : Int) ≤ 57) (by omega), dF (p := (b.toNat : Int) ≥ 97) (by omega), dF (p := (b.toNat : Int) ≥ 65) (by omega), if_neg (by omega), if_neg (by omega), if_neg (by omega)]
  cases hex <;> rfl
 ·rw [dT (p := (b.toNat : Int) ≥ 48) (by omega), dF (p := (b.toNat : Int) ≤ 57) (by omega), dF (p := (b.toNat : Int) ≥ 97) (by omega), dT (p := (b.toNat : Int) ≥ 65) (by omega), dT (p := (b.toNat : Int) ≤ 70) (by omega), if_neg (by omega), if_neg (by omega)]
  cases hex
  ·rfl
  ·rw [if_pos ⟨rfl, h⟩]
   simp only [cond_true, cond_false, Option.bind_some]
   congr 1; omega
 ·rw [dT (p := (b.toNat : Int) ≥ 48) (by omega), dF (p := (b.toNat : Int) ≤ 57) (by omega), dF (p := (b.toNat : Int) ≥ 97) (by omega), dT (p := (b.toNat : Int) ≥ 65) (by omega), dF (p := (b.toNat : Int) ≤ 70) (by omega), if_neg (by omega), if_neg (by omega), if_neg (by omega)]
  cases hex <;> rfl
 ·rw [dT (p := (b.toNat : Int) ≥ 48) (by omega), dF (p := (b.toNat : Int) ≤ 57) (by omega), dT (p := (b.toNat : Int) ≥ 97) (by omega), dT (p := (b.toNat : Int) ≤ 102) (by omega), dT (p := (b.toNat : Int) ≥ 65) (by omega), dF (p := (b.toNat : Int) ≤ 70) (by omega), if_neg (by omega)]
  cases hex
  ·rw [if_neg (by simp), if_neg (by simp)]; rfl
  ·rw [if_pos ⟨rfl, h⟩]
   simp only [cond_true, cond_false, Option.bind_some]
   congr 1; omega
 ·rw [dT (p := (b.toNat : Int) ≥ 48) (by omega), dF (p := (b.toNat : Int) ≤ 57) (by omega), dT (p := (b.toNat : Int) ≥ 97) (by omega), dF (p := (b.toNat : Int) ≤ 102) (by omega), dT (p := (b.toNat : Int) ≥ 65) (by omega), dF (p := (b.toNat : Int) ≤ 70) (by omega), if_neg (by omega), if_neg (by omega), if_neg (by omega)]
  cases hex <;> rfl
def stepU (hex : Bool) (n d : Nat) : Nat := if hex then (n * 16 + d) % 18446744073709551616 else min (10 * n + d) 18446744073709551615
def szB (hex : Bool) : Nat → Bs → Option Nat
 | n, [] => some n
 | n, b :: t => match wD hex b with | none => none | some d => szB hex (stepU hex n d) t
theorem decL_high (b : UInt8) (t : Bs) (h : 128 ≤ b.toNat) : 128 ≤ (decL (b :: t)).1 := by
 have hb := b.toNat_lt
 unfold decL
 simp only [List.getD_cons_zero]
 rw [if_neg (by omega)]
 (repeat' split) <;> simp_all <;> omega
theorem sizeG_szB (hex : Bool) : ∀ (f n : Nat) (l : Bs), l.length ≤ f → sizeG hex f n l = szB hex n l
 | 0, n, l, h => by
  have : l = [] := List.eq_nil_of_length_eq_zero (by omega)
  subst this; rfl
 | f + 1, n, [], h => rfl
 | f + 1, n, b :: t, h => by
  simp only [List.length_cons] at h
  simp only [sizeG, szB]
  by_cases hb : b.toNat < 128
  ·rw [decL_low b t hb]
   simp only [List.drop_succ_cons, List.drop_zero]
   have ih := fun m => sizeG_szB hex f m t (by omega)
   simp only [ih]
   unfold digR wD stepU
   by_cases h1 : 48 ≤ b.toNat ∧ b.toNat ≤ 57
   ·rw [if_pos h1, if_pos h1]
    simp only []
    rw [if_neg (by simp; omega)]
   ·rw [if_neg h1, if_neg h1]
    by_cases h2 : 97 ≤ b.toNat ∧ b.toNat ≤ 102
    ·rw [if_pos h2]
     cases hex with
     | true => rw [if_pos ⟨rfl, h2⟩]; simp
     | false => rw [if_neg (by simp), if_neg (by simp)]; simp; omega
    ·rw [if_neg h2, if_neg (show ¬ (hex = true ∧ 97 ≤ b.toNat ∧ b.toNat ≤ 102) from fun h => h2 h.2)]
     by_cases h3 : 65 ≤ b.toNat ∧ b.toNat ≤ 70
     ·rw [if_pos h3]
      cases hex with
      | true => rw [if_pos ⟨rfl, h3⟩]; simp
      | false => rw [if_neg (by simp)]; simp; omega
     ·rw [if_neg h3, if_neg (show ¬ (hex = true ∧ 65 ≤ b.toNat ∧ b.toNat ≤ 70) from fun h => h3 h.2)]
  ·have hh := decL_high b t (by omega)
   have e : digR (decL (b :: t)).1 = none := by
    unfold digR
    rw [if_neg (by omega), if_neg (by omega), if_neg (by omega)]
   have e2 : wD hex b = none := by
    unfold wD
    rw [if_neg (by omega), if_neg (by omega), if_neg (by omega)]
   rw [e, e2]
theorem szB_all (hex : Bool) : ∀ (l : Bs) (n : Nat), (szB hex n l).isSome = l.all fun b => (wD hex b).isSome
 | [], _ => rfl
 | b :: t, n => by
  simp only [szB, List.all_cons]
  cases hw : wD hex b with
  | none => rfl
  | some d => simp only [Option.isSome_some, Bool.true_and]; exact szB_all hex t _
theorem check_loop (s : ByteArray) (hs : s.size ≤ 1000000) (hex : Bool) (J : Unit → Option (Int × Int)) : ∀ (d i k : Nat), s.size - i ≤ d → i ≤ s.size → d < k →
  r02_read.l2 k hex s J (i : Int) = if (((bs s).drop i).all fun b => (wD hex b).isSome) = true then J () else some (0, 4)
 | d, i, k, hd, hi, hk => by
  obtain ⟨k, rfl⟩ : ∃ m, k = m + 1 := ⟨k - 1, by omega⟩
  simp only [r02_read.l2]
  rcases Nat.lt_or_ge i s.size with h | h
  ·obtain ⟨d, rfl⟩ : ∃ m, d = m + 1 := ⟨d - 1, by omega⟩
   rw [dT (p := (i : Int) < s.size) (by omega), sIdx_at s i h, drop_s s i h, wi ((i : Int) + 1) (by omega) (by omega), show (i : Int) + 1 = ((i + 1 : Nat) : Int) by omega]
   simp only [cond_true, Option.bind_some, worth_eq, List.all_cons]
   rw [check_loop s hs hex J d (i + 1) k (by omega) (by omega) (by omega)]
   by_cases hw : (wD hex s[i]).isSome = true
   ·obtain ⟨x, hx⟩ := Option.isSome_iff_exists.1 hw
    have hz : wZ hex s[i] = x := by unfold wZ; rw [hx]
    rw [hz, dF (by omega)]
    simp only [hw, Bool.true_and, cond_false]
   ·have hx : wD hex s[i] = none := by simpa using hw
    have hz : wZ hex s[i] = -1 := by unfold wZ; rw [hx]
    rw [hz, dT (by omega)]
    simp only [hw, Bool.false_and, cond_true, Bool.false_eq_true, if_false]
  ·rw [dF (p := (i : Int) < s.size) (by omega), List.drop_of_length_le (by rw [bs_length]; omega)]
   rfl
theorem hexstep (u d : Nat) (hu : u < 18446744073709551616) (hd : d < 16) : IntKind.i64.wrap (IntKind.i64.wrap (sint u * 16) + (d : Int)) = sint ((u * 16 + d) % 18446744073709551616) := by
 unfold IntKind.wrap sint
 simp [IntKind.bits, IntKind.signed]
 omega
theorem hex_loop (s : ByteArray) (hs : s.size ≤ 1000000) (J : Int → Option (Int × Int)) : ∀ (d i k u u' : Nat), s.size - i ≤ d → i ≤ s.size → d < k → u < 18446744073709551616 → szB true u ((bs s).drop i) = some u' →
  r02_read.l0 k s J (sint u) (i : Int) = J (sint u')
 | d, i, k, u, u', hd, hi, hk, hu, hz => by
  obtain ⟨k, rfl⟩ : ∃ m, k = m + 1 := ⟨k - 1, by omega⟩
  simp only [r02_read.l0]
  rcases Nat.lt_or_ge i s.size with h | h
  ·obtain ⟨d, rfl⟩ : ∃ m, d = m + 1 := ⟨d - 1, by omega⟩
   rw [dT (p := (i : Int) < s.size) (by omega), sIdx_at s i h, wi ((i : Int) + 1) (by omega) (by omega), show (i : Int) + 1 = ((i + 1 : Nat) : Int) by omega]
   rw [drop_s s i h] at hz
   simp only [cond_true, Option.bind_some, worth_eq]
   simp only [szB] at hz
   cases hw : wD true s[i] with
   | none => rw [hw] at hz; cases hz
   | some x =>
    rw [hw] at hz
    have hx := (wD_lt hw).1
    have hzz : wZ true s[i] = x := by unfold wZ; rw [hw]
    rw [hzz, hexstep u x hu hx]
    exact hex_loop s hs J d (i + 1) k _ u' (by omega) (by omega) (by omega) (Nat.mod_lt _ (by omega)) hz
  ·rw [dF (p := (i : Int) < s.size) (by omega)]
   rw [List.drop_of_length_le (by rw [bs_length]; omega)] at hz
   cases hz
   rfl
theorem szB_mono : ∀ (l : Bs) (u u' : Nat), szB false u l = some u' → u ≤ 18446744073709551615 → u ≤ u'
 | [], u, u', h, _ => by cases h; exact Nat.le_refl _
 | b :: t, u, u', h, hu => by
  simp only [szB] at h
  cases hw : wD false b with
  | none => rw [hw] at h; cases h
  | some d =>
   rw [hw] at h
   have := szB_mono t _ u' h (by unfold stepU; simp; omega)
   unfold stepU at this
   simp at this
   omega
theorem tdiv10 (x : Int) (h : x ≤ 0) : Int.tdiv x 10 = -((-x) / 10) := by
 obtain ⟨n, hn⟩ : ∃ n : Nat, x = -(n : Int) := ⟨x.natAbs, by omega⟩
 subst hn
 rw [Int.neg_tdiv, show (10 : Int) = ((10 : Nat) : Int) from rfl, td]
 omega
theorem dec_loop2 (s : ByteArray) (hs : s.size ≤ 1000000) (J : Int → Option (Int × Int)) : ∀ (d i k u u' : Nat), s.size - i ≤ d → i ≤ s.size → d < k → u ≤ 9223372036854775808 → szB false u ((bs s).drop i) = some u' →
  r02_read.l1 k s J (-(u : Int)) (i : Int) = if u' > 9223372036854775808 then some (0, 14) else J (-(u' : Int))
 | d, i, k, u, u', hd, hi, hk, hu, hz => by
  obtain ⟨k, rfl⟩ : ∃ m, k = m + 1 := ⟨k - 1, by omega⟩
  simp only [r02_read.l1]
  rcases Nat.lt_or_ge i s.size with h | h
  ·obtain ⟨d, rfl⟩ : ∃ m, d = m + 1 := ⟨d - 1, by omega⟩
   rw [dT (p := (i : Int) < s.size) (by omega), sIdx_at s i h, wi ((i : Int) + 1) (by omega) (by omega), show (i : Int) + 1 = ((i + 1 : Nat) : Int) by omega]
   rw [drop_s s i h] at hz
   simp only [cond_true, Option.bind_some, worth_eq]
   simp only [szB] at hz
   cases hw : wD false s[i] with
   | none => rw [hw] at hz; cases hz
   | some x =>
    rw [hw] at hz
    have hx := (wD_lt hw).2 rfl
    have hzz : wZ false s[i] = x := by unfold wZ; rw [hw]
    rw [hzz, wi ((-9223372036854775808 : Int) + (x : Int)) (by omega) (by omega), tdiv10 _ (by omega)]
    have hm := szB_mono _ _ u' hz (by unfold stepU; simp; omega)
    have hst : stepU false u x = min (10 * u + x) 18446744073709551615 := rfl
    rw [wi (-(-(-9223372036854775808 + (x : Int)) / 10)) (by omega) (by omega)]
    by_cases hb : 10 * u + x > 9223372036854775808
    ·rw [dT (by omega), if_pos (by omega)]
     rfl
    ·rw [dF (by omega)]
     simp only [cond_false]
     rw [wi (-(u : Int) * 10) (by omega) (by omega), wi (-(u : Int) * 10 - (x : Int)) (by omega) (by omega)]
     have he : stepU false u x = 10 * u + x := by rw [hst]; omega
     have hz : szB false (stepU false u x) ((bs s).drop (i + 1)) = some u' := hz
     rw [he] at hz
     rw [show -(u : Int) * 10 - (x : Int) = -((10 * u + x : Nat) : Int) by omega]
     exact dec_loop2 s hs J d (i + 1) k _ u' (by omega) (by omega) (by omega) (by omega) hz
  ·rw [dF (p := (i : Int) < s.size) (by omega)]
   rw [List.drop_of_length_le (by rw [bs_length]; omega)] at hz
   cases hz
   rw [if_neg (by omega)]
   rfl
theorem szB_lt : ∀ (l : Bs) (hex : Bool) (u u' : Nat), szB hex u l = some u' → u < 18446744073709551616 → u' < 18446744073709551616
 | [], _, u, u', h, hu => by cases h; exact hu
 | b :: t, hex, u, u', h, hu => by
  simp only [szB] at h
  cases hw : wD hex b with
  | none => rw [hw] at h; cases h
  | some d =>
   rw [hw] at h
   refine szB_lt t hex _ u' h ?_
   unfold stepU
   split
   ·exact Nat.mod_lt _ (by omega)
   ·omega
def readT (k : Nat) (hex : Bool) (x2 : ByteArray) : Option (Int × Int) :=
 cond ((x2.size : Int) == (0 : Int)) (some ((0 : Int), (4 : Int))) (joinF (fun (_ : Unit) => cond hex (joinF (fun (x7 : Int) => joinF (fun (x9 : Int) => some (x9, (0 : Int))) (fun J10 => cond false (J10 (IntKind.i64.wrap (0 - x7))) (J10 x7))) (fun J8 => r02_read.l0 k x2 J8 (0 : Int) (0 : Int))) (joinF (fun (x18 : Int) => cond false (some (x18, (0 : Int))) (cond (x18 == (-9223372036854775808 : Int)) (some ((0 : Int), (14 : Int))) (some (IntKind.i64.wrap (0 - x18), (0 : Int))))) (fun J19 => r02_read.l1 k x2 J19 (0 : Int) (0 : Int)))) (fun J5 => r02_read.l2 k hex x2 J5 (0 : Int)))
theorem readT_eq (k : Nat) (hex : Bool) (x : ByteArray) (hs : x.size ≤ 1000000) (hk : x.size < k) : readT k hex x = some (if bs x = [] then ((0, 4) : Int × Int) else match szB hex 0 (bs x) with | none => (0, 4) | some u => if !hex && decide (u > 9223372036854775807) then (0, 14) else (sint u, 0)) := by
 unfold readT joinF
 by_cases he : bs x = []
 ·have h0 : x.size = 0 := by rw [← bs_length, he]; rfl
  rw [if_pos he, show ((x.size : Int) == 0) = true by rw [beq_iff_eq]; omega]
  rfl
 ·have h0 : x.size ≠ 0 := fun h => he (List.eq_nil_of_length_eq_zero (by rw [bs_length]; exact h))
  rw [if_neg he, show ((x.size : Int) == 0) = false by rw [beq_eq_false_iff_ne]; omega]
  simp only [cond_false]
  have hc := check_loop x hs hex (fun (_ : Unit) => cond hex (r02_read.l0 k x (fun x7 => some (x7, 0)) 0 0) (r02_read.l1 k x (fun x18 => cond (x18 == (-9223372036854775808 : Int)) (some ((0 : Int), (14 : Int))) (some (IntKind.i64.wrap (0 - x18), (0 : Int)))) 0 0)) x.size 0 k (by omega) (by omega) hk
  rw [show ((0 : Nat) : Int) = 0 from rfl, List.drop_zero] at hc
  refine hc.trans ?_
  rw [← szB_all hex (bs x) 0]
  cases hz : szB hex 0 (bs x) with
  | none => simp
  | some u =>
   rw [if_pos (show (some u).isSome = true from rfl)]
   have hlt := szB_lt _ _ _ _ hz (by omega)
   cases hex with
   | true =>
    have := hex_loop x hs (fun x7 => some (x7, 0)) x.size 0 k 0 u (by omega) (by omega) hk (by omega) hz
    rw [show sint 0 = 0 from rfl, show ((0 : Nat) : Int) = 0 from rfl] at this
    simp only [cond_true, this, Bool.not_true, Bool.false_and, Bool.false_eq_true, if_false]
   | false =>
    have := dec_loop2 x hs (fun x18 => cond (x18 == (-9223372036854775808 : Int)) (some ((0 : Int), (14 : Int))) (some (IntKind.i64.wrap (0 - x18), (0 : Int)))) x.size 0 k 0 u (by omega) (by omega) hk (by omega) hz
    rw [show -((0 : Nat) : Int) = 0 from rfl, show ((0 : Nat) : Int) = 0 from rfl] at this
    simp only [cond_false, this, Bool.not_false, Bool.true_and]
    by_cases h1 : u > 9223372036854775808
    ·rw [if_pos h1, if_pos (by simp; omega)]
    ·rw [if_neg h1]
     by_cases h2 : u = 9223372036854775808
     ·rw [show ((-(u : Int)) == (-9223372036854775808 : Int)) = true by rw [beq_iff_eq]; omega, if_pos (by simp; omega)]
      rfl
     ·rw [show ((-(u : Int)) == (-9223372036854775808 : Int)) = false by rw [beq_eq_false_iff_ne]; omega, if_neg (by simp; omega), wi _ (by omega) (by omega)]
      simp only [cond_false]
      unfold sint
      rw [if_pos (by omega)]
      congr 2
      omega
theorem hexHead_short : ∀ (l : Bs), l.length ≤ 1 → hexHead l = false
 | [], _ => rfl
 | [a], _ => by
  unfold hexHead
  simp only [List.isPrefixOf, Bool.and_false, Bool.or_self]
 | a :: b :: t, h => by simp at h
theorem parse_eq (k : Nat) (s : ByteArray) (hs : s.size ≤ 1000000) (hk : s.size < k) : r02_Parse.f k s = some (parseF (bs s)) := by
 have hq : ((cond (decide ((s.size : Int) ≥ (2 : Int))) ((sIdx s (0 : Int)).bind fun c38 : UInt8 => cond ((c38.toNat : Int) == (48 : Int)) ((sIdx s (1 : Int)).bind fun c40 : UInt8 => cond ((c40.toNat : Int) == (120 : Int)) (some true) ((sIdx s (1 : Int)).bind fun c42 : UInt8 => some ((c42.toNat : Int) == (88 : Int)))) (some false)) (some false)) : Option Bool) = some (hexHead (bs s)) := by
  unfold hexHead
  rcases Nat.lt_or_ge 1 s.size with h | h
  ·rw [dT (p := (s.size : Int) ≥ 2) (by omega)]
   have e0 := sIdx_at s 0 (by omega)
   have e1 := sIdx_at s 1 h
   have d0 := drop_s s 0 (by omega)
   have d1 := drop_s s 1 h
   rw [show ((0 : Nat) : Int) = 0 from rfl] at e0
   rw [show ((1 : Nat) : Int) = 1 from rfl] at e1
   rw [List.drop_zero] at d0
   rw [d0, d1, e0, e1]
   generalize s[0] = a
   generalize s[1] = b
   simp only [cond_true, Option.bind_some]
   rw [show ((a.toNat : Int) == 48) = decide (a = 48) from bq a 48, show ((b.toNat : Int) == 120) = decide (b = 120) from bq b 120, show ((b.toNat : Int) == 88) = decide (b = 88) from bq b 88]
   by_cases ha : a = 48
   ·subst ha
    rw [dT rfl]
    have hx : ∀ y : UInt8, ([48, y].isPrefixOf (48 :: b :: (bs s).drop (1 + 1))) = ((y == b) && true) := fun y => rfl
    rw [hx, hx]
    simp only [cond_true]
    by_cases hb : b = 120
    ·subst hb; rfl
    ·rw [dF hb, show ((120 : UInt8) == b) = false by rw [beq_eq_false_iff_ne]; exact fun e => hb e.symm]
     simp only [cond_false, Bool.false_or]
     have e : ((88 : UInt8) == b) = decide (b = 88) := by
      rw [Bool.eq_iff_iff, beq_iff_eq, decide_eq_true_eq]
      exact eq_comm
     rw [e]
     cases decide (b = 88) <;> rfl
   ·rw [dF ha]
    simp only [cond_false, List.isPrefixOf]
    rw [show ((48 : UInt8) == a) = false by rw [beq_eq_false_iff_ne]; exact fun e => ha e.symm]
    rfl
  ·rw [dF (p := (s.size : Int) ≥ 2) (by omega)]
   have hl : (bs s).length ≤ 1 := by rw [bs_length]; omega
   have := hexHead_short (bs s) hl
   unfold hexHead at this
   rw [this]
   rfl
 unfold r02_Parse.f r02_read.f
 rw [hq]
 unfold parseF
 simp only [Option.bind_some]
 have hT : ∀ hex x2, readT k hex x2 = cond ((x2.size : Int) == (0 : Int)) (some ((0 : Int), (4 : Int))) (joinF (fun (_ : Unit) => cond hex (joinF (fun (x7 : Int) => joinF (fun (x9 : Int) => some (x9, (0 : Int))) (fun J10 => cond false (J10 (IntKind.i64.wrap (0 - x7))) (J10 x7))) (fun J8 => r02_read.l0 k x2 J8 (0 : Int) (0 : Int))) (joinF (fun (x18 : Int) => cond false (some (x18, (0 : Int))) (cond (x18 == (-9223372036854775808 : Int)) (some ((0 : Int), (14 : Int))) (some (IntKind.i64.wrap (0 - x18), (0 : Int))))) (fun J19 => r02_read.l1 k x2 J19 (0 : Int) (0 : Int)))) (fun J5 => r02_read.l2 k hex x2 J5 (0 : Int))) := fun _ _ => rfl
 simp only [← hT]
 have hz := fun hex x => sizeG_szB hex (x : Bs).length 0 x (Nat.le_refl _)
 unfold sizeL
 simp only [hz]
 unfold joinF
 generalize hexHead (bs s) = hex at *
 cases hex with
 | false =>
  simp only [cond_false, Bool.false_eq_true, if_false]
  rw [readT_eq k false s hs hk]
  simp only [Option.bind_some]
  rfl
 | true =>
  simp only [cond_true, if_true]
  rcases Nat.lt_or_ge 1 s.size with h | h
  ·have := sSub_str s 2 s.size (by omega) (Nat.le_refl _)
   rw [show ((2 : Nat) : Int) = 2 from rfl, List.take_of_length_le (by rw [List.length_drop, bs_length]; omega)] at this
   rw [this]
   simp only [Option.bind_some]
   rw [readT_eq k true _ (by rw [str_size, List.length_drop, bs_length]; omega) (by rw [str_size, List.length_drop, bs_length]; omega), bs_str]
   rfl
  ·exfalso
   rw [dF (p := (s.size : Int) ≥ 2) (by omega)] at hq
   cases hq
end Go.Proofs.YtidiahkobapnjaaGreatDoor
namespace Go.Proofs.YtidiahkobapnjaaGreatDoor
open Go Go.RowKit Lx
def nlen (l : Bs) : Nat := (l.takeWhile (fun b => b != 10)).length
theorem rune_lf (b : UInt8) (t : Bs) : (decL (b :: t)).1 = 10 ↔ b = 10 := by
 by_cases h : b.toNat < 128
 ·rw [decL_low b t h]
  constructor
  ·intro e; exact UInt8.toNat_inj.1 (by show b.toNat = 10; exact e)
  ·intro e; subst e; rfl
 ·have := decL_high b t (by omega)
  constructor
  ·intro e; omega
  ·intro e; subst e; exact absurd (by decide) h
theorem nlen_app (x y : Bs) (h : ∀ b ∈ x, b ≠ 10) : nlen (x ++ y) = x.length + nlen y := by
 unfold nlen
 rw [List.takeWhile_append_of_pos (fun b hb => by simpa using h b hb), List.length_append]
theorem run_line_eq : ∀ (n : Nat) (l : Bs), l.length ≤ n → runL inLineR l = nlen l
 | n, [], _ => rfl
 | 0, b :: t, h => by simp at h
 | n + 1, b :: t, h => by
  rw [runL_step inLineR (b :: t) (by simp)]
  unfold inLineR
  by_cases hb : b = 10
  ·subst hb
   rw [if_neg (by simp [(rune_lf 10 t).2 rfl])]
   rfl
  ·have hr : (decL (b :: t)).1 ≠ 10 := fun e => hb ((rune_lf b t).1 e)
   rw [if_pos (by simpa using hr)]
   have hw := decL_width (b :: t)
   have hw3 := hw.2.2 (by simp)
   have ih := run_line_eq n ((b :: t).drop (decL (b :: t)).2) (by rw [List.length_drop]; omega)
   unfold inLineR at ih
   rw [ih]
   conv => rhs; rw [← List.take_append_drop (decL (b :: t)).2 (b :: t)]
   rw [nlen_app _ _ (fun x hx => ?_), List.length_take, Nat.min_eq_left hw3]
   intro e
   subst e
   have := decL_bytes (b :: t) 10 hx (by decide)
   exact hr this.1
theorem line_loop (s : ByteArray) (hs : s.size ≤ 1000000) (J : Int → Option (List (Int × ByteArray × Int × Int) × Int × Int)) : ∀ (d i k : Nat), s.size - i ≤ d → i ≤ s.size → d < k →
  r11_Scan.l1 k s J (i : Int) = J ((i + nlen ((bs s).drop i) : Nat) : Int)
 | d, i, k, hd, hi, hk => by
  obtain ⟨k, rfl⟩ : ∃ m, k = m + 1 := ⟨k - 1, by omega⟩
  simp only [r11_Scan.l1]
  rcases Nat.lt_or_ge i s.size with h | h
  ·obtain ⟨d, rfl⟩ : ∃ m, d = m + 1 := ⟨d - 1, by omega⟩
   rw [dT (p := (i : Int) < s.size) (by omega), sIdx_at s i h, wi ((i : Int) + 1) (by omega) (by omega), show (i : Int) + 1 = ((i + 1 : Nat) : Int) by omega]
   have ih := line_loop s hs J d (i + 1) k (by omega) (by omega) (by omega)
   rw [drop_s s i h]
   simp only [cond_true, Option.bind_some]
   rw [show ((s[i].toNat : Int) != 10) = decide (s[i] ≠ 10) from bn s[i] 10]
   by_cases hb : s[i] = 10
   ·rw [dF (by simpa using hb), show nlen (s[i] :: (bs s).drop (i + 1)) = 0 by unfold nlen; rw [List.takeWhile_cons_of_neg (by simpa using hb)]; rfl]
    rfl
   ·rw [dT hb, show nlen (s[i] :: (bs s).drop (i + 1)) = nlen ((bs s).drop (i + 1)) + 1 by unfold nlen; rw [List.takeWhile_cons_of_pos (by simpa using hb)]; rfl]
    simp only [cond_true]
    rw [ih]
    congr 2
    omega
  ·rw [dF (p := (i : Int) < s.size) (by omega), List.drop_of_length_le (by rw [bs_length]; omega)]
   rfl
def scanP : (Int × Int) ⊕ List Tok → List (Int × ByteArray × Int × Int) × Int × Int
 | .inl (c, p) => ([], c, p)
 | .inr l => (l.map tokT, 0, 0)
def scanJ (s : ByteArray) (l3 : List (Int × ByteArray × Int × Int)) : Option (List (Int × ByteArray × Int × Int) × Int × Int) :=
 (apd 40 l3 [((6 : Int), (⟨#[]⟩ : ByteArray), (0 : Int), (s.size : Int))]).bind fun l10 => some (l10, (0 : Int), (0 : Int))
theorem runB_no (b : UInt8) (t : Bs) (h : blankB b = false) : runL blankR (b :: t) = 0 := by
 rw [runL_step blankR (b :: t) (by simp), if_neg]
 intro he
 by_cases hb : b.toNat < 128
 ·rw [decL_low b t hb] at he
  rw [blank_of he] at h
  cases h
 ·have := decL_high b t (by omega)
  unfold blankR at he
  simp at he
  omega
theorem rune_q (b : UInt8) (t : Bs) : (decL (b :: t)).1 = 34 ∨ (decL (b :: t)).1 = 39 ↔ b = 34 ∨ b = 39 := by
 by_cases hb : b.toNat < 128
 ·rw [decL_low b t hb]
  constructor
  ·rintro (h | h)
   ·exact .inl (UInt8.toNat_inj.1 h)
   ·exact .inr (UInt8.toNat_inj.1 h)
  ·rintro (h | h) <;> subst h
   ·exact .inl rfl
   ·exact .inr rfl
 ·have := decL_high b t (by omega)
  constructor
  ·rintro (h | h) <;> omega
  ·rintro (h | h) <;> (subst h; exact absurd (by decide) hb)
theorem textG_fuel (q : UInt8) : ∀ (f g : Nat) (l acc : Bs) (i : Nat), l.length < f → l.length < g → textG q f l acc i = textG q g l acc i
 | 0, _, l, _, _, h, _ => by omega
 | _, 0, l, _, _, _, h => by omega
 | f + 1, g + 1, [], _, _, _, _ => rfl
 | f + 1, g + 1, b :: t, acc, i, h, h' => by
  simp only [List.length_cons] at h h'
  rw [textG_cons, textG_cons]
  split
  ·rfl
  ·split
   ·rfl
   ·split
    ·cases hE : escF t with
     | ended => rfl
     | unfit => rfl
     | ok e n =>
      have := escF_len hE
      exact textG_fuel q f g _ _ _ (by rw [List.length_drop]; simp; omega) (by rw [List.length_drop]; simp; omega)
    ·exact textG_fuel q f g _ _ _ (by omega) (by omega)
set_option maxRecDepth 100000 in
set_option maxHeartbeats 1000000 in
theorem scan_loop (s : ByteArray) (hs : s.size ≤ 20000) : ∀ (d at_ k : Nat) (acc : List Tok), s.size - at_ ≤ d → at_ ≤ s.size → acc.length ≤ at_ → d + 30000 ≤ k →
  r11_Scan.l0 k s (scanJ s) (acc.map tokT) (at_ : Int) = some (scanP (scanL ((bs s).drop at_) at_ acc)) := by
  intro d
  induction d using Nat.strongRecOn with
  | _ d IH =>
  intro at_ k acc hd ha hacc hk
  have hs1 : s.size ≤ 1000000 := by omega
  obtain ⟨k, rfl⟩ : ∃ m, k = m + 1 := ⟨k - 1, by omega⟩
  simp only [r11_Scan.l0]
  rcases Nat.lt_or_ge at_ s.size with h | h
  ·obtain ⟨d, rfl⟩ : ∃ m, d = m + 1 := ⟨d - 1, by omega⟩
   have ih := fun (n : Nat) (acc : List Tok) (h1 : 1 ≤ n) (h2 : at_ + n ≤ s.size) (h3 : acc.length ≤ at_ + n) => IH d (by omega) (at_ + n) k acc (by omega) h2 h3 (by omega)
   have hat := at_eq s at_ k hs1 h (by omega)
   have hnm := names_eq s hs1 at_ k (by omega) (by omega)
   have htx := text_eq s hs1 at_ k h (by omega)
   have hsg := sign_eq k s at_ hs1 h
   have hln := fun J => line_loop s hs1 J (s.size - at_) at_ k (Nat.le_refl _) ha (by omega)
   have hrl := runL_le' partR ((bs s).drop at_)
   have hdr := drop_s s at_ h
   have hlen : ((bs s).drop (at_ + 1)).length = s.size - (at_ + 1) := by rw [List.length_drop, bs_length]
   rw [List.length_drop, bs_length] at hrl
   have hnext : at_ + 1 < s.size → sIdx s ((at_ + 1 : Nat) : Int) = ((bs s).drop (at_ + 1)).head? := fun _ => sIdx_head s (at_ + 1)
   have hsub := fun (n : Nat) (h2 : at_ + n ≤ s.size) => sSub_str s at_ (at_ + n) (by omega) h2
   rw [dT (p := (at_ : Int) < s.size) (by omega), sIdx_at s at_ h, wi ((at_ : Int) + 1) (by omega) (by omega), show (at_ : Int) + 1 = ((at_ + 1 : Nat) : Int) by omega]
   rw [hdr] at hat hnm hsg hln hrl hsub ⊢
   have hdd : ∀ n, (s[at_] :: (bs s).drop (at_ + 1)).drop n = (bs s).drop (at_ + n) := fun n => by rw [← hdr, List.drop_drop]
   generalize hc : s[at_] = c at *
   generalize ht : (bs s).drop (at_ + 1) = t at *
   have hcl := c.toNat_lt
   simp only [cond_true, Option.bind_some]
   have hbl : ((cond ((c.toNat : Int) == (32 : Int)) (some true) (cond ((c.toNat : Int) == (9 : Int)) (some true) (cond ((c.toNat : Int) == (10 : Int)) (some true) (some ((c.toNat : Int) == (13 : Int)))))) : Option Bool) = some (blankB c) := by
    unfold blankB
    rw [show ((c.toNat : Int) == 32) = (c == 32) from beq_byte c 32, show ((c.toNat : Int) == 9) = (c == 9) from beq_byte c 9, show ((c.toNat : Int) == 10) = (c == 10) from beq_byte c 10, show ((c.toNat : Int) == 13) = (c == 13) from beq_byte c 13]
    cases (c == 32) <;> cases (c == 9) <;> cases (c == 10) <;> rfl
   rw [hbl]
   simp only [Option.bind_some]
   cases hB : blankB c with
   | true =>
    simp only [cond_true]
    have := scanL_blanks t at_ acc [c] (by simpa using hB)
    rw [show c :: t = [c] ++ t from rfl, this, ← ht]
    exact ih 1 acc (by omega) (by omega) (by omega)
   | false =>
    simp only [cond_false]
    have hr0 := runB_no c t hB
    have hstep := scanL_step (c :: t) at_ acc
    rw [hr0, List.drop_zero] at hstep
    simp only [Nat.add_zero] at hstep
    have hst : stepF (c :: t) = if [45, 45].isPrefixOf (c :: t) then .skip (runL inLineR (c :: t)) else if letterR (decL (c :: t)).1 then (if runL partR (c :: t) > 40 then .bad 14 0 else .tok (if isWordF ((c :: t).take (runL partR (c :: t))) then 2 else 1) ((c :: t).take (runL partR (c :: t))) 0 (runL partR (c :: t)))
     else if digitR (decL (c :: t)).1 then (if (parseF ((c :: t).take (runL partR (c :: t)))).2 ≠ 0 then .bad (parseF ((c :: t).take (runL partR (c :: t)))).2 0 else .tok 3 ((c :: t).take (runL partR (c :: t))) (parseF ((c :: t).take (runL partR (c :: t)))).1 (runL partR (c :: t)))
     else if (decL (c :: t)).1 = 34 ∨ (decL (c :: t)).1 = 39 then (match textG (UInt8.ofNat (decL (c :: t)).1) (c :: t).length t [] 1 with | .bad c r => .bad c r | .ok v k => .tok 4 v 0 k)
     else (match signF (c :: t) with | none => .bad 4 0 | some s => .tok 5 s 0 s.length) := by
     unfold stepF
     rw [if_neg (by simp)]
     rfl
    have hdash : ((cond ((c.toNat : Int) == (45 : Int)) (cond (decide (((at_ + 1 : Nat) : Int) < (s.size : Int))) ((sIdx s ((at_ + 1 : Nat) : Int)).bind fun c74 : UInt8 => some ((c74.toNat : Int) == (45 : Int))) (some false)) (some false)) : Option Bool) = some ([45, 45].isPrefixOf (c :: t)) := by
     rw [show ((c.toNat : Int) == 45) = decide (c = 45) from bq c 45]
     by_cases h45 : c = 45
     ·subst h45
      rw [dT rfl]
      simp only [cond_true]
      rcases Nat.lt_or_ge (at_ + 1) s.size with h1 | h1
      ·rw [dT (p := ((at_ + 1 : Nat) : Int) < s.size) (by omega), hnext h1]
       cases t with
       | nil => simp at hlen; omega
       | cons e t =>
        simp only [cond_true, List.head?_cons, Option.bind_some]
        rw [show ((e.toNat : Int) == 45) = (e == 45) from beq_byte e 45]
        show some (e == 45) = some ((45 == (45 : UInt8)) && ((45 == e) && true))
        rw [show ((45 : UInt8) == e) = (e == 45) by rw [Bool.eq_iff_iff, beq_iff_eq, beq_iff_eq]; exact eq_comm]
        cases (e == 45) <;> rfl
      ·rw [dF (p := ((at_ + 1 : Nat) : Int) < s.size) (by omega)]
       have : t = [] := List.eq_nil_of_length_eq_zero (by omega)
       subst this
       rfl
     ·rw [dF h45]
      show some false = some ((45 == c) && _)
      rw [show ((45 : UInt8) == c) = false by rw [beq_eq_false_iff_ne]; exact fun e => h45 e.symm]
      rfl
    rw [hdash]
    simp only [Option.bind_some]
    have htok : ∀ (n : Nat) (kind : Int) (text : Bs) (v : Int), 1 ≤ n → at_ + n ≤ s.size → stepF (c :: t) = .tok kind text v n →
      ((apd 40 (acc.map tokT) [(kind, str text, v, (at_ : Int))]).bind fun l45 => r11_Scan.l0 k s (scanJ s) l45 (IntKind.i64.wrap ((at_ : Int) + (n : Int)))) = some (scanP (scanL (c :: t) at_ acc)) := by
     intro n kind text v h1 h2 h3
     rw [h3] at hstep
     rw [hstep, apd_ok _ _ _ (by simp; omega)]
     simp only [Option.bind_some]
     rw [wi _ (by omega) (by omega), show (at_ : Int) + (n : Int) = ((at_ + n : Nat) : Int) by omega, hdd]
     have := ih n (acc ++ [⟨kind, text, v, at_⟩]) h1 h2 (by simp; omega)
     rw [List.map_append] at this
     exact this
    have hbad : ∀ (cd : Int) (rel : Nat), stepF (c :: t) = .bad cd rel → scanP (scanL (c :: t) at_ acc) = ([], cd, ((at_ + rel : Nat) : Int)) := by
     intro cd rel h3
     rw [h3] at hstep
     rw [hstep]
     rfl
    cases hp : [45, 45].isPrefixOf (c :: t) with
    | true =>
     rw [hp, if_pos rfl] at hst
     rw [hst] at hstep
     rw [run_line_eq _ _ (Nat.le_refl _)] at hstep
     simp only [cond_true, joinF]
     rw [hln]
     have hn1 : 1 ≤ nlen (c :: t) ∧ nlen (c :: t) ≤ s.size - at_ := by
      have := (stepF_take (c :: t)).1 _ hst
      rw [run_line_eq _ _ (Nat.le_refl _)] at this
      simp only [List.length_cons] at this
      omega
     rw [hstep]
     show _ = some (scanP (scanL (List.drop (nlen (c :: t)) (c :: t)) (at_ + nlen (c :: t)) acc))
     rw [hdd]
     exact ih (nlen (c :: t)) acc hn1.1 (by omega) (by omega)
    | false =>
     rw [hp, if_neg (by simp)] at hst
     simp only [cond_false]
     rw [hat]
     simp only [Option.bind_some, joinF, rletter_eq, rdigit_eq]
     have hrq := rune_q c t
     have hwd := (decL_width (c :: t)).1
     have hrun1 : letterR (decL (c :: t)).1 = true ∨ digitR (decL (c :: t)).1 = true → 1 ≤ runL partR (c :: t) := fun h => by
      rw [runL_step partR _ (by simp), if_pos (by unfold partR; rcases h with h | h <;> simp [h])]
      omega
     cases hL : letterR (decL (c :: t)).1 with
     | true =>
      rw [hL, if_pos rfl] at hst
      have h1 := hrun1 (.inl hL)
      simp only [cond_true]
      rw [hnm]
      simp only [Option.bind_some]
      by_cases h40 : runL partR (c :: t) > 40
      ·rw [dT (p := ((runL partR (c :: t) : Nat) : Int) > 40) (by omega)]
       rw [if_pos h40] at hst
       rw [hbad _ _ hst]
       rfl
      ·rw [dF (p := ((runL partR (c :: t) : Nat) : Int) > 40) (by omega)]
       rw [if_neg h40] at hst
       simp only [cond_false]
       rw [wi ((at_ : Int) + (runL partR (c :: t) : Nat)) (by omega) (by omega), show (at_ : Int) + ((runL partR (c :: t) : Nat) : Int) = ((at_ + runL partR (c :: t) : Nat) : Int) by omega, hsub _ (by omega), Nat.add_sub_cancel_left]
       simp only [Option.bind_some, isWord_eq, bs_str]
       cases hW : isWordF ((c :: t).take (runL partR (c :: t))) with
       | true =>
        rw [hW] at hst
        simp only [cond_true]
        rw [show ((at_ + runL partR (c :: t) : Nat) : Int) = (at_ : Int) + ((runL partR (c :: t) : Nat) : Int) by omega]
        have := htok (runL partR (c :: t)) 2 _ 0 h1 (by omega) hst
        rw [wi _ (by omega) (by omega)] at this
        exact this
       | false =>
        rw [hW] at hst
        simp only [cond_false]
        rw [show ((at_ + runL partR (c :: t) : Nat) : Int) = (at_ : Int) + ((runL partR (c :: t) : Nat) : Int) by omega]
        have := htok (runL partR (c :: t)) 1 _ 0 h1 (by omega) hst
        rw [wi _ (by omega) (by omega)] at this
        exact this
     | false =>
      rw [hL, if_neg (by simp)] at hst
      simp only [cond_false]
      cases hD : digitR (decL (c :: t)).1 with
      | true =>
       rw [hD, if_pos rfl] at hst
       have h1 := hrun1 (.inr hD)
       simp only [cond_true]
       rw [hnm]
       simp only [Option.bind_some]
       rw [wi ((at_ : Int) + (runL partR (c :: t) : Nat)) (by omega) (by omega), show (at_ : Int) + ((runL partR (c :: t) : Nat) : Int) = ((at_ + runL partR (c :: t) : Nat) : Int) by omega, hsub _ (by omega), Nat.add_sub_cancel_left]
       simp only [Option.bind_some]
       have hsz : (str ((c :: t).take (runL partR (c :: t)))).size ≤ 20000 := by rw [str_size, List.length_take]; simp only [List.length_cons]; omega
       rw [parse_eq k _ (by omega) (by omega), bs_str]
       simp only [Option.bind_some]
       by_cases hP : (parseF ((c :: t).take (runL partR (c :: t)))).2 = 0
       ·rw [show ((parseF ((c :: t).take (runL partR (c :: t)))).2 != 0) = false by rw [hP]; rfl]
        rw [if_neg (by simpa using hP)] at hst
        simp only [cond_false]
        rw [show ((at_ + runL partR (c :: t) : Nat) : Int) = (at_ : Int) + ((runL partR (c :: t) : Nat) : Int) by omega]
        have := htok (runL partR (c :: t)) 3 _ _ h1 (by omega) hst
        rw [wi _ (by omega) (by omega)] at this
        exact this
       ·rw [show ((parseF ((c :: t).take (runL partR (c :: t)))).2 != 0) = true by rw [bne_iff_ne]; exact hP]
        rw [if_pos hP] at hst
        rw [hbad _ _ hst]
        rfl
      | false =>
       rw [hD, if_neg (by simp)] at hst
       simp only [cond_false]
       have hqb : ((cond ((c.toNat : Int) == (34 : Int)) (some true) (some ((c.toNat : Int) == (39 : Int)))) : Option Bool) = some (decide (c = 34 ∨ c = 39)) := by
        rw [show ((c.toNat : Int) == 34) = decide (c = 34) from bq c 34, show ((c.toNat : Int) == 39) = decide (c = 39) from bq c 39]
        by_cases q1 : c = 34
        ·rw [dT q1, dT (show c = 34 ∨ c = 39 from .inl q1)]; rfl
        ·rw [dF q1]
         by_cases q2 : c = 39
         ·rw [dT q2, dT (show c = 34 ∨ c = 39 from .inr q2)]; rfl
         ·rw [dF q2, dF (show ¬ (c = 34 ∨ c = 39) from fun h => h.elim q1 q2)]; rfl
       rw [hqb]
       simp only [Option.bind_some]
       by_cases hQ : c = 34 ∨ c = 39
       ·rw [dT hQ]
        rw [if_pos (hrq.2 hQ)] at hst
        simp only [cond_true]
        have hrc : UInt8.ofNat (decL (c :: t)).1 = c := by
         rw [decL_low c t (by rcases hQ with rfl | rfl <;> decide)]
         simp
        rw [hrc, textG_fuel c (c :: t).length (s.size - at_) t [] 1 (by simp) (by omega)] at hst
        rw [htx]
        simp only [Option.bind_some]
        cases hT : textG c (s.size - at_) t [] 1 with
        | bad cd rel =>
         rw [hT] at hst
         have hcd : cd ≠ 0 := bad_ne _ _ _ hst
         simp only [textP]
         rw [show (cd != 0) = true by rw [bne_iff_ne]; exact hcd, hbad _ _ hst]
         rfl
        | ok v n =>
         rw [hT] at hst
         have hn := (stepF_take (c :: t)).2 _ _ _ _ hst
         simp only [List.length_cons] at hn
         simp only [textP]
         rw [show ((0 : Int) != 0) = false from rfl]
         simp only [cond_false]
         exact htok n 4 v 0 hn.1 (by omega) hst
       ·rw [dF hQ]
        rw [if_neg (fun h => hQ (hrq.1 h))] at hst
        simp only [cond_false]
        rw [hsg]
        simp only [Option.bind_some, sgnR]
        cases hS : signF (c :: t) with
        | none =>
         rw [hS] at hst
         rw [hbad _ _ hst]
         rfl
        | some x =>
         rw [hS] at hst
         have hn := (stepF_take (c :: t)).2 _ _ _ _ hst
         simp only [List.length_cons] at hn
         simp only []
         rw [str_size, show ((x.length : Int) == 0) = false by rw [beq_eq_false_iff_ne]; omega]
         simp only [cond_false]
         exact htok x.length 5 x 0 hn.1 (by omega) hst
  ·have e : at_ = s.size := by omega
   rw [dF (p := (at_ : Int) < s.size) (by omega), List.drop_of_length_le (by rw [bs_length]; omega)]
   simp only [cond_false]
   have : scanL [] at_ acc = .inr (acc ++ [⟨6, [], 0, at_⟩]) := by rw [scanL_step]; rfl
   rw [this]
   unfold scanJ
   rw [apd_ok _ _ _ (by simp; omega)]
   simp only [Option.bind_some, scanP, List.map_append]
   rw [e]
   rfl
theorem scan_eq (k : Nat) (s : ByteArray) (hk : 50000 ≤ k) : r11_Scan.f k s = some (lexR s) := by
 unfold r11_Scan.f lexR
 by_cases h : s.size ≤ 20000
 ·rw [dF (by omega), scanF_small _ (by rw [bs_length]; exact h)]
  simp only [cond_false]
  have := scan_loop s h s.size 0 k [] (by omega) (by omega) (by simp) (by omega)
  rw [List.drop_zero] at this
  refine Eq.trans this ?_
  cases scanL (bs s) 0 [] with
  | inl x => obtain ⟨c, p⟩ := x; rfl
  | inr l => rfl
 ·rw [dT (by omega)]
  unfold scanF
  rw [if_pos (by rw [bs_length]; omega)]
  rfl
end Go.Proofs.YtidiahkobapnjaaGreatDoor
namespace Go.Proofs.YtidiahkobapnjaaGreatDoor
open Go Go.RowKit Lx
theorem parseR_eq (k : Nat) (hk : 2000000 ≤ k) (s : ByteArray) : r12_Parse.f k s = some (parseV s) := by
 unfold r12_Parse.f
 rw [scan_eq k s (by omega)]
 unfold lexR
 simp only [Option.bind_some]
 cases hs : scanF (bs s) with
 | inl x =>
  obtain ⟨c, p⟩ := x
  have := scanF_ne' _ _ _ hs
  rw [parseV_inl hs]
  simp only
  rw [show (c != 0) = true by rw [bne_iff_ne]; exact this]
  rfl
 | inr t =>
  have hT := scan_toks s t hs
  simp only [bne_self_eq_false, cond_false]
  have hl : (t.map tokT).length ≤ 400000 := by have := hT.len; omega
  have h0 : t.map tokT ≠ [] := fun e => by have := hT.good; rw [e] at this; exact this
  have ha : AtOk (t.map tokT) := fun x hx => (hT.at_ x hx).1
  have hf := fblockR_ok hl ha h0 k true hT.good (List.suffix_refl _) (by have := hT.len; omega)
  rw [ix_self] at hf
  rcases vAll_cases hT with ⟨b, r, hb, hB, h6⟩ | ⟨i, hb, he⟩
  ·have hw := fBlock true hT.good
   rw [hb] at hw hf
   obtain ⟨hg, _, hsuf⟩ := hw
   have hf : r12_reader_block.f k (t.map tokT) 0 (-1) true = some (eT3 b (ix (t.map tokT) r) (-1)) := hf
   rw [hf]
   simp only [Option.bind_some, joinF, eT3]
   rw [idx_hd hg hsuf, dec_t (p := (-1 : Int) < 0) (by omega)]
   simp only [cond_true, Option.bind_some]
   rcases h6 with ⟨h6, he⟩ | ⟨h6, he⟩
   ·rw [parseV_ok hs he, show ((hd r).1 != 6) = false by rw [bne_eq_false_iff_eq]; exact h6]
    rfl
   ·rw [parseV_bad hs he, show ((hd r).1 != 6) = true by rw [bne_iff_ne]; exact h6]
    simp only [cond_true]
    rw [atR_ok k hg hsuf]
    simp only [Option.bind_some]
    rw [bad_ok (by omega) h0 k]
    simp only [Option.bind_some]
    have := (ha.suf hsuf).hd
    rw [dec_t (p := (hd r).2.2.2 ≥ 0) (by omega)]
    rfl
  ·rw [hb] at hf
   obtain ⟨h1, a, _, hf⟩ := hf
   rw [hf, parseV_bad hs he]
   simp only [Option.bind_some, joinF, eT3]
   rw [dec_f (p := i < 0) (by omega)]
   simp only [cond_false, Option.bind_some]
   rw [dec_t (p := i ≥ 0) (by omega)]
   rfl
theorem alike_loop (J : Unit → Option Bool) (R : TA) (hJ : J () = some true) : ∀ (t pre : List Tree) (m : Nat), pre.length + t.length ≤ 10000000 → t.length + 1 ≤ m →
  (∀ x ∈ t, R.law12_treesAlike x.kind x.text x.n x.at_ x.kids x.kind x.text x.n x.at_ x.kids = some true) → law12_treesAlike.l0 m R (pre ++ t) (pre ++ t) J (pre.length : Int) = some true
 | [], pre, m, hl, hm, _ => by
  obtain ⟨m, rfl⟩ : ∃ m', m = m' + 1 := ⟨m - 1, by omega⟩
  simp only [law12_treesAlike.l0]
  rw [dec_f (by simp)]
  exact hJ
 | x :: t, pre, m, hl, hm, hR => by
  obtain ⟨m, rfl⟩ : ∃ m', m = m' + 1 := ⟨m - 1, by omega⟩
  simp only [List.length_cons] at hl hm
  have ih := alike_loop J R hJ t (pre ++ [x]) m (by simp; omega) (by omega) (fun y hy => hR y (List.mem_cons_of_mem _ hy))
  simp only [law12_treesAlike.l0]
  rw [dec_t (by simp; omega), idx_mid]
  simp only [cond_true, Option.bind_some]
  rw [hR x (List.mem_cons_self ..)]
  simp only [Option.bind_some, Bool.not_true, cond_false]
  rw [wrap64 _ (by omega) (by omega)]
  rw [List.append_assoc, List.length_append] at ih
  exact ih
theorem alike_true : ∀ (k : Nat) (t : Tree), sz t ≤ k → sz t ≤ 1000000 → law12_treesAlike.g (TA.at k) k t.kind t.text t.n t.at_ t.kids t.kind t.text t.n t.at_ t.kids = some true
 | 0, t, h, _ => by have := sz_pos t; omega
 | k + 1, .mk kd tx n a l, h, h9 => by
  simp only [sz] at h h9
  have hl := szs_len l
  unfold law12_treesAlike.g joinF
  simp only [Tree.kind, Tree.text, Tree.n, Tree.at_, Tree.kids, bne_self_eq_false, beq_self_eq_true, Bool.not_true, cond_false, Option.bind_some]
  exact alike_loop _ _ rfl l [] (k + 1) (by simp only [List.length_nil]; omega) (by omega) fun x hx => by
   have := sz_mem hx
   exact alike_true k x (by omega) (by omega)
theorem nil_alike (k : Nat) (hk : 2 ≤ k) : law12_treesAlike.f k 0 ⟨#[]⟩ 0 0 [] 0 ⟨#[]⟩ 0 0 [] = some true := by
 have := alike_true k (.mk 0 ⟨#[]⟩ 0 0 []) (by simp [sz, szs]; omega) (by simp [sz, szs])
 exact this
theorem pmemory_true (s : ByteArray) : law12_ParseMemory.f 2000000 s = some true := by
 unfold law12_ParseMemory.f
 rw [pparse_eq _ (by omega), parseR_eq _ (Nat.le_refl _), fixed_true]
 simp only [Option.bind_some, cond_true, beq_self_eq_true, Bool.and_true]
 have key : law12_treesAlike.f 2000000 (parseV s).1 (parseV s).2.1 (parseV s).2.2.1 (parseV s).2.2.2.1 (parseV s).2.2.2.2.1 (parseV s).1 (parseV s).2.1 (parseV s).2.2.1 (parseV s).2.2.2.1 (parseV s).2.2.2.2.1 = some true := by
  cases hs : scanF (bs s) with
  | inl x =>
   obtain ⟨c, p⟩ := x
   rw [parseV_inl hs]
   exact nil_alike _ (by omega)
  | inr t =>
   have hT := scan_toks s t hs
   cases hv : vAll (t.map tokT) with
   | ok b r =>
    obtain ⟨h1, h2, h3⟩ := vAll_tree hT hv
    rw [parseV_ok hs hv]
    exact alike_true 2000000 b (by omega) (by omega)
   | bad i =>
    rw [parseV_bad hs hv]
    exact nil_alike _ (by omega)
 rw [key]
 rfl
end Go.Proofs.YtidiahkobapnjaaGreatDoor
