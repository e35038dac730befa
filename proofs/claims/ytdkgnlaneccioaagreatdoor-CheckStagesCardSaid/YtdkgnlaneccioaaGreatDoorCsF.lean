/- Texts of mine for checkStages_card, part 6. -/
import Derived.Test.YtdkgnlaneccioaaGreatDoorCsE
set_option linter.unusedSimpArgs false
set_option linter.unusedVariables false
set_option linter.unusedSectionVars false
namespace Go.Proofs.YtdkgnlaneccioaaGreatDoor
open Go Go.RowKit Lx
mutual
/-- Does a node of the tree begin at a? -/
def bgT (a : Int) : Tree → Prop
 | .mk _ _ _ p l => p = a ∨ bgTs a l
def bgTs (a : Int) : List Tree → Prop
 | [] => False
 | x :: l => bgT a x ∨ bgTs a l
end
theorem bgTs_iff {a : Int} : ∀ {l : List Tree}, bgTs a l ↔ ∃ x ∈ l, bgT a x
 | [] => by simp [bgTs]
 | x :: l => by simp [bgTs, bgTs_iff (l := l)]
theorem bg_self (x : Tree) : bgT x.at_ x := by cases x; exact .inl rfl
def Flt (e : Int × Int) (t : Tree) : Prop := (e.1 = 5 ∨ e.1 = 6) ∧ bgT e.2 t
theorem Flt.kid {e : Int × Int} {k n a : Int} {t : ByteArray} {l : List Tree} {x : Tree} (hx : x ∈ l) (h : Flt e x) : Flt e (.mk k t n a l) := ⟨h.1, .inr (bgTs_iff.2 ⟨x, hx, h.2⟩)⟩
theorem Flt.at5 {k n a : Int} {t : ByteArray} {l : List Tree} : Flt (5, a) (.mk k t n a l) := ⟨.inl rfl, .inl rfl⟩
theorem Flt.at6 {k n a : Int} {t : ByteArray} {l : List Tree} : Flt (6, a) (.mk k t n a l) := ⟨.inr rfl, .inl rfl⟩
theorem few_bad {a c m : Int} {e : Int × Int} (h : fewC a c m = .bad e) : e = (6, a) := by
 unfold fewC at h
 split at h
 ·cases h; rfl
 ·cases h
theorem names_bad {e : Int × Int} : ∀ {l : List Tree} {lo : List ByteArray}, namesC lo l = .bad e → ∃ x ∈ l, e = (5, x.at_)
 | [], _, h => by cases h
 | x :: l, lo, h => by
  unfold namesC at h
  split at h
  ·cases h; exact ⟨x, List.mem_cons_self .., rfl⟩
  ·obtain ⟨y, hy, e⟩ := names_bad h
   exact ⟨y, List.mem_cons_of_mem _ hy, e⟩
theorem bring_bad {a sl : Int} {lo : List ByteArray} {l : List Tree} {e : Int × Int} (h : bringC a sl lo l = .bad e) : (∃ x ∈ l, e = (5, x.at_)) ∨ e = (6, a) := by
 unfold bringC at h
 rcases th_bad h with h | ⟨lo', _, h⟩
 ·exact .inl (names_bad h)
 rcases th_bad h with h | ⟨_, _, h⟩
 ·exact .inr (few_bad h)
 ·cases h
theorem nodes_bad {f : CSt → Tree → PC CSt} {e : Int × Int} : ∀ {l : List Tree} {s : CSt}, nodesC f s l = .bad e → ∃ x ∈ l, ∃ s, f s x = .bad e
 | [], _, h => by cases h
 | x :: l, s, h => by
  unfold nodesC at h
  rcases th_bad h with h | ⟨s1, _, h⟩
  ·exact ⟨x, List.mem_cons_self .., s, h⟩
  ·obtain ⟨y, hy, e⟩ := nodes_bad h
   exact ⟨y, List.mem_cons_of_mem _ hy, e⟩
theorem asg_bad {f : CSt → Tree → Bool → PC CSt} {n : Int} {e : Int × Int} : ∀ {l : List Tree} {i : Nat} {s : CSt}, asgC f n i s l = .bad e → ∃ x ∈ l, ∃ s b, f s x b = .bad e
 | [], _, _, h => by cases h
 | x :: l, i, s, h => by
  unfold asgC at h
  rcases th_bad h with h | ⟨s1, _, h⟩
  ·exact ⟨x, List.mem_cons_self .., s, _, h⟩
  ·obtain ⟨y, hy, e⟩ := asg_bad h
   exact ⟨y, List.mem_cons_of_mem _ hy, e⟩
theorem loop_bad {f : CSt → Tree → PC CSt} {a : Int} {s : CSt} {names : List Tree} {b : Tree} {more : Nat} {e : Int × Int} (h : loopC f a s names b more = .bad e) : (∃ x ∈ names, e = (5, x.at_)) ∨ e = (6, a) ∨ ∃ s, f s b = .bad e := by
 unfold loopC at h
 rcases th_bad h with h | ⟨r, _, h⟩
 ·split at h
  ·rcases bring_bad h with h | h
   ·exact .inl h
   ·exact .inr (.inl h)
  ·cases h
 rcases th_bad h with h | ⟨_, _, h⟩
 ·exact .inr (.inr ⟨_, h⟩)
 ·cases h
theorem exp_bad {f : CSt → List Tree → PC CSt} {ab : List ByteArray} {s : CSt} {k n a : Int} {t : ByteArray} {l : List Tree} {tg : Bool} {e : Int × Int} (h : expC f ab s k t n a l tg = .bad e) : e = (5, a) ∨ e = (6, a) ∨ ∃ s, f s l = .bad e := by
 unfold expC at h
 have cst : ∀ {v : V3}, constC a s.cs v = .bad e → e = (6, a) := fun h => by
  unfold constC at h
  split at h
  ·cases h
  rcases th_bad h with h | ⟨_, _, h⟩
  ·exact few_bad h
  ·cases h
 have nme : nameC a t s.gl s.lo ab = .bad e → e = (5, a) := fun h => by
  unfold nameC at h
  split at h
  ·cases h; rfl
  split at h
  ·cases h
  split at h
  ·cases h; rfl
  ·cases h
 split at h
 ·rcases th_bad h with h | ⟨_, _, h⟩
  ·exact .inr (.inl (few_bad h))
  ·exact .inr (.inr ⟨_, h⟩)
 split at h
 ·rcases th_bad h with h | ⟨_, _, h⟩
  ·exact .inr (.inl (few_bad h))
  ·exact .inr (.inr ⟨_, h⟩)
 split at h
 ·rcases th_bad h with h | ⟨_, _, h⟩
  ·exact .inr (.inl (few_bad h))
  ·exact .inr (.inr ⟨_, h⟩)
 split at h
 ·rcases th_bad h with h | ⟨_, _, h⟩
  ·exact .inr (.inl (cst h))
  ·exact .inr (.inr ⟨_, h⟩)
 split at h
 ·rcases th_bad h with h | ⟨_, _, h⟩
  ·exact .inr (.inl (cst h))
  ·exact .inr (.inr ⟨_, h⟩)
 split at h
 ·rcases th_bad h with h | ⟨_, _, h⟩
  ·exact .inl (nme h)
  ·exact .inr (.inr ⟨_, h⟩)
 split at h
 ·split at h
  ·cases h; exact .inl rfl
  ·cases h
 ·exact .inr (.inr ⟨_, h⟩)
theorem node_bad {e : Int × Int} : ∀ {d : Nat} {ab : List ByteArray} {s : CSt} {t : Tree} {tg : Bool}, sz t ≤ d → gw t → nodeC d ab s t tg = .bad e → Flt e t
 | 0, _, _, t, _, hd, _, _ => by have := sz_posC t; omega
 | d + 1, ab, s, .mk k t n a l, tg, hd, hw, h => by
  obtain ⟨⟨hs1, hs7, hs25, hs26, hs21, hs27, hs31⟩, hw⟩ := hw
  rw [gws_iff] at hw
  simp only [sz] at hd
  have hlen := szs_len l
  have K : ∀ {x : Tree} {ab s tg}, x ∈ l → nodeC d ab s x tg = .bad e → Flt e (.mk k t n a l) := fun hx h => Flt.kid hx (node_bad (by have := sz_memC hx; omega) (hw _ hx) h)
  have L : ∀ {m : List Tree} {ab s}, (∀ x ∈ m, x ∈ l) → nodesC (fun s x => nodeC d ab s x false) s m = .bad e → Flt e (.mk k t n a l) := fun hm h => by
   obtain ⟨x, hx, s, h⟩ := nodes_bad h
   exact K (hm x hx) h
  have N : ∀ {m : List Tree}, (∀ x ∈ m, x ∈ l) → ((∃ x ∈ m, e = (5, x.at_)) ∨ e = (6, a)) → Flt e (.mk k t n a l) := fun hm h => by
   rcases h with ⟨x, hx, rfl⟩ | rfl
   ·exact Flt.kid (hm x hx) ⟨.inl rfl, bg_self x⟩
   ·exact Flt.at6
  have P : ∀ {m : List Tree} {b : Tree} {more ab s}, (∀ x ∈ m, x ∈ l) → b ∈ l → loopC (fun s x => nodeC d ab s x false) a s m b more = .bad e → Flt e (.mk k t n a l) := fun hm hb h => by
   rcases loop_bad h with h | h | ⟨s, h⟩
   ·exact N hm (.inl h)
   ·exact N hm (.inr h)
   ·exact K hb h
  have F : ∀ {c m : Int}, fewC a c m = .bad e → Flt e (.mk k t n a l) := fun h => by rw [few_bad h]; exact Flt.at6
  unfold nodeC at h
  split at h
  ·rcases th_bad h with h | ⟨_, _, h⟩
   ·exact L (fun _ h => h) h
   ·cases h
  split at h
  ·rename_i hk
   obtain ⟨m, rfl, hm⟩ := hs31 hk
   rcases th_bad h with h | ⟨_, _, h⟩
   ·exact F h
   split at h
   ·cases h; exact Flt.at5
   rcases th_bad h with h | ⟨_, _, h⟩
   ·exact F h
   rcases th_bad h with h | ⟨_, _, h⟩
   ·exact N (fun x hx => List.mem_of_mem_take hx) (bring_bad h)
   rcases th_bad h with h | ⟨_, _, h⟩
   ·exact K (kid_mem (by rw [Int.toNat_natCast]; omega)).2 h
   ·cases h
  split at h
  ·rcases th_bad h with h | ⟨_, _, h⟩
   ·exact F h
   rcases th_bad h with h | ⟨_, _, h⟩
   ·exact F h
   rcases th_bad h with h | ⟨_, _, h⟩
   ·exact L (fun x hx => List.mem_of_mem_drop hx) h
   rcases th_bad h with h | ⟨_, _, h⟩
   ·exact N (fun x hx => List.mem_of_mem_take hx) (bring_bad h)
   ·cases h
  split at h
  ·rcases th_bad h with h | ⟨_, _, h⟩
   ·exact F h
   rcases th_bad h with h | ⟨_, _, h⟩
   ·exact F h
   obtain ⟨x, hx, s, b, h⟩ := asg_bad h
   exact K hx h
  split at h
  ·rename_i hk
   have h2 := hs25 hk
   rcases th_bad h with h | ⟨_, _, h⟩
   ·exact K (kid_mem (by omega)).2 h
   ·exact P (m := []) (fun x hx => absurd hx List.not_mem_nil) (kid_mem (by omega)).2 h
  split at h
  ·rename_i hk
   have h2 := hs26 hk
   rcases th_bad h with h | ⟨_, _, h⟩
   ·exact L (fun x hx => List.mem_of_mem_drop (List.mem_of_mem_take hx)) h
   ·exact P (fun x hx => List.mem_of_mem_take hx) (kid_mem (by omega)).2 h
  split at h
  ·rename_i hk
   obtain ⟨m, rfl, hm⟩ := hs27 hk
   rcases th_bad h with h | ⟨_, _, h⟩
   ·exact F h
   rcases th_bad h with h | ⟨_, _, h⟩
   ·exact F h
   rcases th_bad h with h | ⟨_, _, h⟩
   ·exact L (fun x hx => List.mem_of_mem_drop (List.mem_of_mem_take hx)) h
   ·exact P (fun x hx => List.mem_of_mem_take hx) (kid_mem (by omega)).2 h
  split at h
  ·split at h
   ·cases h; exact Flt.at5
   ·cases h
  ·rcases exp_bad h with rfl | rfl | ⟨s, h⟩
   ·exact Flt.at5
   ·exact Flt.at6
   ·exact L (fun _ h => h) h
theorem node_nofn : ∀ {d : Nat} {ab : List ByteArray} {s s' : CSt} {t : Tree} {tg : Bool}, wfT t → nodeC d ab s t tg = .ok s' → s'.fs = s.fs
 | 0, _, _, _, _, _, _, h => by unfold nodeC at h; cases h
 | d + 1, ab, s, s', .mk k t n a l, tg, hw, h => by
  obtain ⟨⟨hs1, h31, hs7, hs25, hs26, hs21, hs27⟩, hw⟩ := hw
  rw [wfTs_iff] at hw
  have hN : ∀ {m : List Tree} {ab s s'}, (∀ x ∈ m, x ∈ l) → nodesC (fun s x => nodeC d ab s x false) s m = .ok s' → s'.fs = s.fs := by
   intro m
   induction m with
   | nil => intro ab s s' _ h; cases h; rfl
   | cons x m ihm =>
    intro ab s s' hm h
    unfold nodesC at h
    obtain ⟨s1, h1, h⟩ := th_ok h
    rw [ihm (fun y hy => hm y (List.mem_cons_of_mem _ hy)) h, node_nofn (hw _ (hm _ (List.mem_cons_self ..))) h1]
  have hA : ∀ {m : List Tree} {n i ab s s'}, (∀ x ∈ m, x ∈ l) → asgC (fun s x b => nodeC d ab s x b) n i s m = .ok s' → s'.fs = s.fs := by
   intro m
   induction m with
   | nil => intro n i ab s s' _ h; cases h; rfl
   | cons x m ihm =>
    intro n i ab s s' hm h
    unfold asgC at h
    obtain ⟨s1, h1, h⟩ := th_ok h
    rw [ihm (fun y hy => hm y (List.mem_cons_of_mem _ hy)) h, node_nofn (hw _ (hm _ (List.mem_cons_self ..))) h1]
  have hP : ∀ {a : Int} {names : List Tree} {b : Tree} {more : Nat} {ab s s'}, b ∈ l → loopC (fun s x => nodeC d ab s x false) a s names b more = .ok s' → s'.fs = s.fs := by
   intro a names b more ab s s' hb h
   unfold loopC at h
   obtain ⟨r, _, h⟩ := th_ok h
   obtain ⟨s1, h1, h⟩ := th_ok h
   cases h
   have h2 := node_nofn (hw _ hb) (show nodeC d ab _ b false = _ from h1)
   exact h2
  unfold nodeC at h
  split at h
  ·obtain ⟨s1, h1, h⟩ := th_ok h; cases h; have h2 := hN (fun _ h => h) h1; exact h2
  split at h
  ·obtain ⟨_, _, h⟩ := th_ok h
   obtain ⟨_, _, h⟩ := th_ok h
   obtain ⟨s1, h1, h⟩ := th_ok h
   obtain ⟨r, _, h⟩ := th_ok h
   cases h; have h2 := hN (fun x hx => List.mem_of_mem_drop hx) h1; exact h2
  split at h
  ·obtain ⟨_, _, h⟩ := th_ok h
   obtain ⟨_, _, h⟩ := th_ok h
   exact hA (fun _ h => h) h
  split at h
  ·rename_i hk
   have h2 := hs25 hk
   obtain ⟨s1, h1, h⟩ := th_ok h
   rw [hP (kid_mem (by omega)).2 h, node_nofn (hw _ (kid_mem (by omega)).2) h1]
  split at h
  ·rename_i hk
   have h2 := hs26 hk
   obtain ⟨s1, h1, h⟩ := th_ok h
   rw [hP (kid_mem (by omega)).2 h, hN (fun x hx => List.mem_of_mem_drop (List.mem_of_mem_take hx)) h1]
  split at h
  ·rename_i hk
   obtain ⟨m, rfl, hm⟩ := hs27 hk
   obtain ⟨_, _, h⟩ := th_ok h
   obtain ⟨_, _, h⟩ := th_ok h
   obtain ⟨s1, h1, h⟩ := th_ok h
   rw [hP (kid_mem (by omega)).2 h, hN (fun x hx => List.mem_of_mem_drop (List.mem_of_mem_take hx)) h1]
  split at h
  ·split at h
   ·cases h
   ·cases h; rfl
  ·have X : ∀ {s s' : CSt}, nodesC (fun s x => nodeC d ab s x false) s l = .ok s' → s'.fs = s.fs := fun h => hN (fun _ h => h) h
   unfold expC at h
   (repeat' split at h) <;> first
    | (cases h; done)
    | (cases h; rfl)
    | exact X h
    | (obtain ⟨_, _, h⟩ := th_ok h; have h2 := X (show nodesC (fun s x => nodeC d ab s x false) _ l = _ from h); exact h2)
def fnsC (l : List Tree) : Nat := (l.filter fun x => x.kind == 31).length
theorem fn_count {d : Nat} {ab : List ByteArray} {s s' : CSt} {t : Tree} {tg : Bool} (hw : fnT t) (h : nodeC d ab s t tg = .ok s') : s'.fs.length = s.fs.length + 1 := by
 cases d with
 | zero => unfold nodeC at h; cases h
 | succ d =>
  cases t with
  | mk k t n a l =>
   obtain ⟨h1, h2, ⟨m, rfl, hm⟩, h4⟩ := hw
   subst h2
   unfold nodeC at h
   rw [if_neg (by decide), if_pos rfl] at h
   obtain ⟨_, _, h⟩ := th_ok h
   split at h
   ·cases h
   obtain ⟨_, _, h⟩ := th_ok h
   obtain ⟨r, _, h⟩ := th_ok h
   obtain ⟨s1, h1, h⟩ := th_ok h
   cases h
   rw [wfTs_iff] at h4
   have := node_nofn (h4 _ (kid_mem (by rw [Int.toNat_natCast]; omega)).2) h1
   show (s1.fs ++ [_]).length = _
   rw [this]
   simp
theorem nodes_count {d : Nat} {ab : List ByteArray} : ∀ {l : List Tree} {s s' : CSt}, (∀ x ∈ l, topT x) → nodesC (fun s x => nodeC d ab s x false) s l = .ok s' → s'.fs.length = s.fs.length + fnsC l
 | [], s, s', _, h => by cases h; rfl
 | x :: l, s, s', hw, h => by
  unfold nodesC at h
  obtain ⟨s1, h1, h⟩ := th_ok h
  have ih := nodes_count (fun y hy => hw y (List.mem_cons_of_mem _ hy)) h
  rw [ih]
  unfold fnsC
  rcases hw x (List.mem_cons_self ..) with hx | hx
  ·have : x.kind ≠ 31 := by cases x; exact hx.1.2.1
   rw [List.filter_cons, if_neg (by simpa using this), node_nofn hx h1]
  ·have : x.kind = 31 := by cases x; exact hx.2.1
   rw [List.filter_cons, if_pos (by simpa using this), fn_count hx h1, List.length_cons]
   omega
theorem functions_loop (J : Int → Option Int) : ∀ (t pre : List Tree) (m a : Nat), pre.length + t.length ≤ 1000000 → a + t.length ≤ 2000000 → t.length + 1 ≤ m →
  law13_functions.l0 m (pre ++ t) J (a : Int) (pre.length : Int) = J ((a + fnsC t : Nat) : Int)
 | [], pre, m, a, hl, _, hm => by
  obtain ⟨m, rfl⟩ : ∃ m', m = m' + 1 := ⟨m - 1, by omega⟩
  simp only [law13_functions.l0]
  rw [ltF (by simp)]
  rfl
 | x :: t, pre, m, a, hl, hal, hm => by
  obtain ⟨m, rfl⟩ : ∃ m', m = m' + 1 := ⟨m - 1, by omega⟩
  simp only [List.length_cons] at hl hal hm
  simp only [law13_functions.l0]
  rw [ltT (by simp; omega)]
  simp only [cond_true, joinF]
  rw [midC, Option.bind_some, wiC ((pre.length : Int) + 1) (by omega) (by omega)]
  unfold fnsC
  have ih := fun a h => functions_loop J t (pre ++ [x]) m a (by simp; omega) h (by omega)
  simp only [List.append_assoc, List.length_append] at ih
  by_cases h : x.kind = 31
  ·rw [eqC h, cond_true, wiC _ (by omega) (by omega), List.filter_cons, if_pos (by simpa using h), List.length_cons]
   refine (ih (a + 1) (by omega)).trans ?_
   unfold fnsC
   rw [show a + 1 + (t.filter fun x => x.kind == 31).length = a + ((t.filter fun x => x.kind == 31).length + 1) by omega]
  ·rw [neC h, cond_false, List.filter_cons, if_neg (by simpa using h)]
   exact ih a (by omega)
theorem functions_eq (k : Nat) (hk : 500000 ≤ k) (a0 : Int) (a1 : ByteArray) (a2 a3 : Int) (l : List Tree) (hl : l.length ≤ 400000) : law13_functions.f k a0 a1 a2 a3 l = some (fnsC l : Int) := by
 unfold law13_functions.f joinF
 have := functions_loop (fun x2 => some x2) l [] k 0 (by simp only [List.length_nil]; omega) (by omega) (by omega)
 refine this.trans ?_
 simp
mutual
def bgB (a : Int) : Tree → Bool
 | .mk _ _ _ p l => p == a || bgBs a l
def bgBs (a : Int) : List Tree → Bool
 | [] => false
 | x :: l => bgB a x || bgBs a l
end
mutual
theorem bgB_of {a : Int} : ∀ {t : Tree}, bgT a t → bgB a t = true
 | .mk _ _ _ p l, h => by
  simp only [bgB, Bool.or_eq_true]
  exact h.elim (fun h => .inl (beq_iff_eq.2 h)) fun h => .inr (bgBs_of h)
theorem bgBs_of {a : Int} : ∀ {l : List Tree}, bgTs a l → bgBs a l = true
 | [], h => h.elim
 | x :: l, h => by
  simp only [bgBs, Bool.or_eq_true]
  exact h.elim (fun h => .inl (bgB_of h)) fun h => .inr (bgBs_of h)
end
theorem begins_loop (R : BG) (a : Int) : ∀ (t pre : List Tree) (m : Nat), pre.length + t.length ≤ 10000000 → t.length + 1 ≤ m →
  (∀ x ∈ t, R.law13_begins x.kind x.text x.n x.at_ x.kids a = some (bgB a x)) → law13_begins.l0 m R (pre ++ t) a (fun _ => some false) (pre.length : Int) = some (bgBs a t)
 | [], pre, m, hl, hm, _ => by
  obtain ⟨m, rfl⟩ : ∃ m', m = m' + 1 := ⟨m - 1, by omega⟩
  simp only [law13_begins.l0]
  rw [ltF (by simp)]
  rfl
 | x :: t, pre, m, hl, hm, hR => by
  obtain ⟨m, rfl⟩ : ∃ m', m = m' + 1 := ⟨m - 1, by omega⟩
  simp only [List.length_cons] at hl hm
  simp only [law13_begins.l0]
  rw [ltT (by simp; omega), midC]
  simp only [cond_true, Option.bind_some]
  rw [hR x (List.mem_cons_self ..), Option.bind_some, wiC _ (by omega) (by omega)]
  simp only [bgBs]
  cases bgB a x with
  | true => rfl
  | false =>
   have ih := begins_loop R a t (pre ++ [x]) m (by simp; omega) (by omega) (fun y hy => hR y (List.mem_cons_of_mem _ hy))
   rw [List.append_assoc, List.length_append] at ih
   exact ih
theorem begins_eq (a : Int) : ∀ (k : Nat) (t : Tree), sz t ≤ k → sz t ≤ 1000000 → law13_begins.g (BG.at k) k t.kind t.text t.n t.at_ t.kids a = some (bgB a t)
 | 0, t, h, _ => by have := sz_posC t; omega
 | k + 1, .mk kd tx n p l, h, h9 => by
  simp only [sz] at h h9
  have hl := szs_len l
  unfold law13_begins.g joinF
  simp only [bgB, Tree.at_, Tree.kids]
  cases p == a with
  | true => rfl
  | false =>
   exact begins_loop (BG.at (k + 1)) a l [] (k + 1) (by simp only [List.length_nil]; omega) (by omega) fun x hx => by
    have := sz_memC hx
    exact begins_eq a k x (by omega) (by omega)
theorem fixedS : law13_fixed.f 1000000 = some true := by kernel_rfl
theorem checkStages_true (s : ByteArray) : law13_CheckStages.f 1000000 s = some true := by
 unfold law13_CheckStages.f
 rw [check_eq 1000000 (by omega), pparse_eq 1000000 (by omega), fixedS]
 simp only [Option.bind_some, Bool.not_true, cond_false]
 rcases parseV_shape s with ⟨c, p, hc, he⟩ | ⟨n, he, hw, hz⟩
 ·rw [he]
  unfold outV
  have e : (c != 0) = true := bne_iff_ne.2 hc
  simp only [if_pos hc, e, cond_true, List.length_nil, Option.bind_some, beq_self_eq_true, Bool.and_true]
  rfl
 ·rw [he]
  unfold treeV
  obtain ⟨hg, h20⟩ := wfC_gw hw
  have e : Tree.mk n.kind n.text n.n n.at_ n.kids = n := by cases n; rfl
  simp only [ne_eq, not_true_eq_false, if_false, e, bne_self_eq_false, cond_false]
  have hb : ∀ a, bgT a n → law13_begins.f 1000000 n.kind n.text n.n n.at_ n.kids a = some true := fun a h => by
   have := begins_eq a 1000000 n (by omega) (by omega)
   rw [bgB_of h] at this
   exact this
  unfold treeC
  by_cases hh : htT n > 100
  ·rw [if_pos hh]
   simp only [repC, List.length_nil]
   rw [hb _ (bg_self n)]
   rfl
  rw [if_neg hh]
  cases hn : nodeC 100000 [] st0 n false with
  | bad e =>
   obtain ⟨h1, h2⟩ := node_bad (by omega) hg hn
   simp only [repC, List.length_nil]
   rw [hb _ h2]
   rcases h1 with h1 | h1 <;> rw [h1] <;> rfl
  | ok s' =>
   simp only [repC]
   have hk : n.kids.length ≤ 400000 := by
    cases n with
    | mk k t m a l => simp only [sz] at hz; have := szs_len l; simp only [Tree.kids]; omega
   have hlen : (((⟨#[]⟩, n.at_, 0, s'.sl, s'.cs) : FRow) :: s'.fs.tail).length = fnsC n.kids + 1 := by
    cases n with
    | mk k t m a l =>
     obtain ⟨hk20, _, hl⟩ := hw
     subst hk20
     unfold nodeC at hn
     rw [if_pos rfl] at hn
     obtain ⟨s1, h1, hn⟩ := th_ok hn
     cases hn
     have := nodes_count hl h1
     simp only [List.length_cons, List.length_tail, Tree.kids]
     rw [this]
     show 1 + fnsC l - 1 + 1 = fnsC l + 1
     omega
   have hfl : fnsC n.kids ≤ 400000 := Nat.le_trans (List.length_filter_le ..) hk
   rw [functions_eq 1000000 (by omega) _ _ _ _ _ hk, show parse_Height.f 1000000 n.kind n.text n.n n.at_ n.kids = some (htT n : Int) from ht_eq 1000000 n (by omega) (by omega), hlen]
   simp only [Option.bind_some, beq_self_eq_true, cond_true]
   rw [wiC _ (by omega) (by omega), eqC (by omega : ((fnsC n.kids + 1 : Nat) : Int) = 1 + (fnsC n.kids : Int))]
   rw [show ∀ (x : FRow) (l : List FRow), lIdx (x :: l) (0 : Int) = some x from fun _ _ => rfl]
   simp only [Option.bind_some, beq_self_eq_true, cond_true]
   rw [decide_eq_true (by omega)]
   rfl
end Go.Proofs.YtdkgnlaneccioaaGreatDoor
