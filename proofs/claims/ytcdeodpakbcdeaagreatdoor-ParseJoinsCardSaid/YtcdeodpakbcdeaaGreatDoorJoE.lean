/- Texts of mine for parseJoins_card, part 5. -/
import Derived.Test.YtcdeodpakbcdeaaGreatDoorJoD
set_option linter.unusedSimpArgs false
set_option linter.unusedVariables false
set_option linter.unusedSectionVars false
namespace Go.Proofs.YtcdeodpakbcdeaaGreatDoor
open Go Go.RowKit
section
variable {E : Tk} (hE : E.1 = 6) {X : List Tk} (hX : Stp X)
def LRn {α : Type} (E : Tk) (X : List Tk) (S : α → α → Prop) (x x' : Option (PV α)) : Prop := ∀ a r, x = some (.ok a r) → r ≠ [E] → ∃ R R' a', r = R ++ [E] ∧ Sm R R' ∧ Good (R ++ [E]) ∧ S a a' ∧ x' = some (.ok a' (R' ++ X))
variable {α β : Type} {S : α → α → Prop} {S' : β → β → Prop}
theorem LR.n {x x' : Option (PV α)} (h : LR E X S x x') : LRn E X S x x' := fun a r hx _ => h a r hx
theorem LRn.bind {x x' : Option (PV α)} {f f' : α → List Tk → Option (PV β)} (h : LRn E X S x x') (h0 : ∀ a b s, f a [E] = some (.ok b s) → False) (hf : ∀ a a' p p' R R', S a a' → simT p p' → Sm R R' → Good (p :: (R ++ [E])) → LR E X S' (f a (p :: (R ++ [E]))) (f' a' (p' :: (R' ++ X)))) : LR E X S' (PV.bind x f) (PV.bind x' f') := fun b s hb => by
 rcases bind_some hb with ⟨i, _, he⟩ | ⟨a, r, hx, hfa⟩
 ·cases he
 ·by_cases hr : r = [E]
  ·subst hr; exact (h0 _ _ _ hfa).elim
  ·obtain ⟨R, R', a', rfl, hS, hG, ha, hx'⟩ := h a r hx hr
   rcases hS.cases' with ⟨rfl, rfl⟩ | ⟨p, p', Q, Q', rfl, rfl, hp, hS⟩
   ·exact absurd rfl hr
   ·obtain ⟨R2, R2', b', h1, h2, h3, h4, h5⟩ := hf a a' p p' Q Q' ha hp hS hG b s hfa
    exact ⟨R2, R2', b', h1, h2, h3, h4, by rw [hx']; exact h5⟩
theorem LRn.bindL {x x' : Option (PV α)} {f f' : α → List Tk → Option (PV β)} (h : LR E X S x x') (hf : ∀ a a' R R', S a a' → Sm R R' → Good (R ++ [E]) → LRn E X S' (f a (R ++ [E])) (f' a' (R' ++ X))) : LRn E X S' (PV.bind x f) (PV.bind x' f') := fun b s hb hs => by
 rcases bind_some hb with ⟨i, _, he⟩ | ⟨a, r, hx, hfa⟩
 ·cases he
 ·obtain ⟨R, R', a', rfl, hS, hG, ha, hx'⟩ := h a r hx
  obtain ⟨R2, R2', b', h1, h2, h3, h4, h5⟩ := hf a a' R R' ha hS hG b s hfa hs
  exact ⟨R2, R2', b', h1, h2, h3, h4, by rw [hx']; exact h5⟩
theorem LRn.ite {c c' : Prop} [Decidable c] [Decidable c'] {x y x' y' : Option (PV α)} (hc : c ↔ c') (h1 : c → LRn E X S x x') (h2 : ¬ c → LRn E X S y y') : LRn E X S (if c then x else y) (if c' then x' else y') := by
 by_cases h : c
 ·rw [if_pos h, if_pos (hc.1 h)]; exact h1 h
 ·rw [if_neg h, if_neg (fun h' => h (hc.2 h'))]; exact h2 h
theorem endsH_c {p p' : Tk} (h : simT p p') (r r' : List Tk) : endsH (p :: r) = endsH (p' :: r') := by
 unfold endsH
 simp only [isH_c h _ r r', hd, List.headD_cons, h.1]
include hE in
theorem endsH_E : endsH [E] = true := by
 unfold endsH
 simp [hd, hE]
include hE in
theorem want_E {w : ByteArray} {a : Unit} {s : List Tk} (h : pWant w [E] = some (.ok a s)) : False := by
 unfold pWant at h
 rw [isH_E hE] at h
 simp at h
include hE in
theorem wantB_E {w : ByteArray} {f : Unit → List Tk → Option (PV β)} {b : β} {s : List Tk} (h : PV.bind (pWant w [E]) f = some (.ok b s)) : False := by
 rcases bind_some h with ⟨i, _, he⟩ | ⟨a, r, hx, _⟩
 ·cases he
 ·exact want_E hE hx
structure LoS (E : Tk) (X : List Tk) (f : Nat) : Prop where
 block : ∀ R R', Sm R R' → Good (R ++ [E]) → LRn E X smT (pBlock f false (R ++ [E])) (pBlock f false (R' ++ X))
 blockL : ∀ at_ at' acc acc' R R', smTs acc acc' → Sm R R' → Good (R ++ [E]) → LRn E X smT (pBlockL f false at_ acc (R ++ [E])) (pBlockL f false at' acc' (R' ++ X))
 function : ∀ p p' Q Q', simT p p' → Sm Q Q' → Good (p :: (Q ++ [E])) → LR E X smT (pFunction f (p :: (Q ++ [E]))) (pFunction f (p' :: (Q' ++ X)))
 body : ∀ R R', Sm R R' → Good (R ++ [E]) → LR E X smT (pBody f (R ++ [E])) (pBody f (R' ++ X))
 stat : ∀ R R', Sm R R' → Good (R ++ [E]) → LR E X smT (pStat f (R ++ [E])) (pStat f (R' ++ X))
 branches : ∀ acc acc' R R', smTs acc acc' → Sm R R' → Good (R ++ [E]) → LR E X smTs (pBranches f acc (R ++ [E])) (pBranches f acc' (R' ++ X))
 for_ : ∀ at_ at' R R', Sm R R' → Good (R ++ [E]) → LR E X smT (pFor f at_ (R ++ [E])) (pFor f at' (R' ++ X))
 plain : ∀ R R', Sm R R' → Good (R ++ [E]) → LR E X smT (pPlain f (R ++ [E])) (pPlain f (R' ++ X))
 targets : ∀ acc acc' e e' R R', smTs acc acc' → smT e e' → Sm R R' → Good (R ++ [E]) → LR E X smTs (pTargets f acc e (R ++ [E])) (pTargets f acc' e' (R' ++ X))
include hE hX in
theorem loS : ∀ f, LoS E X f
 | 0 => by constructor <;> intros <;> (first | unfold pBlock | unfold pBlockL | unfold pFunction | unfold pBody | unfold pStat | unfold pBranches | unfold pFor | unfold pPlain | unfold pTargets) <;> (first | exact LR.none | exact LR.none.n)
 | f + 1 => by
  have ih := loS f
  have ie := loE hE hX f
  have is := stepE f
  have it := stepS (f + 1)
  constructor
  ·intro R R' hS hG; unfold pBlock
   exact ih.blockL _ _ _ _ R R' trivial hS hG
  ·intro at_ at' acc acc' R R' ha hS hG
   rcases hS.cases' with ⟨rfl, rfl⟩ | ⟨p, p', Q, Q', rfl, rfl, hp, hS⟩
   ·intro a r h hne
    unfold pBlockL at h
    simp only [List.nil_append, isH_E hE, endsH_E hE, Bool.false_and, Bool.false_eq_true, if_false, if_true] at h
    cases h
    exact absurd rfl hne
   have hG' := hG.cons.2
   unfold pBlockL
   simp only [List.cons_append, List.tail_cons, isH_c hp _ (Q ++ [E]) (Q' ++ X), endsH_c hp (Q ++ [E]) (Q' ++ X), Bool.false_and, Bool.false_eq_true, if_false]
   refine LRn.ite Iff.rfl (fun _ => ih.blockL _ _ _ _ Q Q' ha hS hG') fun _ => ?_
   refine LRn.ite Iff.rfl (fun _ => ?_) fun _ => ?_
   ·have fin : ∀ l l' R R', smTs l l' → Sm R R' → Good (R ++ [E]) → LRn E X smT (some (.ok (.mk 20 noB 0 at_ (acc ++ [.mk 30 noB 0 (hd (p :: (Q ++ [E]))).2.2.2 l])) (if isH kSemi (R ++ [E]) then (R ++ [E]).tail else R ++ [E]))) (some (.ok (.mk 20 noB 0 at' (acc' ++ [.mk 30 noB 0 (hd (p' :: (Q' ++ X))).2.2.2 l'])) (if isH kSemi (R' ++ X) then (R' ++ X).tail else R' ++ X))) := by
     intro l l' R R' hl hS hG
     rcases hS.cases' with ⟨rfl, rfl⟩ | ⟨q, q', P, P', rfl, rfl, hq, hS⟩
     ·intro a r h hne
      rw [List.nil_append, isH_E hE] at h
      cases h
      exact absurd rfl hne
     ·rw [List.cons_append, List.cons_append, isH_c hq kSemi (P ++ [E]) (P' ++ X), List.tail_cons, List.tail_cons]
      have hm : smT (.mk 20 noB 0 at_ (acc ++ [.mk 30 noB 0 (hd (p :: (Q ++ [E]))).2.2.2 l])) (.mk 20 noB 0 at' (acc' ++ [.mk 30 noB 0 (hd (p' :: (Q' ++ X))).2.2.2 l'])) := ⟨rfl, rfl, rfl, smTs_app ha (smTs_one ⟨rfl, rfl, rfl, hl⟩)⟩
      split
      ·exact (LR.ok hm hS hG.cons.2).n
      ·exact (LR.ok (R := q :: P) (R' := q' :: P') hm ⟨hq, hS⟩ hG).n
    rcases hS.cases' with ⟨rfl, rfl⟩ | ⟨q, q', P, P', rfl, rfl, hq, hS⟩
    ·intro a r h hne
     rcases bind_some h with ⟨_, _, he⟩ | ⟨l, s, hl, h⟩
     ·cases he
     have hl : (if (endsH [E] || isH kSemi [E]) = true then some (PV.ok ([] : List Tree) [E]) else pExps f [E]) = some (.ok l s) := hl
     rw [endsH_E hE] at hl
     simp only [Bool.true_or, if_true] at hl
     cases hl
     have h : some (PV.ok _ (if isH kSemi [E] = true then ([] : List Tk) else [E])) = some (.ok a r) := h
     rw [isH_E hE] at h
     cases h
     exact absurd rfl hne
    ·refine LRn.bindL (S := smTs) ?_ fin
     refine LR.ite (by rw [List.cons_append, List.cons_append, isH_c hq, endsH_c hq]) (fun _ => LR.ok (R := q :: P) (R' := q' :: P') trivial ⟨hq, hS⟩ hG') fun _ => ie.exps (q :: P) (q' :: P') ⟨hq, hS⟩ hG'
   refine LRn.ite Iff.rfl (fun _ => (LR.ok (R := p :: Q) (R' := p' :: Q') ⟨rfl, rfl, rfl, ha⟩ ⟨hp, hS⟩ hG).n) fun _ => ?_
   exact LRn.bindL (ih.stat (p :: Q) (p' :: Q') ⟨hp, hS⟩ hG) fun x x' R R' hx hS hG => ih.blockL _ _ _ _ R R' (smTs_app ha (smTs_one hx)) hS hG
  ·intro p p' Q Q' hp hS hG; unfold pFunction
   simp only [List.tail_cons]
   refine LR.bind (lName hE hS hG.cons.2) fun nm nm' R R' hn hS hG => LR.bind (lWant hE hS hG) fun _ _ R R' _ hS hG => ?_
   refine LR.bind (S := smTs) ?_ fun ps ps' R R' hps hS hG => LR.bind (lWant hE hS hG) fun _ _ R R' _ hS hG => ?_
   ·rcases hS.cases' with ⟨rfl, rfl⟩ | ⟨q, q', P, P', rfl, rfl, hq, hS⟩
    ·rw [List.nil_append, isH_E hE]
     exact LR.noE hE (step_names f _)
    ·exact LR.ite (by rw [List.cons_append, List.cons_append, isH_c hq]) (fun _ => LR.ok (R := q :: P) (R' := q' :: P') trivial ⟨hq, hS⟩ hG) fun _ => lNames hE hX f (R := q :: P) (R' := q' :: P') ⟨hq, hS⟩ hG
   ·refine LRn.bind (ih.block R R' hS hG) (fun a b s h => wantB_E hE h) fun b b' q q' P P' hb hq hS hG => ?_
    exact LR.bind (lWant (R := q :: P) (R' := q' :: P') hE ⟨hq, hS⟩ hG) fun _ _ R R' _ hS hG => LR.ok ⟨rfl, smT_text hn, by rw [smTs_len hps], smTs_app hps (smTs_one hb)⟩ hS hG
  ·intro R R' hS hG; unfold pBody
   refine LR.bind (lWant hE hS hG) fun _ _ R R' _ hS hG => LRn.bind (ih.block R R' hS hG) (fun a b s h => wantB_E hE h) fun b b' q q' P P' hb hq hS hG => ?_
   exact LR.bind (lWant (R := q :: P) (R' := q' :: P') hE ⟨hq, hS⟩ hG) fun _ _ R R' _ hS hG => LR.ok hb hS hG
  ·intro R R' hS hG
   rcases hS.cases' with ⟨rfl, rfl⟩ | ⟨p, p', Q, Q', rfl, rfl, hp, hS⟩
   ·exact LR.noE (n := 0) hE (it.stat _)
   have hG' := hG.cons.2
   unfold pStat
   simp only [List.cons_append, List.tail_cons, isH_c hp _ (Q ++ [E]) (Q' ++ X)]
   refine LR.ite Iff.rfl (fun _ => LR.bind (ih.body (p :: Q) (p' :: Q') ⟨hp, hS⟩ hG) fun b b' R R' hb hS hG => LR.ok ⟨rfl, rfl, rfl, hb, trivial⟩ hS hG) fun _ => ?_
   refine LR.ite Iff.rfl (fun _ => LR.bind (ie.exp _ Q Q' (by decide) hS hG') fun e e' R R' he hS hG => LR.bind (ih.body R R' hS hG) fun b b' R R' hb hS hG => LR.ok ⟨rfl, rfl, rfl, he, hb, trivial⟩ hS hG) fun _ => ?_
   refine LR.ite Iff.rfl (fun _ => LR.bind (ih.branches _ _ Q Q' trivial hS hG') fun l l' R R' hl hS hG => LR.ok ⟨rfl, rfl, rfl, hl⟩ hS hG) fun _ => ?_
   refine LR.ite Iff.rfl (fun _ => ih.for_ _ _ Q Q' hS hG') fun _ => ?_
   refine LR.ite Iff.rfl (fun _ => LR.bind (lNames hE hX f hS hG') fun l l' R R' hl hS hG => LR.bind (S := smTs) ?_ fun es es' R R' hes hS hG => LR.ok ⟨rfl, rfl, by rw [smTs_len hl], smTs_app hl hes⟩ hS hG) fun _ => ?_
   ·refine LR.ite (by rw [isH_b hE hS _ hX.eq]) (fun hc => ?_) fun _ => LR.ok trivial hS hG
    rcases hS.cases' with ⟨rfl, rfl⟩ | ⟨q, q', P, P', rfl, rfl, hq, hS⟩
    ·rw [List.nil_append, isH_E hE] at hc; cases hc
    ·exact ie.exps P P' hS hG.cons.2
   refine LR.ite Iff.rfl (fun _ => LR.ok ⟨rfl, rfl, rfl, trivial⟩ hS hG') fun _ => ih.plain (p :: Q) (p' :: Q') ⟨hp, hS⟩ hG
  ·intro acc acc' R R' ha hS hG; unfold pBranches
   refine LR.bind (ie.exp _ R R' (by decide) hS hG) fun e e' R R' he hS hG => LR.bind (lWant hE hS hG) fun _ _ R R' _ hS hG => ?_
   refine LRn.bind (ih.block R R' hS hG) (fun a b s h => ?_) fun b b' q q' P P' hb hq hS hG => ?_
   ·rw [isH_E hE, isH_E hE] at h
    simp only [Bool.false_eq_true, if_false] at h
    exact wantB_E hE h
   have hacc := smTs_app (smTs_app ha (smTs_one he)) (smTs_one hb)
   simp only [List.tail_cons, isH_c hq _ (P ++ [E]) (P' ++ X)]
   refine LR.ite Iff.rfl (fun _ => ih.branches _ _ P P' hacc hS hG.cons.2) fun _ => ?_
   refine LR.ite Iff.rfl (fun _ => ?_) fun _ => ?_
   ·refine LRn.bind (ih.block P P' hS hG.cons.2) (fun a b s h => wantB_E hE h) fun c c' q q' P P' hc hq hS hG => ?_
    exact LR.bind (lWant (R := q :: P) (R' := q' :: P') hE ⟨hq, hS⟩ hG) fun _ _ R R' _ hS hG => LR.ok (smTs_app hacc (smTs_one hc)) hS hG
   ·exact LR.bind (lWant (R := q :: P) (R' := q' :: P') hE ⟨hq, hS⟩ hG) fun _ _ R R' _ hS hG => LR.ok hacc hS hG
  ·intro at_ at' R R' hS hG; unfold pFor
   refine LR.bind (lName hE hS hG) fun n n' R R' hn hS hG => ?_
   refine LR.ite (by rw [isH_b hE hS _ hX.eq]) (fun hc => ?_) fun _ => ?_
   ·rcases hS.cases' with ⟨rfl, rfl⟩ | ⟨q, q', P, P', rfl, rfl, hq, hS⟩
    ·rw [List.nil_append, isH_E hE] at hc; cases hc
    refine LR.bind (ie.exp _ P P' (by decide) hS hG.cons.2) fun a a' R R' ha hS hG => LR.bind (lWant hE hS hG) fun _ _ R R' _ hS hG => LR.bind (ie.exp _ R R' (by decide) hS hG) fun b b' R R' hb hS hG => ?_
    refine LR.bind (S := smTs) ?_ fun cs cs' R R' hcs hS hG => LR.bind (ih.body R R' hS hG) fun bd bd' R R' hbd hS hG => LR.ok ⟨rfl, rfl, rfl, ?_⟩ hS hG
    ·refine LR.ite (by rw [isH_b hE hS _ hX.comma]) (fun hc => ?_) fun _ => LR.ok trivial hS hG
     rcases hS.cases' with ⟨rfl, rfl⟩ | ⟨q, q', P, P', rfl, rfl, hq, hS⟩
     ·rw [List.nil_append, isH_E hE] at hc; cases hc
     ·exact LR.bind (ie.exp _ P P' (by decide) hS hG.cons.2) fun c c' R R' hc hS hG => LR.ok (smTs_one hc) hS hG
    ·exact smTs_app (smTs_app (smTs_app (smTs_app (smTs_one hn) (smTs_one ha)) (smTs_one hb)) hcs) (smTs_one hbd)
   ·refine LR.bind (lNamesL hE hX f _ _ R R' (smTs_one hn) hS hG) fun l l' R R' hl hS hG => LR.bind (lWant hE hS hG) fun _ _ R R' _ hS hG => LR.bind (ie.exps R R' hS hG) fun es es' R R' hes hS hG => LR.bind (ih.body R R' hS hG) fun bd bd' R R' hbd hS hG => ?_
    exact LR.ok ⟨rfl, rfl, by rw [smTs_len hl], smTs_app (smTs_app hl hes) (smTs_one hbd)⟩ hS hG
  ·intro R R' hS hG; unfold pPlain
   refine LR.bind (ie.suffixed R R' hS hG) fun e e' R R' he hS hG => ?_
   refine LR.ite (by rw [isH_b hE hS _ hX.eq, isH_b hE hS _ hX.comma]) (fun _ => ?_) fun _ => ?_
   ·exact LR.bind (ih.targets _ _ _ _ R R' trivial he hS hG) fun l l' R R' hl hS hG => LR.bind (lWant hE hS hG) fun _ _ R R' _ hS hG => LR.bind (ie.exps R R' hS hG) fun es es' R R' hes hS hG => LR.ok ⟨rfl, rfl, by rw [smTs_len hl], smTs_app hl hes⟩ hS hG
   ·exact LR.ite (by rw [smT_kind he]) (fun _ => LR.ok ⟨rfl, rfl, rfl, he, trivial⟩ hS hG) fun _ => LR.bad
  ·intro acc acc' e e' R R' ha he hS hG; unfold pTargets
   refine LR.ite (by rw [smT_kind he]) (fun _ => ?_) fun _ => LR.bad
   refine LR.ite (by rw [isH_b hE hS _ hX.comma]) (fun hc => ?_) fun _ => LR.ok (smTs_app ha (smTs_one he)) hS hG
   rcases hS.cases' with ⟨rfl, rfl⟩ | ⟨q, q', P, P', rfl, rfl, hq, hS⟩
   ·rw [List.nil_append, isH_E hE] at hc; cases hc
   ·exact LR.bind (ie.suffixed P P' hS hG.cons.2) fun x x' R R' hx hS hG => ih.targets _ _ _ _ R R' (smTs_app ha (smTs_one he)) hx hS hG
structure EndX (X : List Tk) : Prop where
 semi : isH kSemi X = false
 ret : isH kReturn X = false
 fn : isH kFunction X = false
 ends : endsH X = true
theorem fun_kind {f : Nat} {ts r : List Tk} {x : Tree} (h : pFunction f ts = some (.ok x r)) : x.kind = 31 := by
 cases f with
 | zero => unfold pFunction at h; cases h
 | succ f =>
  unfold pFunction at h
  rcases bind_some h with ⟨_, _, he⟩ | ⟨_, _, _, h⟩
  ·cases he
  rcases bind_some h with ⟨_, _, he⟩ | ⟨_, _, _, h⟩
  ·cases he
  rcases bind_some h with ⟨_, _, he⟩ | ⟨_, _, _, h⟩
  ·cases he
  rcases bind_some h with ⟨_, _, he⟩ | ⟨_, _, _, h⟩
  ·cases he
  rcases bind_some h with ⟨_, _, he⟩ | ⟨_, _, _, h⟩
  ·cases he
  rcases bind_some h with ⟨_, _, he⟩ | ⟨_, _, _, h⟩
  ·cases he
  cases h
  rfl
theorem acc_app : ∀ (f : Nat) (c : Bool) (at_ : Int) (acc : List Tree) (ts : List Tk) (n : Tree) (r : List Tk), pBlockL f c at_ acc ts = some (.ok n r) → ∃ l, n.kids = acc ++ l ∧ n.kind = 20 ∧ n.text = noB ∧ n.n = 0 ∧ ∀ at2 acc2, pBlockL f c at2 acc2 ts = some (.ok (.mk 20 noB 0 at2 (acc2 ++ l)) r)
 | 0, _, _, _, _, _, _, h => by unfold pBlockL at h; cases h
 | f + 1, c, at_, acc, ts, n, r, h => by
  unfold pBlockL at h
  have step : ∀ x s, pBlockL f c at_ (acc ++ [x]) s = some (.ok n r) → ∃ l, n.kids = acc ++ l ∧ n.kind = 20 ∧ n.text = noB ∧ n.n = 0 ∧ ∀ at2 acc2, pBlockL f c at2 (acc2 ++ [x]) s = some (.ok (.mk 20 noB 0 at2 (acc2 ++ l)) r) := fun x s h => by
   obtain ⟨l, h1, h2, h3, h4, h5⟩ := acc_app f c at_ _ s n r h
   exact ⟨x :: l, by rw [h1, List.append_assoc]; rfl, h2, h3, h4, fun at2 acc2 => by rw [h5, List.append_assoc]; rfl⟩
  by_cases c1 : isH kSemi ts = true
  ·rw [if_pos c1] at h
   obtain ⟨l, h1, h2, h3, h4, h5⟩ := acc_app f c at_ _ _ n r h
   exact ⟨l, h1, h2, h3, h4, fun at2 acc2 => by unfold pBlockL; rw [if_pos c1]; exact h5 at2 acc2⟩
  rw [if_neg c1] at h
  by_cases c2 : isH kReturn ts = true
  ·rw [if_pos c2] at h
   rcases bind_some h with ⟨_, _, he⟩ | ⟨l, s, hl, h⟩
   ·cases he
   cases h
   exact ⟨_, rfl, rfl, rfl, rfl, fun at2 acc2 => by unfold pBlockL; rw [if_neg c1, if_pos c2, hl]; rfl⟩
  rw [if_neg c2] at h
  by_cases c3 : (c && isH kFunction ts) = true
  ·rw [if_pos c3] at h
   rcases bind_some h with ⟨_, _, he⟩ | ⟨x, s, hx, h⟩
   ·cases he
   obtain ⟨l, h1, h2, h3, h4, h5⟩ := step x s h
   exact ⟨l, h1, h2, h3, h4, fun at2 acc2 => by unfold pBlockL; rw [if_neg c1, if_neg c2, if_pos c3, hx]; exact h5 at2 acc2⟩
  rw [if_neg c3] at h
  by_cases c4 : endsH ts = true
  ·rw [if_pos c4] at h
   cases h
   exact ⟨[], by simp [Tree.kids], rfl, rfl, rfl, fun at2 acc2 => by unfold pBlockL; rw [if_neg c1, if_neg c2, if_neg c3, if_pos c4, List.append_nil]⟩
  rw [if_neg c4] at h
  rcases bind_some h with ⟨_, _, he⟩ | ⟨x, s, hx, h⟩
  ·cases he
  obtain ⟨l, h1, h2, h3, h4, h5⟩ := step x s h
  exact ⟨l, h1, h2, h3, h4, fun at2 acc2 => by unfold pBlockL; rw [if_neg c1, if_neg c2, if_neg c3, if_neg c4, hx]; exact h5 at2 acc2⟩
include hE hX in
theorem topL (hZ : EndX X) : ∀ (f : Nat) (c c' : Bool) (at_ at' : Int) (acc acc' : List Tree) (R R' : List Tk), smTs acc acc' → Sm R R' → Good (R ++ [E]) → ∀ n r, pBlockL f c at_ acc (R ++ [E]) = some (.ok n r) → (c = c' ∨ (c' = false ∧ ∀ x ∈ n.kids, x.kind ≠ 31)) →
  ∃ Q Q' n', r = Q ++ [E] ∧ Sm Q Q' ∧ smT n n' ∧ pBlockL f c' at' acc' (R' ++ X) = some (.ok n' (Q' ++ X))
 | 0, _, _, _, _, _, _, _, _, _, _, _, _, _, h, _ => by unfold pBlockL at h; cases h
 | f + 1, c, c', at_, at', acc, acc', R, R', ha, hS, hG, n, r, h, hc => by
  rcases hS.cases' with ⟨rfl, rfl⟩ | ⟨p, p', Q, Q', rfl, rfl, hp, hS⟩
  ·unfold pBlockL at h ⊢
   simp only [List.nil_append, isH_E hE, endsH_E hE, hZ.semi, hZ.ret, hZ.fn, hZ.ends, Bool.and_false, Bool.false_eq_true, if_false, if_true] at h ⊢
   cases h
   exact ⟨[], [], .mk 20 noB 0 at' acc', rfl, trivial, ⟨rfl, rfl, rfl, ha⟩, rfl⟩
  have hG' := hG.cons.2
  have ih := topL hZ f
  have io := loS hE hX f
  have ie := loE hE hX f
  unfold pBlockL at h ⊢
  simp only [List.cons_append, List.tail_cons, ← isH_c hp _ (Q ++ [E]) (Q' ++ X), ← endsH_c hp (Q ++ [E]) (Q' ++ X)] at h ⊢
  by_cases c1 : isH kSemi (p :: (Q ++ [E])) = true
  ·rw [if_pos c1] at h ⊢
   exact ih c c' at_ at' acc acc' Q Q' ha hS hG' n r h hc
  rw [if_neg c1] at h ⊢
  by_cases c2 : isH kReturn (p :: (Q ++ [E])) = true
  ·rw [if_pos c2] at h ⊢
   have fin : ∀ l l' R R', smTs l l' → Sm R R' → Good (R ++ [E]) → some (PV.ok (.mk 20 noB 0 at_ (acc ++ [.mk 30 noB 0 (hd (p :: (Q ++ [E]))).2.2.2 l])) (if isH kSemi (R ++ [E]) then (R ++ [E]).tail else R ++ [E])) = some (.ok n r) →
     ∃ Q1 Q1' n', r = Q1 ++ [E] ∧ Sm Q1 Q1' ∧ smT n n' ∧ some (PV.ok (.mk 20 noB 0 at' (acc' ++ [.mk 30 noB 0 (hd (p' :: (Q' ++ X))).2.2.2 l'])) (if isH kSemi (R' ++ X) then (R' ++ X).tail else R' ++ X)) = some (.ok n' (Q1' ++ X)) := by
    intro l l' R R' hl hS hG h
    have hm : smT (.mk 20 noB 0 at_ (acc ++ [.mk 30 noB 0 (hd (p :: (Q ++ [E]))).2.2.2 l])) (.mk 20 noB 0 at' (acc' ++ [.mk 30 noB 0 (hd (p' :: (Q' ++ X))).2.2.2 l'])) := ⟨rfl, rfl, rfl, smTs_app ha (smTs_one ⟨rfl, rfl, rfl, hl⟩)⟩
    cases h
    rcases hS.cases' with ⟨rfl, rfl⟩ | ⟨q, q', P, P', rfl, rfl, hq, hS⟩
    ·rw [List.nil_append, List.nil_append, isH_E hE, hZ.semi]
     exact ⟨[], [], _, rfl, trivial, hm, rfl⟩
    ·rw [List.cons_append, List.cons_append, ← isH_c hq kSemi (P ++ [E]) (P' ++ X), List.tail_cons, List.tail_cons]
     by_cases c5 : isH kSemi (q :: (P ++ [E])) = true
     ·rw [if_pos c5, if_pos c5]; exact ⟨P, P', _, rfl, hS, hm, rfl⟩
     ·rw [if_neg c5, if_neg c5]; exact ⟨q :: P, q' :: P', _, rfl, ⟨hq, hS⟩, hm, rfl⟩
   rcases bind_some h with ⟨_, _, he⟩ | ⟨l, s, hl, h⟩
   ·cases he
   rcases hS.cases' with ⟨rfl, rfl⟩ | ⟨q, q', P, P', rfl, rfl, hq, hS⟩
   ·have hl : (if (endsH [E] || isH kSemi [E]) = true then some (PV.ok ([] : List Tree) [E]) else pExps f [E]) = some (.ok l s) := hl
    rw [endsH_E hE] at hl
    simp only [Bool.true_or, if_true] at hl
    cases hl
    have e : (if (endsH X || isH kSemi X) = true then some (PV.ok ([] : List Tree) X) else pExps f X) = some (PV.ok [] X) := by rw [hZ.ends]; rfl
    obtain ⟨Q1, Q1', n', h1, h2, h3, h4⟩ := fin [] [] [] [] trivial trivial hE h
    refine ⟨Q1, Q1', n', h1, h2, h3, ?_⟩
    show PV.bind (if (endsH X || isH kSemi X) = true then some (PV.ok ([] : List Tree) X) else pExps f X) _ = _
    rw [e]
    exact h4
   ·have hl : (if (endsH (q :: (P ++ [E])) || isH kSemi (q :: (P ++ [E]))) = true then some (PV.ok ([] : List Tree) (q :: (P ++ [E]))) else pExps f (q :: (P ++ [E]))) = some (.ok l s) := hl
    have ec : (endsH (q' :: (P' ++ X)) || isH kSemi (q' :: (P' ++ X))) = (endsH (q :: (P ++ [E])) || isH kSemi (q :: (P ++ [E]))) := by rw [isH_c hq kSemi (P ++ [E]) (P' ++ X), endsH_c hq (P ++ [E]) (P' ++ X)]
    have go : ∀ l' s', (if (endsH (q' :: (P' ++ X)) || isH kSemi (q' :: (P' ++ X))) = true then some (PV.ok ([] : List Tree) (q' :: (P' ++ X))) else pExps f (q' :: (P' ++ X))) = some (PV.ok l' s') → (∃ Q1 Q1' n', r = Q1 ++ [E] ∧ Sm Q1 Q1' ∧ smT n n' ∧ some (PV.ok (.mk 20 noB 0 at' (acc' ++ [.mk 30 noB 0 (hd (p' :: (q' :: P' ++ X))).2.2.2 l'])) (if isH kSemi s' then s'.tail else s')) = some (.ok n' (Q1' ++ X))) →
      ∃ Q1 Q1' n', r = Q1 ++ [E] ∧ Sm Q1 Q1' ∧ smT n n' ∧ PV.bind (if (endsH (q' :: (P' ++ X)) || isH kSemi (q' :: (P' ++ X))) = true then some (PV.ok ([] : List Tree) (q' :: (P' ++ X))) else pExps f (q' :: (P' ++ X))) (fun l r => some (PV.ok (.mk 20 noB 0 at' (acc' ++ [.mk 30 noB 0 (hd (p' :: (q' :: P' ++ X))).2.2.2 l])) (if isH kSemi r then r.tail else r))) = some (.ok n' (Q1' ++ X)) := fun l' s' e h => by
     rw [e]; exact h
    by_cases c5 : (endsH (q :: (P ++ [E])) || isH kSemi (q :: (P ++ [E]))) = true
    ·rw [if_pos c5] at hl
     cases hl
     exact go [] (q' :: (P' ++ X)) (by rw [ec, if_pos c5]) (fin [] [] (q :: P) (q' :: P') trivial ⟨hq, hS⟩ hG' h)
    ·rw [if_neg c5] at hl
     obtain ⟨R2, R2', l', rfl, hS2, hG2, hl', hx'⟩ := ie.exps (q :: P) (q' :: P') ⟨hq, hS⟩ hG' l s hl
     exact go l' (R2' ++ X) (by rw [ec, if_neg c5]; exact hx') (fin l l' R2 R2' hl' hS2 hG2 h)
  rw [if_neg c2] at h ⊢
  by_cases c3 : (c && isH kFunction (p :: (Q ++ [E]))) = true
  ·rw [if_pos c3] at h
   rcases bind_some h with ⟨_, _, he⟩ | ⟨x, s, hx, h⟩
   ·cases he
   have hk := fun_kind hx
   obtain ⟨l, hl, _⟩ := acc_app _ _ _ _ _ _ _ h
   rcases hc with rfl | ⟨_, hno⟩
   ·rw [if_pos c3]
    obtain ⟨R2, R2', x', rfl, hS2, hG2, hx2, hx'⟩ := io.function p p' Q Q' hp hS hG x s hx
    rw [hx']
    exact ih c c at_ at' _ _ R2 R2' (smTs_app ha (smTs_one hx2)) hS2 hG2 n r h (.inl rfl)
   ·exact absurd hk (hno x (by rw [hl]; simp))
  rw [if_neg c3] at h
  have c3' : ¬ (c' && isH kFunction (p :: (Q ++ [E]))) = true := by
   rcases hc with rfl | ⟨rfl, _⟩
   ·exact c3
   ·simp
  rw [if_neg c3']
  by_cases c4 : endsH (p :: (Q ++ [E])) = true
  ·rw [if_pos c4] at h ⊢
   cases h
   exact ⟨p :: Q, p' :: Q', .mk 20 noB 0 at' acc', rfl, ⟨hp, hS⟩, ⟨rfl, rfl, rfl, ha⟩, rfl⟩
  rw [if_neg c4] at h ⊢
  rcases bind_some h with ⟨_, _, he⟩ | ⟨x, s, hx, h⟩
  ·cases he
  obtain ⟨R2, R2', x', rfl, hS2, hG2, hx2, hx'⟩ := io.stat (p :: Q) (p' :: Q') ⟨hp, hS⟩ hG x s hx
  have hx' : pStat f (p' :: (Q' ++ X)) = _ := hx'
  rw [hx']
  exact ih c c' at_ at' _ _ R2 R2' (smTs_app ha (smTs_one hx2)) hS2 hG2 n r h hc
include hE hX in
theorem joinL (hZ : isH kSemi X = true) : ∀ (f : Nat) (at_ at' : Int) (acc acc' : List Tree) (R R' : List Tk), smTs acc acc' → Sm R R' → Good (R ++ [E]) → ∀ n, pBlockL f true at_ acc (R ++ [E]) = some (.ok n [E]) → (∀ x, n.kids.getLast? = some x → x.kind ≠ 30) →
  ∃ g acc'', 1 ≤ g ∧ smTs n.kids acc'' ∧ pBlockL f true at' acc' (R' ++ X) = pBlockL g true at' acc'' X
 | 0, _, _, _, _, _, _, _, _, _, _, h, _ => by unfold pBlockL at h; cases h
 | f + 1, at_, at', acc, acc', R, R', ha, hS, hG, n, h, hc => by
  rcases hS.cases' with ⟨rfl, rfl⟩ | ⟨p, p', Q, Q', rfl, rfl, hp, hS⟩
  ·unfold pBlockL at h
   simp only [List.nil_append, isH_E hE, endsH_E hE, Bool.and_false, Bool.false_eq_true, if_false, if_true] at h
   cases h
   exact ⟨f + 1, acc', by omega, ha, rfl⟩
  have hG' := hG.cons.2
  have ih := joinL hZ f
  have io := loS hE hX f
  have ie := loE hE hX f
  have e0 : pBlockL (f + 1) true at' acc' (p' :: Q' ++ X) = _ := pBlockL.eq_2 ..
  rw [e0]
  unfold pBlockL at h
  simp only [List.cons_append, List.tail_cons, ← isH_c hp _ (Q ++ [E]) (Q' ++ X), ← endsH_c hp (Q ++ [E]) (Q' ++ X)] at h ⊢
  by_cases c1 : isH kSemi (p :: (Q ++ [E])) = true
  ·rw [if_pos c1] at h ⊢
   exact ih at_ at' acc acc' Q Q' ha hS hG' n h hc
  rw [if_neg c1] at h ⊢
  by_cases c2 : isH kReturn (p :: (Q ++ [E])) = true
  ·rw [if_pos c2] at h
   rcases bind_some h with ⟨_, _, he⟩ | ⟨l, s, hl, h⟩
   ·cases he
   have h := (PV.ok.inj (Option.some.inj h)).1
   subst h
   exact absurd rfl (hc (.mk 30 noB 0 (hd (p :: (Q ++ [E]))).2.2.2 l) (by simp [Tree.kids]))
  rw [if_neg c2] at h ⊢
  by_cases c3 : (true && isH kFunction (p :: (Q ++ [E]))) = true
  ·rw [if_pos c3] at h ⊢
   rcases bind_some h with ⟨_, _, he⟩ | ⟨x, s, hx, h⟩
   ·cases he
   obtain ⟨R2, R2', x', rfl, hS2, hG2, hx2, hx'⟩ := io.function p p' Q Q' hp hS hG x s hx
   rw [hx']
   exact ih at_ at' _ _ R2 R2' (smTs_app ha (smTs_one hx2)) hS2 hG2 n h hc
  rw [if_neg c3] at h ⊢
  by_cases c4 : endsH (p :: (Q ++ [E])) = true
  ·rw [if_pos c4] at h
   have h := Option.some.inj h
   simp only [PV.ok.injEq] at h
   have := congrArg List.length h.2
   simp at this
  rw [if_neg c4] at h ⊢
  rcases bind_some h with ⟨_, _, he⟩ | ⟨x, s, hx, h⟩
  ·cases he
  obtain ⟨R2, R2', x', rfl, hS2, hG2, hx2, hx'⟩ := io.stat (p :: Q) (p' :: Q') ⟨hp, hS⟩ hG x s hx
  have hx' : pStat f (p' :: (Q' ++ X)) = _ := hx'
  rw [hx']
  exact ih at_ at' _ _ R2 R2' (smTs_app ha (smTs_one hx2)) hS2 hG2 n h hc
end
end Go.Proofs.YtcdeodpakbcdeaaGreatDoor
namespace Go.Proofs.YtcdeodpakbcdeaaGreatDoor
open Go Go.RowKit Lx
theorem scanL_line (r : Bs) : ∀ (n : Nat) (l : Bs) (at_ : Nat) (acc toks : List Tok), l.length ≤ n → scanL l at_ acc = .inr toks →
  ∃ acc' e, toks = acc' ++ [⟨6, [], 0, e⟩] ∧ scanL (l ++ 10 :: r) at_ acc = scanL (10 :: r) (at_ + l.length) acc' := by
 have hr : Gap (10 :: r) := ⟨10, r, rfl, .inr (.inl rfl)⟩
 intro n
 induction n with
 | zero =>
  intro l at_ acc toks hn h
  have : l = [] := List.eq_nil_of_length_eq_zero (by omega)
  subst this
  refine ⟨acc, at_, ?_, by simp⟩
  rw [scanL_step] at h
  have e0 : stepF (([] : Bs).drop (runL blankR [])) = .done := rfl
  rw [e0] at h
  simp only [Sum.inr.injEq] at h
  exact h.symm
 | succ n ih =>
  intro l at_ acc toks hn h
  have hk := runL_le' blankR l
  have hbl := blank_bytes l.length l (Nat.le_refl _)
  obtain ⟨k, hk0⟩ : ∃ k, runL blankR l = k := ⟨_, rfl⟩
  have hsplit : l = l.take k ++ l.drop k := (List.take_append_drop k l).symm
  have hlt : (l.take k).length = k := by rw [List.length_take]; omega
  rw [hk0] at hbl hk
  have e1 : scanL l at_ acc = scanL (l.drop k) (at_ + k) acc := by
   have := scanL_blanks (l.drop k) at_ acc (l.take k) hbl
   rw [← hsplit, hlt] at this
   exact this
  have e2 : scanL (l ++ 10 :: r) at_ acc = scanL (l.drop k ++ 10 :: r) (at_ + k) acc := by
   have := scanL_blanks (l.drop k ++ 10 :: r) at_ acc (l.take k) hbl
   rw [← List.append_assoc, ← hsplit, hlt] at this
   exact this
  have hr0 : runL blankR (l.drop k) = 0 := by
   have h1 := run_blanks (l.drop k) (l.take k) hbl
   rw [← hsplit, hlt, hk0] at h1
   omega
  have hlen : at_ + l.length = at_ + k + (l.drop k).length := by rw [List.length_drop]; omega
  rw [e1] at h
  rw [e2, hlen]
  have hn' : (l.drop k).length ≤ n + 1 := by rw [List.length_drop]; omega
  generalize l.drop k = m at *
  generalize at_ + k = p at *
  clear e1 e2 hsplit hlt hbl hlen hk0 hk hn
  rw [scanL_step, hr0, List.drop_zero, Nat.add_zero] at h
  have hrr : m ≠ [] → runL blankR (m ++ 10 :: r) = 0 := fun hm => by
   rw [runL_append blankR _ hr.low m.length m (Nat.le_refl _) (.inl (by rw [hr0]; exact List.length_pos_iff.2 hm)), hr0]
  cases hst : stepF m with
  | done =>
   have := done_is hst
   subst this
   rw [hst] at h
   simp only [Sum.inr.injEq] at h
   exact ⟨acc, _, h.symm, by simp⟩
  | bad c rel => rw [hst] at h; cases h
  | skip q =>
   rw [hst] at h
   simp only at h
   obtain ⟨hm, hpre, hq⟩ := skip_is hst
   have hq1 := (stepF_take m).1 q hst
   by_cases hq2 : q < m.length
   ·obtain ⟨acc', e, ht, hs⟩ := ih (m.drop q) (p + q) acc toks (by rw [List.length_drop]; omega) h
    have e' : p + q + (m.drop q).length = p + m.length := by rw [List.length_drop]; omega
    rw [e'] at hs
    refine ⟨acc', e, ht, ?_⟩
    rw [scanL_step, hrr hm, List.drop_zero, Nat.add_zero, skip_append m _ hm hr q hst hq2]
    simp only
    rw [drop_app _ _ _ (by omega)]
    exact hs
   ·have hq3 : q = m.length := by omega
    rw [hq3, List.drop_of_length_le (Nat.le_refl _), scanL_step] at h
    have e0 : stepF (([] : Bs).drop (runL blankR [])) = .done := rfl
    rw [e0] at h
    simp only [Sum.inr.injEq] at h
    refine ⟨acc, _, h.symm, ?_⟩
    have hrun : runL inLineR (m ++ 10 :: r) = m.length := by
     rw [runL_append inLineR _ hr.low m.length m (Nat.le_refl _) (.inr ?_)]
     ·rw [← hq, hq3]
     ·rw [runL_step _ _ (by simp), decL_low 10 r (by decide)]; rfl
    have hs2 : stepF (m ++ 10 :: r) = .skip m.length := by
     have hpre2 : [45, 45].isPrefixOf (m ++ 10 :: r) = true := by
      rw [pre_append [45, 45] m (10 :: r) (by simp) hm fun x t e => by cases e; decide]; exact hpre
     unfold stepF
     rw [if_neg (by simp), if_pos hpre2, hrun]
    rw [scanL_step, hrr hm, List.drop_zero, Nat.add_zero, hs2]
    simp only
    rw [List.drop_left]
  | tok kd tx x len =>
   rw [hst] at h
   simp only at h
   have hl := (stepF_take m).2 _ _ _ _ hst
   have hm : m ≠ [] := by rintro rfl; simp at hl; omega
   obtain ⟨acc', e, ht, hs⟩ := ih (m.drop len) (p + len) _ toks (by rw [List.length_drop]; omega) h
   have e' : p + len + (m.drop len).length = p + m.length := by rw [List.length_drop]; omega
   rw [e'] at hs
   refine ⟨acc', e, ht, ?_⟩
   rw [scanL_step, hrr hm, List.drop_zero, Nat.add_zero, stepF_append m _ hm hr _ _ _ _ hst]
   simp only
   rw [drop_app _ _ _ (by omega)]
   exact hs
theorem scanL_skip10 (x : Bs) (at_ : Nat) (acc : List Tok) : scanL (10 :: x) at_ acc = scanL x (at_ + 1) acc := scanL_blanks x at_ acc [10] (by decide)
theorem scanL_one (b : UInt8) (x : Bs) (at_ : Nat) (acc : List Tok) (hb : b = 59 ∨ b = 40 ∨ b = 41) : scanL (b :: x) at_ acc = scanL x (at_ + 1) (acc ++ [⟨5, [b], 0, at_⟩]) := by
 have hlow : b.toNat < 128 := by rcases hb with rfl | rfl | rfl <;> decide
 have hd := decL_low b x hlow
 have h0 : runL blankR (b :: x) = 0 := by
  rw [runL_step _ _ (by simp), hd]
  rcases hb with rfl | rfl | rfl <;> rfl
 have hst : stepF (b :: x) = .tok 5 [b] 0 1 := by
  have hp : [45, 45].isPrefixOf (b :: x) = false := by rcases hb with rfl | rfl | rfl <;> rfl
  have hs : signF (b :: x) = some [b] := by rcases hb with rfl | rfl | rfl <;> rfl
  unfold stepF
  rw [if_neg (by simp), hp]
  simp only [Bool.false_eq_true, if_false, hd, hs]
  rcases hb with rfl | rfl | rfl <;> rfl
 rw [scanL_step, h0, List.drop_zero, Nat.add_zero, hst]
 rfl
end Go.Proofs.YtcdeodpakbcdeaaGreatDoor
namespace Go.Proofs.YtcdeodpakbcdeaaGreatDoor
open Go Go.RowKit Lx
theorem Sm_shift (d : Nat) : ∀ (T : List Tok), Sm (T.map tokT) ((T.map (shift d)).map tokT)
 | [] => trivial
 | x :: T => ⟨⟨rfl, rfl, rfl⟩, Sm_shift d T⟩
theorem Sm_nil {R : List Tk} (h : Sm [] R) : R = [] := by cases R with | nil => rfl | cons => exact h.elim
theorem Sm_len : ∀ {R R' : List Tk}, Sm R R' → R.length = R'.length
 | [], [], _ => rfl
 | _ :: _, _ :: _, h => congrArg (· + 1) (Sm_len h.2)
theorem rest_end {R : List Tk} {E : Tk} (hG : Good (R ++ [E])) (h6 : (hd (R ++ [E])).1 = 6) : R = [] := by
 cases R with
 | nil => rfl
 | cons p R => exact absurd h6 hG.cons.1
theorem good_end : ∀ {R : List Tk} {E : Tk}, Good (R ++ [E]) → E.1 = 6
 | [], _, h => h
 | _ :: _, _, h => good_end h.cons.2
theorem scan_last {s : Bs} {t : List Tok} (h : scanF s = .inr t) : ∃ T E, t = T ++ [E] ∧ Good (T.map tokT ++ [tokT E]) ∧ scanL s 0 [] = .inr (T ++ [E]) ∧ s.length ≤ 20000 := by
 have hT := scan_toks (str s) t (by rw [bs_str]; exact h)
 have hl : s.length ≤ 20000 := by
  unfold scanF at h
  split at h
  ·cases h
  ·omega
 rw [scanF_small s hl] at h
 rcases List.eq_nil_or_concat t with rfl | ⟨T, E, rfl⟩
 ·exact hT.good.elim
 ·exact ⟨T, E, by simp, by have := hT.good; simpa using this, by simpa using h, hl⟩
theorem line_tokens (l r : Bs) (d : Nat) (pre T : List Tok) (E : Tok) (h : scanL l 0 [] = .inr (T ++ [E])) : scanL (l ++ 10 :: r) d pre = scanL r (d + l.length + 1) (pre ++ T.map (shift d)) := by
 have hs := scanL_shift d l.length l 0 pre [] (Nat.le_refl _)
 rw [h] at hs
 simp only [List.map_nil, List.append_nil, Nat.zero_add] at hs
 obtain ⟨acc', e, ht, hsc⟩ := scanL_line r l.length l d pre _ (Nat.le_refl _) hs
 rw [List.map_append, ← List.append_assoc] at ht
 obtain ⟨h1, _⟩ := List.append_inj' ht rfl
 rw [hsc, scanL_skip10, h1]
theorem joins_scan (a b : Bs) (T1 T2 : List Tok) (E1 E2 : Tok) (ha : a.length ≤ 9000) (hb : b.length ≤ 9000) (h1 : scanL a 0 [] = .inr (T1 ++ [E1])) (h2 : scanL b 0 [] = .inr (T2 ++ [E2])) :
  scanF (a ++ [10, 59, 10] ++ b) = .inr (T1.map (shift 0) ++ ⟨5, [59], 0, a.length + 1⟩ :: (T2.map (shift (a.length + 3)) ++ [shift (a.length + 3) E2])) := by
 rw [scanF_small _ (by simp; omega)]
 rw [show a ++ [10, 59, 10] ++ b = a ++ 10 :: 59 :: 10 :: b by simp]
 rw [line_tokens _ _ _ _ T1 E1 h1, scanL_one 59 _ _ _ (.inl rfl), scanL_skip10]
 have hs := scanL_shift (a.length + 3) b.length b 0 (T1.map (shift 0) ++ [⟨5, [59], 0, a.length + 1⟩]) [] (Nat.le_refl _)
 rw [h2] at hs
 simp only [List.map_nil, List.append_nil, List.nil_append, Nat.zero_add, List.map_append, List.map_cons, List.append_assoc, List.cons_append] at hs ⊢
 exact hs
theorem vAll_ok {R : List Tk} {E : Tk} (hG : Good (R ++ [E])) {n : Tree} {r : List Tk} (h : vAll (R ++ [E]) = .ok n r) (f : Nat) (hf : 16 * (R ++ [E]).length + 9 ≤ f) : pBlock f true (R ++ [E]) = some (.ok n r) ∧ (hd r).1 = 6 ∧ Good r := by
 unfold vAll at h
 obtain ⟨b, s, hb, hs⟩ := then_ok h
 have hw := fBlock true hG
 rw [hb] at hw
 by_cases h6 : (hd s).1 = 6
 ·rw [if_pos h6] at hs
  cases hs
  exact ⟨(pBlock_v true hG hf).trans (congrArg some hb), h6, hw.1⟩
 ·rw [if_neg h6] at hs
  cases hs
theorem vAll_of {ts : List Tk} (hG : Good ts) {n : Tree} {E : Tk} (hE : E.1 = 6) (f : Nat) (hf : 16 * ts.length + 9 ≤ f) (h : pBlock f true ts = some (.ok n [E])) : vAll ts = .ok n [E] := by
 have hb : vBlock true ts = .ok n [E] := Option.some.inj ((pBlock_v true hG hf).symm.trans h)
 unfold vAll
 rw [hb]
 show (if E.1 = 6 then PV.ok n [E] else .bad E.2.2.2) = _
 rw [if_pos hE]
abbrev eTk (p : Int) : Tk := (6, noB, 0, p)
theorem good_app : ∀ {R R' : List Tk} {E : Tk} {X : List Tk}, Good (R ++ [E]) → Sm R R' → Good X → (hd X).1 ≠ 6 ∨ X.length = 1 → Good (R' ++ X)
 | [], [], _, _, _, _, hX, _ => hX
 | p :: R, p' :: R', E, X, h, hS, hX, hx => by
  have ih := good_app (R := R) (R' := R') h.cons.2 hS.2 hX hx
  have h6 := h.cons.1
  rw [hS.1.1] at h6
  show Good (p' :: (R' ++ X))
  cases hq : R' ++ X with
  | nil => rw [hq] at ih; exact ih.elim
  | cons u v => rw [hq] at ih; exact ⟨h6, ih⟩
theorem pBlockL_same {c : Bool} {at_ : Int} {acc : List Tree} {ts : List Tk} {f f' : Nat} {v v' : PV Tree} (h : pBlockL f c at_ acc ts = some v) (h' : pBlockL f' c at_ acc ts = some v') : v = v' := by
 have up : ∀ f, Le (pBlockL f c at_ acc ts) (pBlockL (f + 1) c at_ acc ts) := fun f => (leS f).blockL _ _ _ _
 have h1 := le_up up (Nat.le_max_left f f') _ h
 have h2 := le_up up (Nat.le_max_right f f') _ h'
 exact Option.some.inj (h1.symm.trans h2)
theorem joins_parse {R1 R1' R2 R2' : List Tk} {E1 E2 : Tk} {n m : Tree} {r1 r2 : List Tk} (hG1 : Good (R1 ++ [E1])) (hG2 : Good (R2 ++ [E2])) (h1 : vAll (R1 ++ [E1]) = .ok n r1) (h2 : vAll (R2 ++ [E2]) = .ok m r2)
  (hr : ∀ x, n.kids.getLast? = some x → x.kind ≠ 30) (hS1 : Sm R1 R1') (hS2 : Sm R2 R2') (p px : Int) :
  ∃ w l l', w.kind = 20 ∧ w.kids = l ++ l' ∧ smTs n.kids l ∧ smTs m.kids l' ∧ vAll (R1' ++ (5, kSemi, 0, p) :: (R2' ++ [eTk px])) = .ok w [eTk px] := by
 have hE1 := good_end hG1
 have hE2 := good_end hG2
 have hGE : Good [eTk px] := rfl
 have hGX2 : Good (R2' ++ [eTk px]) := good_app hG2 hS2 hGE (.inr rfl)
 have hGX : Good ((5, kSemi, 0, p) :: (R2' ++ [eTk px])) := by
  cases hq : R2' ++ [eTk px] with
  | nil => rw [hq] at hGX2; exact hGX2.elim
  | cons u v => rw [hq] at hGX2; exact ⟨by show (5 : Int) ≠ 6; decide, hGX2⟩
 have hGA : Good (R1' ++ (5, kSemi, 0, p) :: (R2' ++ [eTk px])) := good_app hG1 hS1 hGX (.inl (by show (5 : Int) ≠ 6; decide))
 have hX : Stp ((5, kSemi, 0, p) :: (R2' ++ [eTk px])) := ⟨by kernel_rfl, by kernel_rfl, by kernel_rfl, by kernel_rfl, by kernel_rfl, by kernel_rfl, fun h => absurd h.2 (by show ¬ kSemi.toList = kEq.toList; decide +kernel)⟩
 have hXE : Stp [eTk px] := ⟨by kernel_rfl, by kernel_rfl, by kernel_rfl, by kernel_rfl, by kernel_rfl, by kernel_rfl, fun h => absurd h.1 (by show (6 : Int) ≠ 5; decide)⟩
 have hZE : EndX [eTk px] := ⟨by kernel_rfl, by kernel_rfl, by kernel_rfl, by kernel_rfl⟩
 obtain ⟨f, hf⟩ : ∃ f, f = 16 * (R1' ++ (5, kSemi, 0, p) :: (R2' ++ [eTk px])).length + 100 := ⟨_, rfl⟩
 have hL1 := Sm_len hS1
 have hL2 := Sm_len hS2
 simp only [List.length_append, List.length_cons, List.length_nil] at hf
 obtain ⟨hp1, h61, hr1⟩ := vAll_ok hG1 h1 (f + 1) (by simp only [List.length_append, List.length_cons, List.length_nil]; omega)
 obtain ⟨hp2, h62, hr2⟩ := vAll_ok hG2 h2 (f + 1) (by simp only [List.length_append, List.length_cons, List.length_nil]; omega)
 unfold pBlock at hp1 hp2
 have hw1 := (stepS f).blockL _ _ _ _ hG1 _ hp1
 obtain ⟨Q2, Q2', m', rfl, hSQ, hm, hb2⟩ := topL hE2 hXE hZE f true true _ (hd (R1' ++ (5, kSemi, 0, p) :: (R2' ++ [eTk px]))).2.2.2 [] [] R2 R2' trivial hS2 hG2 m r2 hp2 (.inl rfl)
 obtain rfl := rest_end hr2 h62
 obtain rfl := Sm_nil hSQ
 have hr1e : r1 = [E1] := by
  obtain ⟨Q, Q', _, hq, _⟩ := topL hE1 (X := [eTk px]) hXE hZE f true true _ 0 [] [] R1 R1' trivial hS1 hG1 n r1 hp1 (.inl rfl)
  subst hq
  rw [rest_end hr1 h61]; rfl
 subst hr1e
 obtain ⟨g, acc'', hg, hn, e⟩ := joinL hE1 hX (show isH kSemi ((5, kSemi, 0, p) :: (R2' ++ [eTk px])) = true from by kernel_rfl) f _ (hd (R1' ++ (5, kSemi, 0, p) :: (R2' ++ [eTk px]))).2.2.2 [] [] R1 R1' trivial hS1 hG1 n hp1 hr
 obtain ⟨l', hl', _, _, _, hany⟩ := acc_app _ _ _ _ _ _ _ hb2
 have hany := hany (hd (R1' ++ (5, kSemi, 0, p) :: (R2' ++ [eTk px]))).2.2.2 acc''
 obtain ⟨g, rfl⟩ : ∃ g', g = g' + 1 := ⟨g - 1, by omega⟩
 have e2 : pBlockL (g + 1) true (hd (R1' ++ (5, kSemi, 0, p) :: (R2' ++ [eTk px]))).2.2.2 acc'' ((5, kSemi, 0, p) :: (R2' ++ [eTk px])) = pBlockL g true (hd (R1' ++ (5, kSemi, 0, p) :: (R2' ++ [eTk px]))).2.2.2 acc'' (R2' ++ [eTk px]) := by
  rw [pBlockL.eq_2]
  kernel_rfl
 obtain ⟨v, hv⟩ := (totS (f + 1)).block true _ hGA (by simp only [List.length_append, List.length_cons, List.length_nil]; omega)
 have hv0 := hv
 unfold pBlock at hv
 rw [e, e2] at hv
 have := pBlockL_same hv hany
 subst this
 refine ⟨_, acc'', l', rfl, rfl, hn, ?_, vAll_of hGA rfl (f + 1) (by simp only [List.length_append, List.length_cons, List.length_nil]; omega) hv0⟩
 have hk : smTs m.kids m'.kids := by
  cases m; cases m'; exact hm.2.2.2
 rw [hl'] at hk
 exact hk
end Go.Proofs.YtcdeodpakbcdeaaGreatDoor
namespace Go.Proofs.YtcdeodpakbcdeaaGreatDoor
open Go Go.RowKit Lx
mutual
theorem smT_sz : ∀ {t t' : Tree}, smT t t' → sz t = sz t'
 | .mk _ _ _ _ _, .mk _ _ _ _ _, h => by simp only [sz, smTs_szs h.2.2.2]
theorem smTs_szs : ∀ {l l' : List Tree}, smTs l l' → szs l = szs l'
 | [], [], _ => rfl
 | _ :: _, _ :: _, h => by simp only [szs, smT_sz h.1, smTs_szs h.2]
end
mutual
theorem smT_symm : ∀ {t t' : Tree}, smT t t' → smT t' t
 | .mk _ _ _ _ _, .mk _ _ _ _ _, h => ⟨h.1.symm, h.2.1.symm, h.2.2.1.symm, smTs_symm h.2.2.2⟩
theorem smTs_symm : ∀ {l l' : List Tree}, smTs l l' → smTs l' l
 | [], [], _ => trivial
 | _ :: _, _ :: _, h => ⟨smT_symm h.1, smTs_symm h.2⟩
end
theorem same_loop (J : Unit → Option Bool) (R : TS) (hJ : J () = some true) : ∀ (t t' pre pre' : List Tree) (m : Nat), pre.length = pre'.length → smTs t t' → pre.length + t.length ≤ 10000000 → t.length + 1 ≤ m →
  (∀ x x', x ∈ t → smT x x' → R.law12_same x.kind x.text x.n x.at_ x.kids x'.kind x'.text x'.n x'.at_ x'.kids = some true) → law12_same.l0 m R (pre ++ t) (pre' ++ t') J (pre.length : Int) = some true
 | [], [], pre, pre', m, _, _, hl, hm, _ => by
  obtain ⟨m, rfl⟩ : ∃ m', m = m' + 1 := ⟨m - 1, by omega⟩
  simp only [law12_same.l0]
  rw [dec_f (by simp)]
  exact hJ
 | x :: t, x' :: t', pre, pre', m, hp, hs, hl, hm, hR => by
  obtain ⟨m, rfl⟩ : ∃ m', m = m' + 1 := ⟨m - 1, by omega⟩
  simp only [List.length_cons] at hl hm
  have ih := same_loop J R hJ t t' (pre ++ [x]) (pre' ++ [x']) m (by simp [hp]) hs.2 (by simp; omega) (by omega) (fun y y' hy => hR y y' (List.mem_cons_of_mem _ hy))
  have e2 : lIdx (pre' ++ x' :: t') (pre.length : Int) = some x' := by rw [hp]; exact idx_mid pre' x' t'
  simp only [law12_same.l0]
  rw [dec_t (by simp; omega), idx_mid, e2]
  simp only [cond_true, Option.bind_some]
  rw [hR x x' (List.mem_cons_self ..) hs.1]
  simp only [Option.bind_some, Bool.not_true, cond_false]
  rw [wrap64 _ (by omega) (by omega)]
  rw [List.append_assoc, List.append_assoc, List.length_append] at ih
  exact ih
theorem same_true : ∀ (k : Nat) (t t' : Tree), sz t ≤ k → sz t ≤ 1000000 → smT t t' → law12_same.g (TS.at k) k t.kind t.text t.n t.at_ t.kids t'.kind t'.text t'.n t'.at_ t'.kids = some true
 | 0, t, _, h, _, _ => by have := sz_pos t; omega
 | k + 1, .mk kd tx n a l, .mk kd' tx' n' a' l', h, h9, hs => by
  simp only [sz] at h h9
  have hl := szs_len l
  obtain ⟨rfl, rfl, rfl, hs⟩ := hs
  have hll := smTs_len hs
  unfold law12_same.g joinF
  simp only [Tree.kind, Tree.text, Tree.n, Tree.at_, Tree.kids, hll, bne_self_eq_false, beq_self_eq_true, Bool.not_true, cond_false, Option.bind_some]
  exact same_loop _ _ rfl l l' [] [] (k + 1) rfl hs (by simp only [List.length_nil]; omega) (by omega) fun x x' hx hxx => by
   have := sz_mem hx
   exact same_true k x x' (by omega) (by omega) hxx
theorem sCat_eq {a b : ByteArray} (h : a.size + b.size ≤ 9223372036854775807) : sCat a b = some (str (bs a ++ bs b)) := by
 unfold sCat
 rw [dec_t h]
 have : a ++ b = str (bs a ++ bs b) := bs_inj (by rw [bs_str]; simp [bs])
 rw [this]
 rfl
theorem parseV_cases (s : ByteArray) : (∃ c a, c ≠ 0 ∧ parseV s = outV c a) ∨ ∃ T E n r, scanF (bs s) = .inr (T ++ [E]) ∧ scanL (bs s) 0 [] = .inr (T ++ [E]) ∧ Good (T.map tokT ++ [tokT E]) ∧ vAll (T.map tokT ++ [tokT E]) = .ok n r ∧ parseV s = treeV n ∧ ordT n ∧ sz n ≤ 80010 ∧ n.kind = 20 := by
 cases hs : scanF (bs s) with
 | inl x =>
  obtain ⟨c, p⟩ := x
  exact .inl ⟨c, p, scanF_ne' _ _ _ hs, parseV_inl hs⟩
 | inr t =>
  have hT := scan_toks s t hs
  cases hv : vAll (t.map tokT) with
  | bad i => exact .inl ⟨4, i, by decide, parseV_bad hs hv⟩
  | ok n r =>
   obtain ⟨h1, h2, h3⟩ := vAll_tree hT hv
   obtain ⟨T, E, rfl, hG, hL, _⟩ := scan_last hs
   rw [List.map_append, List.map_singleton] at hv
   refine .inr ⟨T, E, n, r, rfl, hL, hG, hv, parseV_ok hs (by rw [List.map_append, List.map_singleton]; exact hv), h1, h2, h3⟩
theorem parseV_of {s : ByteArray} {l : Bs} (hl : bs s = l) {t : List Tok} {ts : List Tk} (h : scanF l = .inr t) (hm : t.map tokT = ts) {n : Tree} {r : List Tk} (hv : vAll ts = .ok n r) : parseV s = treeV n := parseV_ok (by rw [hl]; exact h) (by rw [hm]; exact hv)
end Go.Proofs.YtcdeodpakbcdeaaGreatDoor
namespace Go.Proofs.YtcdeodpakbcdeaaGreatDoor
open Go Go.RowKit
def law12_ParseJoins.l0 : Nat → (r3 : Int × ByteArray × Int × Int × List Tree × Int × Int) → (r10 : Int × ByteArray × Int × Int × List Tree × Int × Int) → (r21 : Int × ByteArray × Int × Int × List Tree × Int × Int) → (J30 : (Unit → Option (Bool))) → (x31 : Int) → Option (Bool)
 | 0, _, _, _, _, _ => none
 | m32 + 1, r3, r10, r21, J30, x31 => cond (decide (x31 < ((r21.2.2.2.2.1.length : Nat) : Int))) ((cond (decide (x31 < ((r3.2.2.2.2.1.length : Nat) : Int))) ((lIdx r21.2.2.2.2.1 x31).bind fun x37 => (lIdx r3.2.2.2.2.1 x31).bind fun x46 => (law12_same.f m32 x37.kind x37.text x37.n x37.at_ x37.kids x46.kind x46.text x46.n x46.at_ x46.kids).bind fun r55 => cond (!r55) (some true) (cond (decide (x31 ≥ ((r3.2.2.2.2.1.length : Nat) : Int))) ((lIdx r21.2.2.2.2.1 x31).bind fun x58 => (lIdx r10.2.2.2.2.1 (IntKind.i64.wrap (x31 - ((r3.2.2.2.2.1.length : Nat) : Int)))).bind fun x67 => (law12_same.f m32 x58.kind x58.text x58.n x58.at_ x58.kids x67.kind x67.text x67.n x67.at_ x67.kids).bind fun r76 => some (!r76)) (some false))) (cond (decide (x31 ≥ ((r3.2.2.2.2.1.length : Nat) : Int))) ((lIdx r21.2.2.2.2.1 x31).bind fun x78 => (lIdx r10.2.2.2.2.1 (IntKind.i64.wrap (x31 - ((r3.2.2.2.2.1.length : Nat) : Int)))).bind fun x87 => (law12_same.f m32 x78.kind x78.text x78.n x78.at_ x78.kids x87.kind x87.text x87.n x87.at_ x87.kids).bind fun r96 => some (!r96)) (some false)) : Option Bool).bind fun q34 => cond q34 (some (false)) (law12_ParseJoins.l0 m32 r3 r10 r21 J30 (IntKind.i64.wrap (x31 + 1)))) (J30 ())
def law12_ParseJoins.f (k : Nat) (a0 : ByteArray) (a1 : ByteArray) : Option (Bool) := (law12_fixed.f k).bind fun r1 => cond (!r1) (some (false)) ((parse_Parse.f k a0).bind fun r3 => (parse_Parse.f k a1).bind fun r10 => (cond (r3.2.2.2.2.2.1 != 0) (some true) (cond (r10.2.2.2.2.2.1 != 0) (some true) (cond (decide ((a0.size : Int) > 9000)) (some true) (cond (decide ((a1.size : Int) > 9000)) (some true) (cond (decide (((r3.2.2.2.2.1.length : Nat) : Int) > 0)) ((lIdx r3.2.2.2.2.1 (IntKind.i64.wrap (((r3.2.2.2.2.1.length : Nat) : Int) - 1))).bind fun x103 => some (x103.kind == 30)) (some false))))) : Option Bool).bind fun q17 => cond q17 (some (true)) ((sCat a0 (⟨#[10, 59, 10]⟩ : ByteArray)).bind fun s19 : ByteArray => (sCat s19 a1).bind fun s20 : ByteArray => (parse_Parse.f k s20).bind fun r21 => (cond (r21.2.2.2.2.2.1 != 0) (some true) (some (((r21.2.2.2.2.1.length : Nat) : Int) != (IntKind.i64.wrap (((r3.2.2.2.2.1.length : Nat) : Int) + ((r10.2.2.2.2.1.length : Nat) : Int))))) : Option Bool).bind fun q28 => cond q28 (some (false)) (joinF (fun (_ : Unit) => some (true)) (fun J30 => law12_ParseJoins.l0 k r3 r10 r21 J30 0))))
set_option maxRecDepth 100000 in
theorem law12_ParseJoins.ok {k : Nat} {a0 : ByteArray} {a1 : ByteArray} {G : Frag} {r : Bool} (h : law12_ParseJoins.f k a0 a1 = some r) (hG : GlT G) : Ct Tryz.prog 6 #[sv a0, sv a1] [] [G] (fun e l1 => e = .returned (bv r) ∧ l1 = []) := by
 refine ct_enter (args := [sv a0, sv a1]) Tryz.func6 rfl (Nat.le_of_ble_eq_true rfl) ?_
 intro A X hh_
 obtain ⟨hm_G, _⟩ := hh_
 unfold law12_ParseJoins.f at h
 refine ksr (kx 1 (knt (k_seq (ksr (bnd h fun r1 hr1 h => (kcv (law12_fixed.ok hr1 hG) ⟨hm_G, trivial⟩ (kx 1 (knt ?_))))))))
 refine kcn h (fun h => ?_) fun h => ?_
 ·refine ksr (kx 1 (knt (k_ret (k_then_ret ?_))))
  obtain rfl := Option.some.inj h
  exact kdn rfl
 ·refine k_skip (k_then (ksr (kx 1 (bnd h fun r3 hr3 h => (kcl (parse_Parse.ok hr3 hG.1) rfl ⟨hm_G, trivial⟩ ?_)))))
  rintro _ _ ⟨h4, A5, k6, o7, rfl, rfl⟩
  refine nx_ret1 (kx 3 (knp #[iv 0, sv noS, iv 0, iv 0, nS] 24 fun b8 => (knp #[iv 0, iv 0] 27 fun b9 => (K.mv1 (kst 0 5 #[iv r3.1, sv r3.2.1, iv r3.2.2.1, iv r3.2.2.2.1, .slice A5 r3.2.2.2.2.1.length k6] (K.mv1 (kst 0 2 #[iv r3.2.2.2.2.2.1, iv r3.2.2.2.2.2.2] (kns' (kx 1 (bnd h fun r10 hr10 h => ?_))))))))))
  refine kcl (parse_Parse.ok hr10 hG.1) rfl ⟨(t3 hm_G), trivial⟩ ?_
  rintro _ _ ⟨h11, A12, k13, o14, rfl, rfl⟩
  refine nx_ret1 (kx 3 (knp #[iv 0, sv noS, iv 0, iv 0, nS] 24 fun b15 => (knp #[iv 0, iv 0] 27 fun b16 => (K.mv1 (kst 0 5 #[iv r10.1, sv r10.2.1, iv r10.2.2.1, iv r10.2.2.2.1, .slice A12 r10.2.2.2.2.1.length k13] (K.mv1 (kst 0 2 #[iv r10.2.2.2.2.2.1, iv r10.2.2.2.2.2.2] (knt (k_seq (bnd h fun q17 hq17 h => ?_))))))))))
  refine k_cut1 [(0, sv a0), (1, sv a1), (5, pt b8), (7, pt b15), (59, bv q17)] (bk b15 #[iv r10.1, sv r10.2.1, iv r10.2.2.1, iv r10.2.2.2.1, .slice A12 r10.2.2.2.2.1.length k13] 24 :: h11 :: bk b8 #[iv r3.1, sv r3.2.1, iv r3.2.2.1, iv r3.2.2.2.1, .slice A5 r3.2.2.2.2.1.length k6] 24 :: h4 :: X) ?_ ?_
  ·clear hq17
   refine kcn h (fun h => ?_) fun h => ?_
   ·refine ksr (kx 1 (knt (k_ret (k_then_ret ?_))))
    obtain rfl := Option.some.inj h
    exact K.drop (K.drop (K.drop (K.drop (kdn rfl))))
   ·refine k_skip (k_then (ksr (kx 1 (bnd h fun s19 hs19 h => (kl_cat rfl (by kernel_rfl) (by kernel_rfl) (by kernel_rfl) (by kernel_rfl) hs19 (kx 1 (bnd h fun s20 hs20 h => (kl_cat rfl (by kernel_rfl) (by kernel_rfl) (by kernel_rfl) (by kernel_rfl) hs20 (bnd h fun r21 hr21 h => (kcl (parse_Parse.ok hr21 hG.1) rfl ⟨(t4 hm_G), trivial⟩ ?_))))))))))
    rintro _ _ ⟨h22, A23, k24, o25, rfl, rfl⟩
    refine nx_ret1 (kx 3 (knp #[iv 0, sv noS, iv 0, iv 0, nS] 24 fun b26 => (knp #[iv 0, iv 0] 27 fun b27 => (K.mv1 (kst 0 5 #[iv r21.1, sv r21.2.1, iv r21.2.2.1, iv r21.2.2.2.1, .slice A23 r21.2.2.2.2.1.length k24] (K.mv1 (kst 0 2 #[iv r21.2.2.2.2.2.1, iv r21.2.2.2.2.2.2] (knt (k_seq (bnd h fun q28 hq28 h => ?_))))))))))
    refine k_cut1 [(5, pt b8), (7, pt b15), (9, pt b26), (83, bv q28)] (bk b26 #[iv r21.1, sv r21.2.1, iv r21.2.2.1, iv r21.2.2.2.1, .slice A23 r21.2.2.2.2.1.length k24] 24 :: h22 :: bk b15 #[iv r10.1, sv r10.2.1, iv r10.2.2.1, iv r10.2.2.2.1, .slice A12 r10.2.2.2.2.1.length k13] 24 :: h11 :: bk b8 #[iv r3.1, sv r3.2.1, iv r3.2.2.1, iv r3.2.2.2.1, .slice A5 r3.2.2.2.2.1.length k6] 24 :: h4 :: X) ?_ ?_
    ·clear hq28
     refine kcn h (fun h => ?_) fun h => ?_
     ·refine ksr (kx 1 (knt (k_ret (k_then_ret ?_))))
      obtain rfl := Option.some.inj h
      exact K.drop (K.drop (K.drop (K.drop (K.drop (K.drop (kdn rfl))))))
     ·refine k_skip (k_then ?_)
      obtain ⟨J30, hJ30, h⟩ := joinSplit h
      refine k_cut (τ := Unit) (fun t => []) (fun t => X) (fun t => J30 () = some r) ?_ ?_
      ·rintro ⟨⟩ h
       subst hJ30
       refine ksr (kx 1 (knt (k_ret ?_)))
       obtain rfl := Option.some.inj h
       exact kdn rfl
      ·skip
       refine ksr (kx 1 (knt (k_block (k_loop (τ := Int) (fun t => [(5, pt b8), (7, pt b15), (9, pt b26), (11, iv t)]) (fun t => bk b26 #[iv r21.1, sv r21.2.1, iv r21.2.2.1, iv r21.2.2.2.1, .slice A23 r21.2.2.2.2.1.length k24] 24 :: h22 :: bk b15 #[iv r10.1, sv r10.2.1, iv r10.2.2.1, iv r10.2.2.2.1, .slice A12 r10.2.2.2.2.1.length k13] 24 :: h11 :: bk b8 #[iv r3.1, sv r3.2.1, iv r3.2.2.1, iv r3.2.2.2.1, .slice A5 r3.2.2.2.2.1.length k6] 24 :: h4 :: X) (fun m t => law12_ParseJoins.l0 m r3 r10 r21 J30 t = some r) k 0 h sb rfl ?_))))
       clear h
       rintro m32 x31 h
       cases m32 with
       | zero => simp [law12_ParseJoins.l0] at h
       | succ m32 =>
        simp only [law12_ParseJoins.l0] at h
        refine k_seq (ksr (kx 2 (kld 0 4 rfl (kx 2 (knt ?_)))))
        refine kcn h (fun h => ?_) fun h => ?_
        ·refine k_skip (k_then (k_seq (k_block (bnd h fun q34 hq34 h => ?_))))
         refine k_cut1 [(5, pt b8), (7, pt b15), (9, pt b26), (11, iv x31), (134, bv q34)] (bk b26 #[iv r21.1, sv r21.2.1, iv r21.2.2.1, iv r21.2.2.2.1, .slice A23 r21.2.2.2.2.1.length k24] 24 :: h22 :: bk b15 #[iv r10.1, sv r10.2.1, iv r10.2.2.1, iv r10.2.2.2.1, .slice A12 r10.2.2.2.2.1.length k13] 24 :: h11 :: bk b8 #[iv r3.1, sv r3.2.1, iv r3.2.2.1, iv r3.2.2.2.1, .slice A5 r3.2.2.2.2.1.length k6] 24 :: h4 :: X) ?_ ?_
         ·clear hq34
          refine kcn h (fun h => ?_) fun h => ?_
          ·refine ksr (kx 1 (knt (k_ret (k_blk_ret (k_then_ret (k_then_ret (k_blk_ret (k_then_ret ?_))))))))
           obtain rfl := Option.some.inj h
           exact K.drop (K.drop (K.drop (K.drop (K.drop (K.drop (kdn rfl))))))
          ·exact k_skip (k_blk (k_then (k_region (kx 3 (knt (k_again m32 (IntKind.i64.wrap (x31 + 1)) (Nat.lt_succ_self _) h sb rfl))))))
         ·have h := hq34
          clear hq34
          refine kpr [(0, 0), (1, 0), (2, 3), (3, 0), (4, 0), (5, 0), (6, 0), (7, 3), (8, 0), (9, 0), (10, 3), (11, 0), (12, 3), (13, 0), (14, 0), (15, 3), (16, 1), (17, 0), (18, 0), (19, 0), (20, 0), (21, 0), (22, 3), (23, 0), (24, 0), (25, 0), (26, 0), (27, 3), (28, 0), (29, 0), (30, 3), (31, 0), (32, 3), (33, 0), (34, 0), (35, 3), (36, 0), (37, 0), (38, 0), (39, 3)] [0, 1, 2, 3, 4, 5] (kpx 2 (kpd 4 4 rfl (kpx 3 ?_)))
          refine kcs 96 h (fun h => ?_) fun h => ?_
          ·refine kpx 1 (kpd 0 4 rfl (kpx 1 (bnd h fun x37 hx37 h => (kpelR (T := 24) (kd := .i64) (R := (rTree 24)) rfl hx37 (OwnR.rd o25) fun p38 u41 q42 e39 y40 => ?_))))
           obtain ⟨A43, k44, rfl, o45⟩ := treeR_mk 24 q42
           refine kpeN rfl e39 (fun w h_ => h_.mem _ (.tail _ (.head _))) (kpx 1 (kpd 4 4 rfl (kpx 1 (bnd h fun x46 hx46 h => (kpelR (T := 24) (kd := .i64) (R := (rTree 24)) rfl hx46 (OwnR.rd o7) fun p47 u50 q51 e48 y49 => ?_)))))
           obtain ⟨A52, k53, rfl, o54⟩ := treeR_mk 24 q51
           refine kpeN rfl e48 (fun w h_ => h_.mem _ (.tail _ (.tail _ (.tail _ (.tail _ (.tail _ (.head _))))))) (kpt (bnd h fun r55 hr55 h => (ocv (law12_same.ok hr55 o45 o54) ⟨(.tail _ (.head _)), (.tail _ (.tail _ (.tail _ (.tail _ (.tail _ (.head _)))))), trivial⟩ (kan [0, 1, 2, 3, 4, 5] rfl (kpx 3 ?_)))))
           refine kcs 110 h (fun h => ?_) fun h => ?_
           ·refine kpx 2 (kp_skip3 (by kernel_rfl) (by kernel_rfl) (kpx 4 (kp_skip3 (by kernel_rfl) (by kernel_rfl) (kpx 2 (kp_skip3 (by kernel_rfl) (by kernel_rfl) (kpx 1 (kp_skip3 (by kernel_rfl) (by kernel_rfl) (kpx 2 (kp_skip3 (by kernel_rfl) (by kernel_rfl) (kpx 3 ?_))))))))))
            exact kp_skip3 (by kernel_rfl) (by kernel_rfl) (kpz (kx 4 (knt (k_meet1 ⟨gr, gr, gr, gr, gb (Option.some.inj h), trivial⟩))))
           ·refine kpx 2 (kpd 4 4 rfl (kpx 3 ?_))
            refine kcs 116 h (fun h => ?_) fun h => ?_
            ·refine kpx 1 (kpd 0 4 rfl (kpx 1 (bnd h fun x58 hx58 h => (kpelR (T := 24) (kd := .i64) (R := (rTree 24)) rfl hx58 (OwnR.rd o25) fun p59 u62 q63 e60 y61 => ?_))))
             obtain ⟨A64, k65, rfl, o66⟩ := treeR_mk 24 q63
             refine kpeN rfl e60 (fun w h_ => h_.mem _ (.tail _ (.head _))) (kpx 1 (kpd 2 4 rfl (kpx 2 (kpd 4 4 rfl (kpx 2 (bnd h fun x67 hx67 h => (kpelR (T := 24) (kd := .i64) (R := (rTree 24)) rfl hx67 (OwnR.rd o14) fun p68 u71 q72 e69 y70 => ?_)))))))
             obtain ⟨A73, k74, rfl, o75⟩ := treeR_mk 24 q72
             exact kpeN rfl e69 (fun w h_ => h_.mem _ (.tail _ (.tail _ (.tail _ (.head _))))) (kpz (bnd h fun r76 hr76 h => (kcv (law12_same.ok hr76 o66 o75) ⟨(.tail _ (.head _)), (.tail _ (.tail _ (.tail _ (.head _)))), trivial⟩ (kx 3 (knt (k_meet1 ⟨gr, gr, gr, gr, gb (Option.some.inj h), trivial⟩))))))
            ·refine kpx 1 (kp_skip3 (by kernel_rfl) (by kernel_rfl) (kpx 2 (kp_skip3 (by kernel_rfl) (by kernel_rfl) (kpx 1 (kp_skip3 (by kernel_rfl) (by kernel_rfl) (kpx 2 (kp_skip3 (by kernel_rfl) (by kernel_rfl) (kpx 3 (kp_skip3 (by kernel_rfl) (by kernel_rfl) (kpz ?_))))))))))
             exact kx 4 (knt (k_meet1 ⟨gr, gr, gr, gr, gb (Option.some.inj h), trivial⟩))
          ·refine kpx 1 (kp_skip3 (by kernel_rfl) (by kernel_rfl) (kpx 2 (kp_skip3 (by kernel_rfl) (by kernel_rfl) (kpx 1 (kp_skip3 (by kernel_rfl) (by kernel_rfl) (kpx 2 (kp_skip3 (by kernel_rfl) (by kernel_rfl) (kp_skip1 (by kernel_rfl) (by kernel_rfl) (kan [0, 1, 2, 3, 4, 5] rfl (kpx 5 ?_))))))))))
           refine kpd 4 4 rfl (kpx 3 ?_)
           refine kcs 116 h (fun h => ?_) fun h => ?_
           ·refine kpx 1 (kpd 0 4 rfl (kpx 1 (bnd h fun x78 hx78 h => (kpelR (T := 24) (kd := .i64) (R := (rTree 24)) rfl hx78 (OwnR.rd o25) fun p79 u82 q83 e80 y81 => ?_))))
            obtain ⟨A84, k85, rfl, o86⟩ := treeR_mk 24 q83
            refine kpeN rfl e80 (fun w h_ => h_.mem _ (.tail _ (.head _))) (kpx 1 (kpd 2 4 rfl (kpx 2 (kpd 4 4 rfl (kpx 2 (bnd h fun x87 hx87 h => (kpelR (T := 24) (kd := .i64) (R := (rTree 24)) rfl hx87 (OwnR.rd o14) fun p88 u91 q92 e89 y90 => ?_)))))))
            obtain ⟨A93, k94, rfl, o95⟩ := treeR_mk 24 q92
            exact kpeN rfl e89 (fun w h_ => h_.mem _ (.tail _ (.tail _ (.tail _ (.head _))))) (kpz (bnd h fun r96 hr96 h => (kcv (law12_same.ok hr96 o86 o95) ⟨(.tail _ (.head _)), (.tail _ (.tail _ (.tail _ (.head _)))), trivial⟩ (kx 3 (knt (k_meet1 ⟨gr, gr, gr, gr, gb (Option.some.inj h), trivial⟩))))))
           ·refine kpx 1 (kp_skip3 (by kernel_rfl) (by kernel_rfl) (kpx 2 (kp_skip3 (by kernel_rfl) (by kernel_rfl) (kpx 1 (kp_skip3 (by kernel_rfl) (by kernel_rfl) (kpx 2 (kp_skip3 (by kernel_rfl) (by kernel_rfl) (kpx 3 (kp_skip3 (by kernel_rfl) (by kernel_rfl) (kpz ?_))))))))))
            exact kx 4 (knt (k_meet1 ⟨gr, gr, gr, gr, gb (Option.some.inj h), trivial⟩))
        ·refine k_exit (k_then_exit (k_then_exit (k_here (k_then (K.drop (K.drop (K.drop (K.drop (K.drop (K.drop ?_))))))))))
         exact k_meet () h trivial rfl
    ·have h := hq28
     clear hq28
     refine k_region (kx 1 (kld 0 0 rfl (K.drop (kx 2 ?_))))
     refine kcs 71 h (fun h => ?_) fun h => ?_
     ·exact kx 12 (knt (k_meet1 ⟨gr, gr, gr, gb (Option.some.inj h), trivial⟩))
     ·exact kx 1 (kld 0 4 rfl (kx 2 (kld 4 4 rfl (kx 2 (kld 2 4 rfl (kx 4 (knt (k_meet1 ⟨gr, gr, gr, gb (Option.some.inj h), trivial⟩))))))))
  ·have h := hq17
   clear hq17
   refine k_region (kx 1 (kld 3 0 rfl (K.mv3 (K.drop (kx 2 ?_)))))
   refine kcs 27 h (fun h => ?_) fun h => ?_
   ·exact kx 32 (knt (K.drop (k_meet1 ⟨gr, gr, gr, gr, gb (Option.some.inj h), trivial⟩)))
   ·refine kx 1 (kld 0 0 rfl (K.drop (kx 3 ?_)))
    refine kcs 32 h (fun h => ?_) fun h => ?_
    ·exact kx 27 (knt (k_meet1 ⟨gr, gr, gr, gr, gb (Option.some.inj h), trivial⟩))
    ·refine kx 5 ?_
     refine kcs 37 h (fun h => ?_) fun h => ?_
     ·exact kx 22 (knt (k_meet1 ⟨gr, gr, gr, gr, gb (Option.some.inj h), trivial⟩))
     ·refine kx 5 ?_
      refine kcs 42 h (fun h => ?_) fun h => ?_
      ·exact kx 17 (knt (k_meet1 ⟨gr, gr, gr, gr, gb (Option.some.inj h), trivial⟩))
      ·refine kx 1 (kld 2 4 rfl (kx 3 ?_))
       refine kcs 47 h (fun h => ?_) fun h => ?_
       ·refine kx 1 (kld 2 4 rfl (kx 1 (kld 2 4 rfl (kx 2 (bnd h fun x103 hx103 h => (kelR (T := 24) (kd := .i64) (R := (rTree 24)) rfl hx103 (OwnR.rd o7) fun p104 u107 q108 e105 y106 => ?_))))))
        obtain ⟨A109, k110, rfl, o111⟩ := treeR_mk 24 q108
        refine kefP (off := 0) rfl e105 y106 fun p112 e113 y114 => ?_
        have e113 : Elem _ p112 [iv x103.kind, sv x103.text, iv x103.n, iv x103.at_, .slice A109 x103.kids.length k110] := e113
        exact kl_eload1 rfl (by kernel_rfl) (by kernel_rfl) (by kernel_rfl) (by kernel_rfl) e113 (.tail _ (.tail _ (.tail _ (.head _)))) (kx 3 (knt (k_meet1 ⟨gr, gr, gr, gr, gb (Option.some.inj h), trivial⟩)))
       ·exact kx 12 (knt (k_meet1 ⟨gr, gr, gr, gr, gb (Option.some.inj h), trivial⟩))
end Go.Proofs.YtcdeodpakbcdeaaGreatDoor
namespace Go.Proofs.YtcdeodpakbcdeaaGreatDoor
open Go Go.RowKit Lx
theorem same_f {k : Nat} {t t' : Tree} (hz : sz t ≤ 100000) (hk : 100000 ≤ k) (h : smT t' t) : law12_same.f k t.kind t.text t.n t.at_ t.kids t'.kind t'.text t'.n t'.at_ t'.kids = some true := same_true k t t' (by omega) (by omega) (smT_symm h)
section
variable {r3 r10 r21 : Int × ByteArray × Int × Int × List Tree × Int × Int} {nk mk wk : List Tree} (h3 : r3.2.2.2.2.1 = nk) (h10 : r10.2.2.2.2.1 = mk) (h21 : r21.2.2.2.2.1 = wk) (J : Unit → Option Bool)
include h3 h10 h21
theorem joins2 : ∀ (t t' pre prem : List Tree) (m : Nat), wk = pre ++ t → mk = prem ++ t' → pre.length = nk.length + prem.length → smTs t' t → szs t ≤ 100000 → pre.length + t.length ≤ 1000000 → t.length + 100001 ≤ m →
  law12_ParseJoins.l0 m r3 r10 r21 J (pre.length : Int) = J ()
 | [], [], pre, prem, m, hw, hm, hp, _, _, hl, hf => by
  obtain ⟨m, rfl⟩ : ∃ m', m = m' + 1 := ⟨m - 1, by omega⟩
  simp only [law12_ParseJoins.l0, h21, hw]
  rw [dec_f (by simp)]
  rfl
 | x :: t, x' :: t', pre, prem, m, hw, hm, hp, hs, hz, hl, hf => by
  obtain ⟨m, rfl⟩ : ∃ m', m = m' + 1 := ⟨m - 1, by omega⟩
  simp only [List.length_cons] at hl hf
  simp only [szs] at hz
  have ih := joins2 t t' (pre ++ [x]) (prem ++ [x']) m (by rw [hw]; simp) (by rw [hm]; simp) (by simp; omega) hs.2 (by omega) (by simp; omega) (by omega)
  simp only [law12_ParseJoins.l0, h3, h10, h21]
  have ew : lIdx wk (pre.length : Int) = some x := by rw [hw]; exact idx_mid pre x t
  have em : lIdx mk (IntKind.i64.wrap ((pre.length : Int) - ((nk.length : Nat) : Int))) = some x' := by
   rw [wrap64 _ (by omega) (by omega), show (pre.length : Int) - (nk.length : Int) = (prem.length : Int) by omega, hm]
   exact idx_mid prem x' t'
  rw [dec_t (p := (pre.length : Int) < ((wk.length : Nat) : Int)) (by rw [hw]; simp; omega), dec_f (p := (pre.length : Int) < ((nk.length : Nat) : Int)) (by omega), dec_t (p := (pre.length : Int) ≥ ((nk.length : Nat) : Int)) (by omega)]
  simp only [cond_true, cond_false]
  rw [ew, em]
  simp only [Option.bind_some]
  rw [same_f (by omega) (by omega) hs.1]
  simp only [Option.bind_some, Bool.not_true, cond_false]
  rw [wrap64 _ (by omega) (by omega)]
  rw [List.length_append] at ih
  exact ih
theorem joins1 (l' : List Tree) (hs' : smTs mk l') (hz' : szs l' ≤ 100000) : ∀ (t t' pre pren : List Tree) (m : Nat), wk = pre ++ t ++ l' → nk = pren ++ t' → pre.length = pren.length → smTs t' t → szs t ≤ 100000 → pre.length + t.length + l'.length ≤ 1000000 → t.length + l'.length + 100001 ≤ m →
  law12_ParseJoins.l0 m r3 r10 r21 J (pre.length : Int) = J ()
 | [], [], pre, pren, m, hw, hn, hp, _, _, hl, hf => by
  simp only [List.append_nil] at hw hn
  subst hn
  exact joins2 h3 h10 h21 J l' mk pre [] m hw rfl (by simp [hp]) hs' hz' (by simp at hl; omega) (by simp at hf; omega)
 | x :: t, x' :: t', pre, pren, m, hw, hn, hp, hs, hz, hl, hf => by
  obtain ⟨m, rfl⟩ : ∃ m', m = m' + 1 := ⟨m - 1, by omega⟩
  simp only [List.length_cons] at hl hf
  simp only [szs] at hz
  have ih := joins1 l' hs' hz' t t' (pre ++ [x]) (pren ++ [x']) m (by rw [hw]; simp) (by rw [hn]; simp) (by simp; omega) hs.2 (by omega) (by simp; omega) (by omega)
  simp only [law12_ParseJoins.l0, h3, h10, h21]
  have ew : lIdx wk (pre.length : Int) = some x := by rw [hw, List.append_assoc]; exact idx_mid pre x (t ++ l')
  have en : lIdx nk (pre.length : Int) = some x' := by rw [hn, hp]; exact idx_mid pren x' t'
  have hnl : nk.length = pren.length + (t'.length + 1) := by rw [hn]; simp
  rw [dec_t (p := (pre.length : Int) < ((wk.length : Nat) : Int)) (by rw [hw]; simp; omega), dec_t (p := (pre.length : Int) < ((nk.length : Nat) : Int)) (by omega), dec_f (p := (pre.length : Int) ≥ ((nk.length : Nat) : Int)) (by omega)]
  simp only [cond_true, cond_false]
  rw [ew, en]
  simp only [Option.bind_some]
  rw [same_f (by omega) (by omega) hs.1]
  simp only [Option.bind_some, Bool.not_true, cond_false]
  rw [wrap64 _ (by omega) (by omega)]
  rw [List.length_append] at ih
  exact ih
end
theorem kids_sz (n : Tree) : szs n.kids + 1 = sz n := by cases n; rfl
theorem pjoins_true (a b : ByteArray) : law12_ParseJoins.f 2000000 a b = some true := by
 unfold law12_ParseJoins.f
 rw [pparse_eq _ (by omega), pparse_eq _ (by omega), fixed_true]
 simp only [Option.bind_some, Bool.not_true, cond_false]
 rcases parseV_cases a with ⟨c, x, hc, hp⟩ | ⟨T1, E1, n, r1, hF1, hL1, hG1, hv1, hp1, ho1, hz1, hk1⟩
 ·rw [hp]
  simp only [outV]
  rw [show (c != 0) = true by rw [bne_iff_ne]; exact hc]
  rfl
 rw [hp1]
 simp only [treeV, bne_self_eq_false, cond_false, Option.bind_some]
 rcases parseV_cases b with ⟨c, x, hc, hp⟩ | ⟨T2, E2, m, r2, hF2, hL2, hG2, hv2, hp2, ho2, hz2, hk2⟩
 ·rw [hp]
  simp only [outV]
  rw [show (c != 0) = true by rw [bne_iff_ne]; exact hc]
  rfl
 rw [hp2]
 simp only [treeV, bne_self_eq_false, cond_false, Option.bind_some]
 by_cases ha : (a.size : Int) > 9000
 ·rw [dec_t ha]; rfl
 rw [dec_f ha]
 by_cases hb : (b.size : Int) > 9000
 ·rw [dec_t hb]; rfl
 rw [dec_f hb]
 simp only [cond_false]
 have hla : (bs a).length ≤ 9000 := by rw [bs_length]; omega
 have hlb : (bs b).length ≤ 9000 := by rw [bs_length]; omega
 have hn1 := kids_sz n
 have hn2 := kids_sz m
 have hnl := szs_len n.kids
 have hml := szs_len m.kids
 -- the first one ends by no return
 have key : (∀ x, n.kids.getLast? = some x → x.kind ≠ 30) → ∀ g : Option Bool, g = some false → (g.bind fun q17 => cond q17 (some true) ((sCat a (⟨#[10, 59, 10]⟩ : ByteArray)).bind fun s19 : ByteArray => (sCat s19 b).bind fun s20 : ByteArray => (parse_Parse.f 2000000 s20).bind fun r21 => (cond (r21.2.2.2.2.2.1 != (0 : Int)) (some true) (some (((r21.2.2.2.2.1.length : Nat) : Int) != (IntKind.i64.wrap (((n.kids.length : Nat) : Int) + ((m.kids.length : Nat) : Int))))) : Option Bool).bind fun q28 => cond q28 (some (false)) (joinF (fun (_ : Unit) => some (true)) (fun J30 => law12_ParseJoins.l0 2000000 (n.kind, n.text, n.n, n.at_, n.kids, 0, 0) (m.kind, m.text, m.n, m.at_, m.kids, 0, 0) r21 J30 (0 : Int))))) = some true := by
  intro hr g hg
  rw [hg]
  simp only [Option.bind_some, cond_false]
  have h1 : (⟨#[10, 59, 10]⟩ : ByteArray).size = 3 := rfl
  rw [sCat_eq (by rw [h1]; omega)]
  simp only [Option.bind_some]
  rw [sCat_eq (by rw [str_size, List.length_append, bs_length, bs_length, h1]; omega)]
  simp only [Option.bind_some]
  obtain ⟨w, l, l', hw20, hwk, hsl, hsl', hv'⟩ := joins_parse hG1 hG2 hv1 hv2 hr (Sm_shift 0 T1) (Sm_shift ((bs a).length + 3) T2) (((bs a).length + 1 : Nat) : Int) ((shift ((bs a).length + 3) E2).at_ : Int)
  have hE2 : E2 = ⟨6, [], 0, E2.at_⟩ := by
   obtain ⟨a1, e1, h1, _⟩ := scanL_line ([] : Bs) (bs b).length (bs b) 0 [] _ (Nat.le_refl _) hL2
   obtain ⟨_, h2⟩ := List.append_inj' h1 rfl
   have := List.head_eq_of_cons_eq h2
   rw [this]
  have hpv : parseV (str (bs (str (bs a ++ bs (⟨#[10, 59, 10]⟩ : ByteArray))) ++ bs b)) = treeV w :=
   parseV_of (l := bs a ++ [10, 59, 10] ++ bs b) (by rw [bs_str, bs_str]; rfl) (joins_scan (bs a) (bs b) T1 T2 E1 E2 hla hlb hL1 hL2) (by
    rw [List.map_append, List.map_cons, List.map_append, List.map_singleton]
    rw [show tokT (shift ((bs a).length + 3) E2) = eTk ((shift ((bs a).length + 3) E2).at_ : Int) by rw [hE2]; rfl]
    rfl) hv'
  rw [pparse_eq _ (by omega), hpv]
  have hll := smTs_len hsl
  have hll' := smTs_len hsl'
  have hz3 := smTs_szs hsl
  have hz4 := smTs_szs hsl'
  have hlen : w.kids.length = n.kids.length + m.kids.length := by rw [hwk, List.length_append]; omega
  simp only [treeV, Option.bind_some, bne_self_eq_false, cond_false]
  rw [wrap64 _ (by omega) (by omega), show (((w.kids.length : Nat) : Int) != ((n.kids.length : Nat) : Int) + ((m.kids.length : Nat) : Int)) = false by rw [bne_eq_false_iff_eq]; omega]
  simp only [Option.bind_some, cond_false]
  unfold joinF
  have := joins1 (r3 := (n.kind, n.text, n.n, n.at_, n.kids, 0, 0)) (r10 := (m.kind, m.text, m.n, m.at_, m.kids, 0, 0)) (r21 := (w.kind, w.text, w.n, w.at_, w.kids, 0, 0)) rfl rfl rfl (fun _ => some true) l' hsl' (by omega) l n.kids [] [] 2000000 (by rw [hwk]; rfl) rfl rfl hsl (by omega) (by simp only [List.length_nil]; omega) (by omega)
  rw [show ((([] : List Tree).length : Nat) : Int) = 0 from rfl] at this
  exact this
 by_cases h0 : ((n.kids.length : Nat) : Int) > 0
 ·obtain ⟨p, x, hpx⟩ : ∃ p x, n.kids = p ++ [x] := ⟨n.kids.dropLast, n.kids.getLast (by intro e; rw [e] at h0; simp at h0), (List.dropLast_concat_getLast _).symm⟩
  have ei : lIdx n.kids (IntKind.i64.wrap (((n.kids.length : Nat) : Int) - 1)) = some x := by
   have hpl : n.kids.length = p.length + 1 := by rw [hpx]; simp
   rw [wrap64 _ (by omega) (by omega), show ((n.kids.length : Nat) : Int) - 1 = (p.length : Int) by omega, hpx]
   exact idx_mid p x []
  show (Option.bind (cond (decide (((n.kids.length : Nat) : Int) > (0 : Int))) ((lIdx n.kids (IntKind.i64.wrap (((n.kids.length : Nat) : Int) - (1 : Int)))).bind fun x103 => some (x103.kind == (30 : Int))) (some false)) _) = some true
  rw [dec_t h0]
  simp only [cond_true]
  rw [ei]
  simp only [Option.bind_some]
  by_cases hx : x.kind = 30
  ·rw [hx]; rfl
  ·refine key (fun y hy => ?_) (some (x.kind == (30 : Int))) ?_
   ·rw [hpx] at hy
    simp only [List.getLast?_append, List.getLast?_singleton, Option.some_or, Option.some.injEq] at hy
    rw [← hy]; exact hx
   ·rw [show (x.kind == (30 : Int)) = false by rw [beq_eq_false_iff_ne]; exact hx]
 ·show (Option.bind (cond (decide (((n.kids.length : Nat) : Int) > (0 : Int))) ((lIdx n.kids (IntKind.i64.wrap (((n.kids.length : Nat) : Int) - (1 : Int)))).bind fun x103 => some (x103.kind == (30 : Int))) (some false)) _) = some true
  rw [dec_f h0]
  refine key (fun y hy => ?_) _ rfl
  have : n.kids = [] := List.eq_nil_of_length_eq_zero (by omega)
  rw [this] at hy
  cases hy
end Go.Proofs.YtcdeodpakbcdeaaGreatDoor
