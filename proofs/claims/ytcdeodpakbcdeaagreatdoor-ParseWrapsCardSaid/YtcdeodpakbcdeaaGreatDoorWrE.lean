/- Texts of mine for parseWraps_card, part 5. -/
import Derived.Test.YtcdeodpakbcdeaaGreatDoorWrD
set_option linter.unusedSimpArgs false
set_option linter.unusedVariables false
set_option linter.unusedSectionVars false
namespace Go.Proofs.YtcdeodpakbcdeaaGreatDoor
open Go Go.RowKit
section
variable {E : Tk} (hE : E.1 = 6) {X : List Tk} (hX : Stp X)
def LRn {α : Type} (E : Tk) (X : List Tk) (S : α → α → Prop) (x x' : Option (PV α)) : Prop := ∀ a r, x = some (.ok a r) → r ≠ [E] → ∃ R R' a', r = R ++ [E] ∧ Sm R R' ∧ Good (R ++ [E]) ∧ S a a' ∧ x' = some (.ok a' (R' ++ X))
variable {α β : Type} {S : α → α → Prop} {S' : β → β → Prop}
theorem LR.n {x x' : Option (PV α)} (h : LR E X S x x') : LRn E X S x x' := fun a r hx _ => h a r hx
theorem LRn.bind {x x' : Option (PV α)} {f f' : α → List Tk → Option (PV β)} (h : LRn E X S x x') (h0 : ∀ a b s, f a [E] = some (.ok b s) → False) (hf : ∀ a a' p p' R R', S a a' → simT p p' → Sm R R' → Good (p :: (R ++ [E])) → LR E X S' (f a (p :: (R ++ [E]))) (f' a' (p' :: (R' ++ X)))) : LR E X S' (PV.bind x f) (PV.bind x' f') := fun b s hb => by
 rcases bind_some hb with ⟨i, _, he⟩ | ⟨a, r, hx, hfa⟩
 ·cases he
 ·by_cases hr : r = [E]
  ·subst hr; exact (h0 _ _ _ hfa).elim
  ·obtain ⟨R, R', a', rfl, hS, hG, ha, hx'⟩ := h a r hx hr
   rcases hS.cases' with ⟨rfl, rfl⟩ | ⟨p, p', Q, Q', rfl, rfl, hp, hS⟩
   ·exact absurd rfl hr
   ·obtain ⟨R2, R2', b', h1, h2, h3, h4, h5⟩ := hf a a' p p' Q Q' ha hp hS hG b s hfa
    exact ⟨R2, R2', b', h1, h2, h3, h4, by rw [hx']; exact h5⟩
theorem LRn.bindL {x x' : Option (PV α)} {f f' : α → List Tk → Option (PV β)} (h : LR E X S x x') (hf : ∀ a a' R R', S a a' → Sm R R' → Good (R ++ [E]) → LRn E X S' (f a (R ++ [E])) (f' a' (R' ++ X))) : LRn E X S' (PV.bind x f) (PV.bind x' f') := fun b s hb hs => by
 rcases bind_some hb with ⟨i, _, he⟩ | ⟨a, r, hx, hfa⟩
 ·cases he
 ·obtain ⟨R, R', a', rfl, hS, hG, ha, hx'⟩ := h a r hx
  obtain ⟨R2, R2', b', h1, h2, h3, h4, h5⟩ := hf a a' R R' ha hS hG b s hfa hs
  exact ⟨R2, R2', b', h1, h2, h3, h4, by rw [hx']; exact h5⟩
theorem LRn.ite {c c' : Prop} [Decidable c] [Decidable c'] {x y x' y' : Option (PV α)} (hc : c ↔ c') (h1 : c → LRn E X S x x') (h2 : ¬ c → LRn E X S y y') : LRn E X S (if c then x else y) (if c' then x' else y') := by
 by_cases h : c
 ·rw [if_pos h, if_pos (hc.1 h)]; exact h1 h
 ·rw [if_neg h, if_neg (fun h' => h (hc.2 h'))]; exact h2 h
theorem endsH_c {p p' : Tk} (h : simT p p') (r r' : List Tk) : endsH (p :: r) = endsH (p' :: r') := by
 unfold endsH
 simp only [isH_c h _ r r', hd, List.headD_cons, h.1]
include hE in
theorem endsH_E : endsH [E] = true := by
 unfold endsH
 simp [hd, hE]
include hE in
theorem want_E {w : ByteArray} {a : Unit} {s : List Tk} (h : pWant w [E] = some (.ok a s)) : False := by
 unfold pWant at h
 rw [isH_E hE] at h
 simp at h
include hE in
theorem wantB_E {w : ByteArray} {f : Unit → List Tk → Option (PV β)} {b : β} {s : List Tk} (h : PV.bind (pWant w [E]) f = some (.ok b s)) : False := by
 rcases bind_some h with ⟨i, _, he⟩ | ⟨a, r, hx, _⟩
 ·cases he
 ·exact want_E hE hx
structure LoS (E : Tk) (X : List Tk) (f : Nat) : Prop where
 block : ∀ R R', Sm R R' → Good (R ++ [E]) → LRn E X smT (pBlock f false (R ++ [E])) (pBlock f false (R' ++ X))
 blockL : ∀ at_ at' acc acc' R R', smTs acc acc' → Sm R R' → Good (R ++ [E]) → LRn E X smT (pBlockL f false at_ acc (R ++ [E])) (pBlockL f false at' acc' (R' ++ X))
 function : ∀ p p' Q Q', simT p p' → Sm Q Q' → Good (p :: (Q ++ [E])) → LR E X smT (pFunction f (p :: (Q ++ [E]))) (pFunction f (p' :: (Q' ++ X)))
 body : ∀ R R', Sm R R' → Good (R ++ [E]) → LR E X smT (pBody f (R ++ [E])) (pBody f (R' ++ X))
 stat : ∀ R R', Sm R R' → Good (R ++ [E]) → LR E X smT (pStat f (R ++ [E])) (pStat f (R' ++ X))
 branches : ∀ acc acc' R R', smTs acc acc' → Sm R R' → Good (R ++ [E]) → LR E X smTs (pBranches f acc (R ++ [E])) (pBranches f acc' (R' ++ X))
 for_ : ∀ at_ at' R R', Sm R R' → Good (R ++ [E]) → LR E X smT (pFor f at_ (R ++ [E])) (pFor f at' (R' ++ X))
 plain : ∀ R R', Sm R R' → Good (R ++ [E]) → LR E X smT (pPlain f (R ++ [E])) (pPlain f (R' ++ X))
 targets : ∀ acc acc' e e' R R', smTs acc acc' → smT e e' → Sm R R' → Good (R ++ [E]) → LR E X smTs (pTargets f acc e (R ++ [E])) (pTargets f acc' e' (R' ++ X))
include hE hX in
theorem loS : ∀ f, LoS E X f
 | 0 => by constructor <;> intros <;> (first | unfold pBlock | unfold pBlockL | unfold pFunction | unfold pBody | unfold pStat | unfold pBranches | unfold pFor | unfold pPlain | unfold pTargets) <;> (first | exact LR.none | exact LR.none.n)
 | f + 1 => by
  have ih := loS f
  have ie := loE hE hX f
  have is := stepE f
  have it := stepS (f + 1)
  constructor
  ·intro R R' hS hG; unfold pBlock
   exact ih.blockL _ _ _ _ R R' trivial hS hG
  ·intro at_ at' acc acc' R R' ha hS hG
   rcases hS.cases' with ⟨rfl, rfl⟩ | ⟨p, p', Q, Q', rfl, rfl, hp, hS⟩
   ·intro a r h hne
    unfold pBlockL at h
    simp only [List.nil_append, isH_E hE, endsH_E hE, Bool.false_and, Bool.false_eq_true, if_false, if_true] at h
    cases h
    exact absurd rfl hne
   have hG' := hG.cons.2
   unfold pBlockL
   simp only [List.cons_append, List.tail_cons, isH_c hp _ (Q ++ [E]) (Q' ++ X), endsH_c hp (Q ++ [E]) (Q' ++ X), Bool.false_and, Bool.false_eq_true, if_false]
   refine LRn.ite Iff.rfl (fun _ => ih.blockL _ _ _ _ Q Q' ha hS hG') fun _ => ?_
   refine LRn.ite Iff.rfl (fun _ => ?_) fun _ => ?_
   ·have fin : ∀ l l' R R', smTs l l' → Sm R R' → Good (R ++ [E]) → LRn E X smT (some (.ok (.mk 20 noB 0 at_ (acc ++ [.mk 30 noB 0 (hd (p :: (Q ++ [E]))).2.2.2 l])) (if isH kSemi (R ++ [E]) then (R ++ [E]).tail else R ++ [E]))) (some (.ok (.mk 20 noB 0 at' (acc' ++ [.mk 30 noB 0 (hd (p' :: (Q' ++ X))).2.2.2 l'])) (if isH kSemi (R' ++ X) then (R' ++ X).tail else R' ++ X))) := by
     intro l l' R R' hl hS hG
     rcases hS.cases' with ⟨rfl, rfl⟩ | ⟨q, q', P, P', rfl, rfl, hq, hS⟩
     ·intro a r h hne
      rw [List.nil_append, isH_E hE] at h
      cases h
      exact absurd rfl hne
     ·rw [List.cons_append, List.cons_append, isH_c hq kSemi (P ++ [E]) (P' ++ X), List.tail_cons, List.tail_cons]
      have hm : smT (.mk 20 noB 0 at_ (acc ++ [.mk 30 noB 0 (hd (p :: (Q ++ [E]))).2.2.2 l])) (.mk 20 noB 0 at' (acc' ++ [.mk 30 noB 0 (hd (p' :: (Q' ++ X))).2.2.2 l'])) := ⟨rfl, rfl, rfl, smTs_app ha (smTs_one ⟨rfl, rfl, rfl, hl⟩)⟩
      split
      ·exact (LR.ok hm hS hG.cons.2).n
      ·exact (LR.ok (R := q :: P) (R' := q' :: P') hm ⟨hq, hS⟩ hG).n
    rcases hS.cases' with ⟨rfl, rfl⟩ | ⟨q, q', P, P', rfl, rfl, hq, hS⟩
    ·intro a r h hne
     rcases bind_some h with ⟨_, _, he⟩ | ⟨l, s, hl, h⟩
     ·cases he
     have hl : (if (endsH [E] || isH kSemi [E]) = true then some (PV.ok ([] : List Tree) [E]) else pExps f [E]) = some (.ok l s) := hl
     rw [endsH_E hE] at hl
     simp only [Bool.true_or, if_true] at hl
     cases hl
     have h : some (PV.ok _ (if isH kSemi [E] = true then ([] : List Tk) else [E])) = some (.ok a r) := h
     rw [isH_E hE] at h
     cases h
     exact absurd rfl hne
    ·refine LRn.bindL (S := smTs) ?_ fin
     refine LR.ite (by rw [List.cons_append, List.cons_append, isH_c hq, endsH_c hq]) (fun _ => LR.ok (R := q :: P) (R' := q' :: P') trivial ⟨hq, hS⟩ hG') fun _ => ie.exps (q :: P) (q' :: P') ⟨hq, hS⟩ hG'
   refine LRn.ite Iff.rfl (fun _ => (LR.ok (R := p :: Q) (R' := p' :: Q') ⟨rfl, rfl, rfl, ha⟩ ⟨hp, hS⟩ hG).n) fun _ => ?_
   exact LRn.bindL (ih.stat (p :: Q) (p' :: Q') ⟨hp, hS⟩ hG) fun x x' R R' hx hS hG => ih.blockL _ _ _ _ R R' (smTs_app ha (smTs_one hx)) hS hG
  ·intro p p' Q Q' hp hS hG; unfold pFunction
   simp only [List.tail_cons]
   refine LR.bind (lName hE hS hG.cons.2) fun nm nm' R R' hn hS hG => LR.bind (lWant hE hS hG) fun _ _ R R' _ hS hG => ?_
   refine LR.bind (S := smTs) ?_ fun ps ps' R R' hps hS hG => LR.bind (lWant hE hS hG) fun _ _ R R' _ hS hG => ?_
   ·rcases hS.cases' with ⟨rfl, rfl⟩ | ⟨q, q', P, P', rfl, rfl, hq, hS⟩
    ·rw [List.nil_append, isH_E hE]
     exact LR.noE hE (step_names f _)
    ·exact LR.ite (by rw [List.cons_append, List.cons_append, isH_c hq]) (fun _ => LR.ok (R := q :: P) (R' := q' :: P') trivial ⟨hq, hS⟩ hG) fun _ => lNames hE hX f (R := q :: P) (R' := q' :: P') ⟨hq, hS⟩ hG
   ·refine LRn.bind (ih.block R R' hS hG) (fun a b s h => wantB_E hE h) fun b b' q q' P P' hb hq hS hG => ?_
    exact LR.bind (lWant (R := q :: P) (R' := q' :: P') hE ⟨hq, hS⟩ hG) fun _ _ R R' _ hS hG => LR.ok ⟨rfl, smT_text hn, by rw [smTs_len hps], smTs_app hps (smTs_one hb)⟩ hS hG
  ·intro R R' hS hG; unfold pBody
   refine LR.bind (lWant hE hS hG) fun _ _ R R' _ hS hG => LRn.bind (ih.block R R' hS hG) (fun a b s h => wantB_E hE h) fun b b' q q' P P' hb hq hS hG => ?_
   exact LR.bind (lWant (R := q :: P) (R' := q' :: P') hE ⟨hq, hS⟩ hG) fun _ _ R R' _ hS hG => LR.ok hb hS hG
  ·intro R R' hS hG
   rcases hS.cases' with ⟨rfl, rfl⟩ | ⟨p, p', Q, Q', rfl, rfl, hp, hS⟩
   ·exact LR.noE (n := 0) hE (it.stat _)
   have hG' := hG.cons.2
   unfold pStat
   simp only [List.cons_append, List.tail_cons, isH_c hp _ (Q ++ [E]) (Q' ++ X)]
   refine LR.ite Iff.rfl (fun _ => LR.bind (ih.body (p :: Q) (p' :: Q') ⟨hp, hS⟩ hG) fun b b' R R' hb hS hG => LR.ok ⟨rfl, rfl, rfl, hb, trivial⟩ hS hG) fun _ => ?_
   refine LR.ite Iff.rfl (fun _ => LR.bind (ie.exp _ Q Q' (by decide) hS hG') fun e e' R R' he hS hG => LR.bind (ih.body R R' hS hG) fun b b' R R' hb hS hG => LR.ok ⟨rfl, rfl, rfl, he, hb, trivial⟩ hS hG) fun _ => ?_
   refine LR.ite Iff.rfl (fun _ => LR.bind (ih.branches _ _ Q Q' trivial hS hG') fun l l' R R' hl hS hG => LR.ok ⟨rfl, rfl, rfl, hl⟩ hS hG) fun _ => ?_
   refine LR.ite Iff.rfl (fun _ => ih.for_ _ _ Q Q' hS hG') fun _ => ?_
   refine LR.ite Iff.rfl (fun _ => LR.bind (lNames hE hX f hS hG') fun l l' R R' hl hS hG => LR.bind (S := smTs) ?_ fun es es' R R' hes hS hG => LR.ok ⟨rfl, rfl, by rw [smTs_len hl], smTs_app hl hes⟩ hS hG) fun _ => ?_
   ·refine LR.ite (by rw [isH_b hE hS _ hX.eq]) (fun hc => ?_) fun _ => LR.ok trivial hS hG
    rcases hS.cases' with ⟨rfl, rfl⟩ | ⟨q, q', P, P', rfl, rfl, hq, hS⟩
    ·rw [List.nil_append, isH_E hE] at hc; cases hc
    ·exact ie.exps P P' hS hG.cons.2
   refine LR.ite Iff.rfl (fun _ => LR.ok ⟨rfl, rfl, rfl, trivial⟩ hS hG') fun _ => ih.plain (p :: Q) (p' :: Q') ⟨hp, hS⟩ hG
  ·intro acc acc' R R' ha hS hG; unfold pBranches
   refine LR.bind (ie.exp _ R R' (by decide) hS hG) fun e e' R R' he hS hG => LR.bind (lWant hE hS hG) fun _ _ R R' _ hS hG => ?_
   refine LRn.bind (ih.block R R' hS hG) (fun a b s h => ?_) fun b b' q q' P P' hb hq hS hG => ?_
   ·rw [isH_E hE, isH_E hE] at h
    simp only [Bool.false_eq_true, if_false] at h
    exact wantB_E hE h
   have hacc := smTs_app (smTs_app ha (smTs_one he)) (smTs_one hb)
   simp only [List.tail_cons, isH_c hq _ (P ++ [E]) (P' ++ X)]
   refine LR.ite Iff.rfl (fun _ => ih.branches _ _ P P' hacc hS hG.cons.2) fun _ => ?_
   refine LR.ite Iff.rfl (fun _ => ?_) fun _ => ?_
   ·refine LRn.bind (ih.block P P' hS hG.cons.2) (fun a b s h => wantB_E hE h) fun c c' q q' P P' hc hq hS hG => ?_
    exact LR.bind (lWant (R := q :: P) (R' := q' :: P') hE ⟨hq, hS⟩ hG) fun _ _ R R' _ hS hG => LR.ok (smTs_app hacc (smTs_one hc)) hS hG
   ·exact LR.bind (lWant (R := q :: P) (R' := q' :: P') hE ⟨hq, hS⟩ hG) fun _ _ R R' _ hS hG => LR.ok hacc hS hG
  ·intro at_ at' R R' hS hG; unfold pFor
   refine LR.bind (lName hE hS hG) fun n n' R R' hn hS hG => ?_
   refine LR.ite (by rw [isH_b hE hS _ hX.eq]) (fun hc => ?_) fun _ => ?_
   ·rcases hS.cases' with ⟨rfl, rfl⟩ | ⟨q, q', P, P', rfl, rfl, hq, hS⟩
    ·rw [List.nil_append, isH_E hE] at hc; cases hc
    refine LR.bind (ie.exp _ P P' (by decide) hS hG.cons.2) fun a a' R R' ha hS hG => LR.bind (lWant hE hS hG) fun _ _ R R' _ hS hG => LR.bind (ie.exp _ R R' (by decide) hS hG) fun b b' R R' hb hS hG => ?_
    refine LR.bind (S := smTs) ?_ fun cs cs' R R' hcs hS hG => LR.bind (ih.body R R' hS hG) fun bd bd' R R' hbd hS hG => LR.ok ⟨rfl, rfl, rfl, ?_⟩ hS hG
    ·refine LR.ite (by rw [isH_b hE hS _ hX.comma]) (fun hc => ?_) fun _ => LR.ok trivial hS hG
     rcases hS.cases' with ⟨rfl, rfl⟩ | ⟨q, q', P, P', rfl, rfl, hq, hS⟩
     ·rw [List.nil_append, isH_E hE] at hc; cases hc
     ·exact LR.bind (ie.exp _ P P' (by decide) hS hG.cons.2) fun c c' R R' hc hS hG => LR.ok (smTs_one hc) hS hG
    ·exact smTs_app (smTs_app (smTs_app (smTs_app (smTs_one hn) (smTs_one ha)) (smTs_one hb)) hcs) (smTs_one hbd)
   ·refine LR.bind (lNamesL hE hX f _ _ R R' (smTs_one hn) hS hG) fun l l' R R' hl hS hG => LR.bind (lWant hE hS hG) fun _ _ R R' _ hS hG => LR.bind (ie.exps R R' hS hG) fun es es' R R' hes hS hG => LR.bind (ih.body R R' hS hG) fun bd bd' R R' hbd hS hG => ?_
    exact LR.ok ⟨rfl, rfl, by rw [smTs_len hl], smTs_app (smTs_app hl hes) (smTs_one hbd)⟩ hS hG
  ·intro R R' hS hG; unfold pPlain
   refine LR.bind (ie.suffixed R R' hS hG) fun e e' R R' he hS hG => ?_
   refine LR.ite (by rw [isH_b hE hS _ hX.eq, isH_b hE hS _ hX.comma]) (fun _ => ?_) fun _ => ?_
   ·exact LR.bind (ih.targets _ _ _ _ R R' trivial he hS hG) fun l l' R R' hl hS hG => LR.bind (lWant hE hS hG) fun _ _ R R' _ hS hG => LR.bind (ie.exps R R' hS hG) fun es es' R R' hes hS hG => LR.ok ⟨rfl, rfl, by rw [smTs_len hl], smTs_app hl hes⟩ hS hG
   ·exact LR.ite (by rw [smT_kind he]) (fun _ => LR.ok ⟨rfl, rfl, rfl, he, trivial⟩ hS hG) fun _ => LR.bad
  ·intro acc acc' e e' R R' ha he hS hG; unfold pTargets
   refine LR.ite (by rw [smT_kind he]) (fun _ => ?_) fun _ => LR.bad
   refine LR.ite (by rw [isH_b hE hS _ hX.comma]) (fun hc => ?_) fun _ => LR.ok (smTs_app ha (smTs_one he)) hS hG
   rcases hS.cases' with ⟨rfl, rfl⟩ | ⟨q, q', P, P', rfl, rfl, hq, hS⟩
   ·rw [List.nil_append, isH_E hE] at hc; cases hc
   ·exact LR.bind (ie.suffixed P P' hS hG.cons.2) fun x x' R R' hx hS hG => ih.targets _ _ _ _ R R' (smTs_app ha (smTs_one he)) hx hS hG
structure EndX (X : List Tk) : Prop where
 semi : isH kSemi X = false
 ret : isH kReturn X = false
 fn : isH kFunction X = false
 ends : endsH X = true
theorem fun_kind {f : Nat} {ts r : List Tk} {x : Tree} (h : pFunction f ts = some (.ok x r)) : x.kind = 31 := by
 cases f with
 | zero => unfold pFunction at h; cases h
 | succ f =>
  unfold pFunction at h
  rcases bind_some h with ⟨_, _, he⟩ | ⟨_, _, _, h⟩
  ·cases he
  rcases bind_some h with ⟨_, _, he⟩ | ⟨_, _, _, h⟩
  ·cases he
  rcases bind_some h with ⟨_, _, he⟩ | ⟨_, _, _, h⟩
  ·cases he
  rcases bind_some h with ⟨_, _, he⟩ | ⟨_, _, _, h⟩
  ·cases he
  rcases bind_some h with ⟨_, _, he⟩ | ⟨_, _, _, h⟩
  ·cases he
  rcases bind_some h with ⟨_, _, he⟩ | ⟨_, _, _, h⟩
  ·cases he
  cases h
  rfl
theorem acc_app : ∀ (f : Nat) (c : Bool) (at_ : Int) (acc : List Tree) (ts : List Tk) (n : Tree) (r : List Tk), pBlockL f c at_ acc ts = some (.ok n r) → ∃ l, n.kids = acc ++ l ∧ n.kind = 20 ∧ n.text = noB ∧ n.n = 0 ∧ ∀ at2 acc2, pBlockL f c at2 acc2 ts = some (.ok (.mk 20 noB 0 at2 (acc2 ++ l)) r)
 | 0, _, _, _, _, _, _, h => by unfold pBlockL at h; cases h
 | f + 1, c, at_, acc, ts, n, r, h => by
  unfold pBlockL at h
  have step : ∀ x s, pBlockL f c at_ (acc ++ [x]) s = some (.ok n r) → ∃ l, n.kids = acc ++ l ∧ n.kind = 20 ∧ n.text = noB ∧ n.n = 0 ∧ ∀ at2 acc2, pBlockL f c at2 (acc2 ++ [x]) s = some (.ok (.mk 20 noB 0 at2 (acc2 ++ l)) r) := fun x s h => by
   obtain ⟨l, h1, h2, h3, h4, h5⟩ := acc_app f c at_ _ s n r h
   exact ⟨x :: l, by rw [h1, List.append_assoc]; rfl, h2, h3, h4, fun at2 acc2 => by rw [h5, List.append_assoc]; rfl⟩
  by_cases c1 : isH kSemi ts = true
  ·rw [if_pos c1] at h
   obtain ⟨l, h1, h2, h3, h4, h5⟩ := acc_app f c at_ _ _ n r h
   exact ⟨l, h1, h2, h3, h4, fun at2 acc2 => by unfold pBlockL; rw [if_pos c1]; exact h5 at2 acc2⟩
  rw [if_neg c1] at h
  by_cases c2 : isH kReturn ts = true
  ·rw [if_pos c2] at h
   rcases bind_some h with ⟨_, _, he⟩ | ⟨l, s, hl, h⟩
   ·cases he
   cases h
   exact ⟨_, rfl, rfl, rfl, rfl, fun at2 acc2 => by unfold pBlockL; rw [if_neg c1, if_pos c2, hl]; rfl⟩
  rw [if_neg c2] at h
  by_cases c3 : (c && isH kFunction ts) = true
  ·rw [if_pos c3] at h
   rcases bind_some h with ⟨_, _, he⟩ | ⟨x, s, hx, h⟩
   ·cases he
   obtain ⟨l, h1, h2, h3, h4, h5⟩ := step x s h
   exact ⟨l, h1, h2, h3, h4, fun at2 acc2 => by unfold pBlockL; rw [if_neg c1, if_neg c2, if_pos c3, hx]; exact h5 at2 acc2⟩
  rw [if_neg c3] at h
  by_cases c4 : endsH ts = true
  ·rw [if_pos c4] at h
   cases h
   exact ⟨[], by simp [Tree.kids], rfl, rfl, rfl, fun at2 acc2 => by unfold pBlockL; rw [if_neg c1, if_neg c2, if_neg c3, if_pos c4, List.append_nil]⟩
  rw [if_neg c4] at h
  rcases bind_some h with ⟨_, _, he⟩ | ⟨x, s, hx, h⟩
  ·cases he
  obtain ⟨l, h1, h2, h3, h4, h5⟩ := step x s h
  exact ⟨l, h1, h2, h3, h4, fun at2 acc2 => by unfold pBlockL; rw [if_neg c1, if_neg c2, if_neg c3, if_neg c4, hx]; exact h5 at2 acc2⟩
include hE hX in
theorem topL (hZ : EndX X) : ∀ (f : Nat) (c c' : Bool) (at_ at' : Int) (acc acc' : List Tree) (R R' : List Tk), smTs acc acc' → Sm R R' → Good (R ++ [E]) → ∀ n r, pBlockL f c at_ acc (R ++ [E]) = some (.ok n r) → (c = c' ∨ (c' = false ∧ ∀ x ∈ n.kids, x.kind ≠ 31)) →
  ∃ Q Q' n', r = Q ++ [E] ∧ Sm Q Q' ∧ smT n n' ∧ pBlockL f c' at' acc' (R' ++ X) = some (.ok n' (Q' ++ X))
 | 0, _, _, _, _, _, _, _, _, _, _, _, _, _, h, _ => by unfold pBlockL at h; cases h
 | f + 1, c, c', at_, at', acc, acc', R, R', ha, hS, hG, n, r, h, hc => by
  rcases hS.cases' with ⟨rfl, rfl⟩ | ⟨p, p', Q, Q', rfl, rfl, hp, hS⟩
  ·unfold pBlockL at h ⊢
   simp only [List.nil_append, isH_E hE, endsH_E hE, hZ.semi, hZ.ret, hZ.fn, hZ.ends, Bool.and_false, Bool.false_eq_true, if_false, if_true] at h ⊢
   cases h
   exact ⟨[], [], .mk 20 noB 0 at' acc', rfl, trivial, ⟨rfl, rfl, rfl, ha⟩, rfl⟩
  have hG' := hG.cons.2
  have ih := topL hZ f
  have io := loS hE hX f
  have ie := loE hE hX f
  unfold pBlockL at h ⊢
  simp only [List.cons_append, List.tail_cons, ← isH_c hp _ (Q ++ [E]) (Q' ++ X), ← endsH_c hp (Q ++ [E]) (Q' ++ X)] at h ⊢
  by_cases c1 : isH kSemi (p :: (Q ++ [E])) = true
  ·rw [if_pos c1] at h ⊢
   exact ih c c' at_ at' acc acc' Q Q' ha hS hG' n r h hc
  rw [if_neg c1] at h ⊢
  by_cases c2 : isH kReturn (p :: (Q ++ [E])) = true
  ·rw [if_pos c2] at h ⊢
   have fin : ∀ l l' R R', smTs l l' → Sm R R' → Good (R ++ [E]) → some (PV.ok (.mk 20 noB 0 at_ (acc ++ [.mk 30 noB 0 (hd (p :: (Q ++ [E]))).2.2.2 l])) (if isH kSemi (R ++ [E]) then (R ++ [E]).tail else R ++ [E])) = some (.ok n r) →
     ∃ Q1 Q1' n', r = Q1 ++ [E] ∧ Sm Q1 Q1' ∧ smT n n' ∧ some (PV.ok (.mk 20 noB 0 at' (acc' ++ [.mk 30 noB 0 (hd (p' :: (Q' ++ X))).2.2.2 l'])) (if isH kSemi (R' ++ X) then (R' ++ X).tail else R' ++ X)) = some (.ok n' (Q1' ++ X)) := by
    intro l l' R R' hl hS hG h
    have hm : smT (.mk 20 noB 0 at_ (acc ++ [.mk 30 noB 0 (hd (p :: (Q ++ [E]))).2.2.2 l])) (.mk 20 noB 0 at' (acc' ++ [.mk 30 noB 0 (hd (p' :: (Q' ++ X))).2.2.2 l'])) := ⟨rfl, rfl, rfl, smTs_app ha (smTs_one ⟨rfl, rfl, rfl, hl⟩)⟩
    cases h
    rcases hS.cases' with ⟨rfl, rfl⟩ | ⟨q, q', P, P', rfl, rfl, hq, hS⟩
    ·rw [List.nil_append, List.nil_append, isH_E hE, hZ.semi]
     exact ⟨[], [], _, rfl, trivial, hm, rfl⟩
    ·rw [List.cons_append, List.cons_append, ← isH_c hq kSemi (P ++ [E]) (P' ++ X), List.tail_cons, List.tail_cons]
     by_cases c5 : isH kSemi (q :: (P ++ [E])) = true
     ·rw [if_pos c5, if_pos c5]; exact ⟨P, P', _, rfl, hS, hm, rfl⟩
     ·rw [if_neg c5, if_neg c5]; exact ⟨q :: P, q' :: P', _, rfl, ⟨hq, hS⟩, hm, rfl⟩
   rcases bind_some h with ⟨_, _, he⟩ | ⟨l, s, hl, h⟩
   ·cases he
   rcases hS.cases' with ⟨rfl, rfl⟩ | ⟨q, q', P, P', rfl, rfl, hq, hS⟩
   ·have hl : (if (endsH [E] || isH kSemi [E]) = true then some (PV.ok ([] : List Tree) [E]) else pExps f [E]) = some (.ok l s) := hl
    rw [endsH_E hE] at hl
    simp only [Bool.true_or, if_true] at hl
    cases hl
    have e : (if (endsH X || isH kSemi X) = true then some (PV.ok ([] : List Tree) X) else pExps f X) = some (PV.ok [] X) := by rw [hZ.ends]; rfl
    obtain ⟨Q1, Q1', n', h1, h2, h3, h4⟩ := fin [] [] [] [] trivial trivial hE h
    refine ⟨Q1, Q1', n', h1, h2, h3, ?_⟩
    show PV.bind (if (endsH X || isH kSemi X) = true then some (PV.ok ([] : List Tree) X) else pExps f X) _ = _
    rw [e]
    exact h4
   ·have hl : (if (endsH (q :: (P ++ [E])) || isH kSemi (q :: (P ++ [E]))) = true then some (PV.ok ([] : List Tree) (q :: (P ++ [E]))) else pExps f (q :: (P ++ [E]))) = some (.ok l s) := hl
    have ec : (endsH (q' :: (P' ++ X)) || isH kSemi (q' :: (P' ++ X))) = (endsH (q :: (P ++ [E])) || isH kSemi (q :: (P ++ [E]))) := by rw [isH_c hq kSemi (P ++ [E]) (P' ++ X), endsH_c hq (P ++ [E]) (P' ++ X)]
    have go : ∀ l' s', (if (endsH (q' :: (P' ++ X)) || isH kSemi (q' :: (P' ++ X))) = true then some (PV.ok ([] : List Tree) (q' :: (P' ++ X))) else pExps f (q' :: (P' ++ X))) = some (PV.ok l' s') → (∃ Q1 Q1' n', r = Q1 ++ [E] ∧ Sm Q1 Q1' ∧ smT n n' ∧ some (PV.ok (.mk 20 noB 0 at' (acc' ++ [.mk 30 noB 0 (hd (p' :: (q' :: P' ++ X))).2.2.2 l'])) (if isH kSemi s' then s'.tail else s')) = some (.ok n' (Q1' ++ X))) →
      ∃ Q1 Q1' n', r = Q1 ++ [E] ∧ Sm Q1 Q1' ∧ smT n n' ∧ PV.bind (if (endsH (q' :: (P' ++ X)) || isH kSemi (q' :: (P' ++ X))) = true then some (PV.ok ([] : List Tree) (q' :: (P' ++ X))) else pExps f (q' :: (P' ++ X))) (fun l r => some (PV.ok (.mk 20 noB 0 at' (acc' ++ [.mk 30 noB 0 (hd (p' :: (q' :: P' ++ X))).2.2.2 l])) (if isH kSemi r then r.tail else r))) = some (.ok n' (Q1' ++ X)) := fun l' s' e h => by
     rw [e]; exact h
    by_cases c5 : (endsH (q :: (P ++ [E])) || isH kSemi (q :: (P ++ [E]))) = true
    ·rw [if_pos c5] at hl
     cases hl
     exact go [] (q' :: (P' ++ X)) (by rw [ec, if_pos c5]) (fin [] [] (q :: P) (q' :: P') trivial ⟨hq, hS⟩ hG' h)
    ·rw [if_neg c5] at hl
     obtain ⟨R2, R2', l', rfl, hS2, hG2, hl', hx'⟩ := ie.exps (q :: P) (q' :: P') ⟨hq, hS⟩ hG' l s hl
     exact go l' (R2' ++ X) (by rw [ec, if_neg c5]; exact hx') (fin l l' R2 R2' hl' hS2 hG2 h)
  rw [if_neg c2] at h ⊢
  by_cases c3 : (c && isH kFunction (p :: (Q ++ [E]))) = true
  ·rw [if_pos c3] at h
   rcases bind_some h with ⟨_, _, he⟩ | ⟨x, s, hx, h⟩
   ·cases he
   have hk := fun_kind hx
   obtain ⟨l, hl, _⟩ := acc_app _ _ _ _ _ _ _ h
   rcases hc with rfl | ⟨_, hno⟩
   ·rw [if_pos c3]
    obtain ⟨R2, R2', x', rfl, hS2, hG2, hx2, hx'⟩ := io.function p p' Q Q' hp hS hG x s hx
    rw [hx']
    exact ih c c at_ at' _ _ R2 R2' (smTs_app ha (smTs_one hx2)) hS2 hG2 n r h (.inl rfl)
   ·exact absurd hk (hno x (by rw [hl]; simp))
  rw [if_neg c3] at h
  have c3' : ¬ (c' && isH kFunction (p :: (Q ++ [E]))) = true := by
   rcases hc with rfl | ⟨rfl, _⟩
   ·exact c3
   ·simp
  rw [if_neg c3']
  by_cases c4 : endsH (p :: (Q ++ [E])) = true
  ·rw [if_pos c4] at h ⊢
   cases h
   exact ⟨p :: Q, p' :: Q', .mk 20 noB 0 at' acc', rfl, ⟨hp, hS⟩, ⟨rfl, rfl, rfl, ha⟩, rfl⟩
  rw [if_neg c4] at h ⊢
  rcases bind_some h with ⟨_, _, he⟩ | ⟨x, s, hx, h⟩
  ·cases he
  obtain ⟨R2, R2', x', rfl, hS2, hG2, hx2, hx'⟩ := io.stat (p :: Q) (p' :: Q') ⟨hp, hS⟩ hG x s hx
  have hx' : pStat f (p' :: (Q' ++ X)) = _ := hx'
  rw [hx']
  exact ih c c' at_ at' _ _ R2 R2' (smTs_app ha (smTs_one hx2)) hS2 hG2 n r h hc
end
end Go.Proofs.YtcdeodpakbcdeaaGreatDoor
namespace Go.Proofs.YtcdeodpakbcdeaaGreatDoor
open Go Go.RowKit Lx
theorem scanL_line (r : Bs) : ∀ (n : Nat) (l : Bs) (at_ : Nat) (acc toks : List Tok), l.length ≤ n → scanL l at_ acc = .inr toks →
  ∃ acc' e, toks = acc' ++ [⟨6, [], 0, e⟩] ∧ scanL (l ++ 10 :: r) at_ acc = scanL (10 :: r) (at_ + l.length) acc' := by
 have hr : Gap (10 :: r) := ⟨10, r, rfl, .inr (.inl rfl)⟩
 intro n
 induction n with
 | zero =>
  intro l at_ acc toks hn h
  have : l = [] := List.eq_nil_of_length_eq_zero (by omega)
  subst this
  refine ⟨acc, at_, ?_, by simp⟩
  rw [scanL_step] at h
  have e0 : stepF (([] : Bs).drop (runL blankR [])) = .done := rfl
  rw [e0] at h
  simp only [Sum.inr.injEq] at h
  exact h.symm
 | succ n ih =>
  intro l at_ acc toks hn h
  have hk := runL_le' blankR l
  have hbl := blank_bytes l.length l (Nat.le_refl _)
  obtain ⟨k, hk0⟩ : ∃ k, runL blankR l = k := ⟨_, rfl⟩
  have hsplit : l = l.take k ++ l.drop k := (List.take_append_drop k l).symm
  have hlt : (l.take k).length = k := by rw [List.length_take]; omega
  rw [hk0] at hbl hk
  have e1 : scanL l at_ acc = scanL (l.drop k) (at_ + k) acc := by
   have := scanL_blanks (l.drop k) at_ acc (l.take k) hbl
   rw [← hsplit, hlt] at this
   exact this
  have e2 : scanL (l ++ 10 :: r) at_ acc = scanL (l.drop k ++ 10 :: r) (at_ + k) acc := by
   have := scanL_blanks (l.drop k ++ 10 :: r) at_ acc (l.take k) hbl
   rw [← List.append_assoc, ← hsplit, hlt] at this
   exact this
  have hr0 : runL blankR (l.drop k) = 0 := by
   have h1 := run_blanks (l.drop k) (l.take k) hbl
   rw [← hsplit, hlt, hk0] at h1
   omega
  have hlen : at_ + l.length = at_ + k + (l.drop k).length := by rw [List.length_drop]; omega
  rw [e1] at h
  rw [e2, hlen]
  have hn' : (l.drop k).length ≤ n + 1 := by rw [List.length_drop]; omega
  generalize l.drop k = m at *
  generalize at_ + k = p at *
  clear e1 e2 hsplit hlt hbl hlen hk0 hk hn
  rw [scanL_step, hr0, List.drop_zero, Nat.add_zero] at h
  have hrr : m ≠ [] → runL blankR (m ++ 10 :: r) = 0 := fun hm => by
   rw [runL_append blankR _ hr.low m.length m (Nat.le_refl _) (.inl (by rw [hr0]; exact List.length_pos_iff.2 hm)), hr0]
  cases hst : stepF m with
  | done =>
   have := done_is hst
   subst this
   rw [hst] at h
   simp only [Sum.inr.injEq] at h
   exact ⟨acc, _, h.symm, by simp⟩
  | bad c rel => rw [hst] at h; cases h
  | skip q =>
   rw [hst] at h
   simp only at h
   obtain ⟨hm, hpre, hq⟩ := skip_is hst
   have hq1 := (stepF_take m).1 q hst
   by_cases hq2 : q < m.length
   ·obtain ⟨acc', e, ht, hs⟩ := ih (m.drop q) (p + q) acc toks (by rw [List.length_drop]; omega) h
    have e' : p + q + (m.drop q).length = p + m.length := by rw [List.length_drop]; omega
    rw [e'] at hs
    refine ⟨acc', e, ht, ?_⟩
    rw [scanL_step, hrr hm, List.drop_zero, Nat.add_zero, skip_append m _ hm hr q hst hq2]
    simp only
    rw [drop_app _ _ _ (by omega)]
    exact hs
   ·have hq3 : q = m.length := by omega
    rw [hq3, List.drop_of_length_le (Nat.le_refl _), scanL_step] at h
    have e0 : stepF (([] : Bs).drop (runL blankR [])) = .done := rfl
    rw [e0] at h
    simp only [Sum.inr.injEq] at h
    refine ⟨acc, _, h.symm, ?_⟩
    have hrun : runL inLineR (m ++ 10 :: r) = m.length := by
     rw [runL_append inLineR _ hr.low m.length m (Nat.le_refl _) (.inr ?_)]
     ·rw [← hq, hq3]
     ·rw [runL_step _ _ (by simp), decL_low 10 r (by decide)]; rfl
    have hs2 : stepF (m ++ 10 :: r) = .skip m.length := by
     have hpre2 : [45, 45].isPrefixOf (m ++ 10 :: r) = true := by
      rw [pre_append [45, 45] m (10 :: r) (by simp) hm fun x t e => by cases e; decide]; exact hpre
     unfold stepF
     rw [if_neg (by simp), if_pos hpre2, hrun]
    rw [scanL_step, hrr hm, List.drop_zero, Nat.add_zero, hs2]
    simp only
    rw [List.drop_left]
  | tok kd tx x len =>
   rw [hst] at h
   simp only at h
   have hl := (stepF_take m).2 _ _ _ _ hst
   have hm : m ≠ [] := by rintro rfl; simp at hl; omega
   obtain ⟨acc', e, ht, hs⟩ := ih (m.drop len) (p + len) _ toks (by rw [List.length_drop]; omega) h
   have e' : p + len + (m.drop len).length = p + m.length := by rw [List.length_drop]; omega
   rw [e'] at hs
   refine ⟨acc', e, ht, ?_⟩
   rw [scanL_step, hrr hm, List.drop_zero, Nat.add_zero, stepF_append m _ hm hr _ _ _ _ hst]
   simp only
   rw [drop_app _ _ _ (by omega)]
   exact hs
theorem scanL_skip10 (x : Bs) (at_ : Nat) (acc : List Tok) : scanL (10 :: x) at_ acc = scanL x (at_ + 1) acc := scanL_blanks x at_ acc [10] (by decide)
theorem scanL_skip32 (x : Bs) (at_ : Nat) (acc : List Tok) : scanL (32 :: x) at_ acc = scanL x (at_ + 1) acc := scanL_blanks x at_ acc [32] (by decide)
theorem scanL_word (w x : Bs) (at_ : Nat) (acc : List Tok) (k : Int) (hw : w ≠ []) (hg : Gap x) (hst : stepF w = .tok k w 0 w.length) (h0 : runL blankR w = 0) : scanL (w ++ x) at_ acc = scanL x (at_ + w.length) (acc ++ [⟨k, w, 0, at_⟩]) := by
 have hr : runL blankR (w ++ x) = 0 := by
  rw [runL_append blankR _ hg.low w.length w (Nat.le_refl _) (.inl (by rw [h0]; exact List.length_pos_iff.2 hw)), h0]
 rw [scanL_step, hr, List.drop_zero, Nat.add_zero, stepF_append w x hw hg _ _ _ _ hst]
 simp only
 rw [List.drop_left]
def bDo : Bs := [100, 111]
def bEnd : Bs := [101, 110, 100]
theorem scan_do (x : Bs) (at_ : Nat) (acc : List Tok) (hg : Gap x) : scanL (bDo ++ x) at_ acc = scanL x (at_ + 2) (acc ++ [⟨2, bDo, 0, at_⟩]) := scanL_word bDo x at_ acc 2 (by decide) hg (by kernel_rfl) (by kernel_rfl)
theorem scan_end (at_ : Nat) (acc : List Tok) : scanL bEnd at_ acc = .inr (acc ++ [⟨2, bEnd, 0, at_⟩] ++ [⟨6, [], 0, at_ + 3⟩]) := by
 have hst : stepF bEnd = .tok 2 bEnd 0 3 := by kernel_rfl
 rw [scanL_step, show runL blankR bEnd = 0 by kernel_rfl, List.drop_zero, Nat.add_zero, hst]
 simp only
 rw [show bEnd.drop 3 = [] from rfl, scanL_step]
 rfl
end Go.Proofs.YtcdeodpakbcdeaaGreatDoor
namespace Go.Proofs.YtcdeodpakbcdeaaGreatDoor
open Go Go.RowKit Lx
theorem Sm_shift (d : Nat) : ∀ (T : List Tok), Sm (T.map tokT) ((T.map (shift d)).map tokT)
 | [] => trivial
 | x :: T => ⟨⟨rfl, rfl, rfl⟩, Sm_shift d T⟩
theorem Sm_nil {R : List Tk} (h : Sm [] R) : R = [] := by cases R with | nil => rfl | cons => exact h.elim
theorem Sm_len : ∀ {R R' : List Tk}, Sm R R' → R.length = R'.length
 | [], [], _ => rfl
 | _ :: _, _ :: _, h => congrArg (· + 1) (Sm_len h.2)
theorem rest_end {R : List Tk} {E : Tk} (hG : Good (R ++ [E])) (h6 : (hd (R ++ [E])).1 = 6) : R = [] := by
 cases R with
 | nil => rfl
 | cons p R => exact absurd h6 hG.cons.1
theorem good_end : ∀ {R : List Tk} {E : Tk}, Good (R ++ [E]) → E.1 = 6
 | [], _, h => h
 | _ :: _, _, h => good_end h.cons.2
theorem scan_last {s : Bs} {t : List Tok} (h : scanF s = .inr t) : ∃ T E, t = T ++ [E] ∧ Good (T.map tokT ++ [tokT E]) ∧ scanL s 0 [] = .inr (T ++ [E]) ∧ s.length ≤ 20000 := by
 have hT := scan_toks (str s) t (by rw [bs_str]; exact h)
 have hl : s.length ≤ 20000 := by
  unfold scanF at h
  split at h
  ·cases h
  ·omega
 rw [scanF_small s hl] at h
 rcases List.eq_nil_or_concat t with rfl | ⟨T, E, rfl⟩
 ·exact hT.good.elim
 ·exact ⟨T, E, by simp, by have := hT.good; simpa using this, by simpa using h, hl⟩
theorem line_tokens (l r : Bs) (d : Nat) (pre T : List Tok) (E : Tok) (h : scanL l 0 [] = .inr (T ++ [E])) : scanL (l ++ 10 :: r) d pre = scanL r (d + l.length + 1) (pre ++ T.map (shift d)) := by
 have hs := scanL_shift d l.length l 0 pre [] (Nat.le_refl _)
 rw [h] at hs
 simp only [List.map_nil, List.append_nil, Nat.zero_add] at hs
 obtain ⟨acc', e, ht, hsc⟩ := scanL_line r l.length l d pre _ (Nat.le_refl _) hs
 rw [List.map_append, ← List.append_assoc] at ht
 obtain ⟨h1, _⟩ := List.append_inj' ht rfl
 rw [hsc, scanL_skip10, h1]
theorem wraps_scan (s : Bs) (T : List Tok) (E : Tok) (hl : s.length ≤ 19000) (h : scanL s 0 [] = .inr (T ++ [E])) :
  scanF ([100, 111, 32] ++ s ++ [10, 101, 110, 100]) = .inr ([⟨2, bDo, 0, 0⟩] ++ T.map (shift 3) ++ [⟨2, bEnd, 0, 3 + s.length + 1⟩] ++ [⟨6, [], 0, 3 + s.length + 1 + 3⟩]) := by
 rw [scanF_small _ (by simp; omega)]
 rw [show ([100, 111, 32] ++ s ++ [10, 101, 110, 100] : Bs) = bDo ++ (32 :: (s ++ 10 :: bEnd)) by simp [bDo, bEnd]]
 rw [scan_do _ _ _ ⟨32, _, rfl, .inl rfl⟩, scanL_skip32, line_tokens _ _ _ _ T E h, scan_end]
 rfl
theorem vAll_ok {R : List Tk} {E : Tk} (hG : Good (R ++ [E])) {n : Tree} {r : List Tk} (h : vAll (R ++ [E]) = .ok n r) (f : Nat) (hf : 16 * (R ++ [E]).length + 9 ≤ f) : pBlock f true (R ++ [E]) = some (.ok n r) ∧ (hd r).1 = 6 ∧ Good r := by
 unfold vAll at h
 obtain ⟨b, s, hb, hs⟩ := then_ok h
 have hw := fBlock true hG
 rw [hb] at hw
 by_cases h6 : (hd s).1 = 6
 ·rw [if_pos h6] at hs
  cases hs
  exact ⟨(pBlock_v true hG hf).trans (congrArg some hb), h6, hw.1⟩
 ·rw [if_neg h6] at hs
  cases hs
theorem vAll_of {ts : List Tk} (hG : Good ts) {n : Tree} {E : Tk} (hE : E.1 = 6) (f : Nat) (hf : 16 * ts.length + 9 ≤ f) (h : pBlock f true ts = some (.ok n [E])) : vAll ts = .ok n [E] := by
 have hb : vBlock true ts = .ok n [E] := Option.some.inj ((pBlock_v true hG hf).symm.trans h)
 unfold vAll
 rw [hb]
 show (if E.1 = 6 then PV.ok n [E] else .bad E.2.2.2) = _
 rw [if_pos hE]
abbrev eTk (p : Int) : Tk := (6, noB, 0, p)
theorem good_app : ∀ {R R' : List Tk} {E : Tk} {X : List Tk}, Good (R ++ [E]) → Sm R R' → Good X → (hd X).1 ≠ 6 ∨ X.length = 1 → Good (R' ++ X)
 | [], [], _, _, _, _, hX, _ => hX
 | p :: R, p' :: R', E, X, h, hS, hX, hx => by
  have ih := good_app (R := R) (R' := R') h.cons.2 hS.2 hX hx
  have h6 := h.cons.1
  rw [hS.1.1] at h6
  show Good (p' :: (R' ++ X))
  cases hq : R' ++ X with
  | nil => rw [hq] at ih; exact ih.elim
  | cons u v => rw [hq] at ih; exact ⟨h6, ih⟩
theorem wraps_parse {R R' : List Tk} {E : Tk} {n : Tree} {r : List Tk} (hG : Good (R ++ [E])) (hv : vAll (R ++ [E]) = .ok n r) (hno : ∀ x ∈ n.kids, x.kind ≠ 31) (hS : Sm R R') (p0 pe px : Int) :
  ∃ n', smT n n' ∧ vAll ((2, kDo, 0, p0) :: (R' ++ [(2, kEnd, 0, pe), eTk px])) = .ok (.mk 20 noB 0 p0 [.mk 28 noB 0 p0 [n']]) [eTk px] := by
 have hE := good_end hG
 have hGX : Good [((2, kEnd, 0, pe) : Tk), eTk px] := ⟨by show (2 : Int) ≠ 6; decide, rfl⟩
 have hG1 : Good (R' ++ [(2, kEnd, 0, pe), eTk px]) := good_app hG hS hGX (.inl (by show (2 : Int) ≠ 6; decide))
 have hG2 : Good ((2, kDo, 0, p0) :: (R' ++ [(2, kEnd, 0, pe), eTk px])) := by
  cases hq : R' ++ [((2, kEnd, 0, pe) : Tk), eTk px] with
  | nil => rw [hq] at hG1; exact hG1.elim
  | cons u v => rw [hq] at hG1; exact ⟨by show (2 : Int) ≠ 6; decide, hG1⟩
 have hX : Stp [((2, kEnd, 0, pe) : Tk), eTk px] := ⟨by kernel_rfl, by kernel_rfl, by kernel_rfl, by kernel_rfl, by kernel_rfl, by kernel_rfl, fun h => absurd h.1 (by show (2 : Int) ≠ 5; decide)⟩
 have hZ : EndX [((2, kEnd, 0, pe) : Tk), eTk px] := ⟨by kernel_rfl, by kernel_rfl, by kernel_rfl, by kernel_rfl⟩
 obtain ⟨g, hg⟩ : ∃ g, g = 16 * (R ++ [E]).length + 100 := ⟨_, rfl⟩
 obtain ⟨hp, h6, hr⟩ := vAll_ok hG hv (g + 1) (by omega)
 unfold pBlock at hp
 obtain ⟨Q, Q', n', rfl, hSQ, hn, h⟩ := topL hE hX hZ g true false _ (hd (R' ++ [((2, kEnd, 0, pe) : Tk), eTk px])).2.2.2 [] [] R R' trivial hS hG n r hp (.inr ⟨rfl, hno⟩)
 obtain rfl := rest_end hr h6
 obtain rfl := Sm_nil hSQ
 have hbl : pBlock (g + 1) false (R' ++ [((2, kEnd, 0, pe) : Tk), eTk px]) = some (.ok n' [(2, kEnd, 0, pe), eTk px]) := by unfold pBlock; exact h
 have hbody : pBody (g + 2) ((2, kDo, 0, p0) :: (R' ++ [(2, kEnd, 0, pe), eTk px])) = some (.ok n' [eTk px]) := by
  unfold pBody pWant
  rw [if_pos (show isH kDo ((2, kDo, 0, p0) :: (R' ++ [(2, kEnd, 0, pe), eTk px])) = true from by kernel_rfl)]
  show PV.bind (pBlock (g + 1) false (R' ++ [((2, kEnd, 0, pe) : Tk), eTk px])) _ = _
  rw [hbl]
  kernel_rfl
 have hst : pStat (g + 3) ((2, kDo, 0, p0) :: (R' ++ [(2, kEnd, 0, pe), eTk px])) = some (.ok (.mk 28 noB 0 p0 [n']) [eTk px]) := by
  unfold pStat
  rw [if_pos (show isH kDo ((2, kDo, 0, p0) :: (R' ++ [(2, kEnd, 0, pe), eTk px])) = true from by kernel_rfl), hbody]
  kernel_rfl
 refine ⟨n', hn, vAll_of hG2 rfl (g + 5) ?_ ?_⟩
 ·have := Sm_len hS
  simp only [List.length_cons, List.length_append, List.length_nil] at hg ⊢
  omega
 ·unfold pBlock
  have e1 : pBlockL (g + 4) true (hd ((2, kDo, 0, p0) :: (R' ++ [(2, kEnd, 0, pe), eTk px]))).2.2.2 [] ((2, kDo, 0, p0) :: (R' ++ [(2, kEnd, 0, pe), eTk px])) =
    PV.bind (pStat (g + 3) ((2, kDo, 0, p0) :: (R' ++ [(2, kEnd, 0, pe), eTk px]))) fun x r => pBlockL (g + 3) true p0 ([] ++ [x]) r := by
   rw [pBlockL.eq_2]
   kernel_rfl
  rw [e1, hst]
  rfl
end Go.Proofs.YtcdeodpakbcdeaaGreatDoor
namespace Go.Proofs.YtcdeodpakbcdeaaGreatDoor
open Go Go.RowKit Lx
mutual
def htT : Tree → Nat
 | .mk _ _ _ _ l => htTs l + 1
def htTs : List Tree → Nat
 | [] => 0
 | x :: l => max (htT x) (htTs l)
end
mutual
theorem ht_sz : ∀ t : Tree, htT t ≤ sz t
 | .mk _ _ _ _ l => by simp only [htT, sz]; have := hts_szs l; omega
theorem hts_szs : ∀ l : List Tree, htTs l ≤ szs l
 | [] => by simp [htTs, szs]
 | x :: l => by simp only [htTs, szs]; have := ht_sz x; have := hts_szs l; omega
end
mutual
theorem smT_ht : ∀ {t t' : Tree}, smT t t' → htT t = htT t'
 | .mk _ _ _ _ _, .mk _ _ _ _ _, h => by simp only [htT, smTs_ht h.2.2.2]
theorem smTs_ht : ∀ {l l' : List Tree}, smTs l l' → htTs l = htTs l'
 | [], [], _ => rfl
 | _ :: _, _ :: _, h => by simp only [htTs, smT_ht h.1, smTs_ht h.2]
end
mutual
theorem smT_sz : ∀ {t t' : Tree}, smT t t' → sz t = sz t'
 | .mk _ _ _ _ _, .mk _ _ _ _ _, h => by simp only [sz, smTs_szs h.2.2.2]
theorem smTs_szs : ∀ {l l' : List Tree}, smTs l l' → szs l = szs l'
 | [], [], _ => rfl
 | _ :: _, _ :: _, h => by simp only [szs, smT_sz h.1, smTs_szs h.2]
end
mutual
theorem smT_symm : ∀ {t t' : Tree}, smT t t' → smT t' t
 | .mk _ _ _ _ _, .mk _ _ _ _ _, h => ⟨h.1.symm, h.2.1.symm, h.2.2.1.symm, smTs_symm h.2.2.2⟩
theorem smTs_symm : ∀ {l l' : List Tree}, smTs l l' → smTs l' l
 | [], [], _ => trivial
 | _ :: _, _ :: _, h => ⟨smT_symm h.1, smTs_symm h.2⟩
end
theorem same_loop (J : Unit → Option Bool) (R : TS) (hJ : J () = some true) : ∀ (t t' pre pre' : List Tree) (m : Nat), pre.length = pre'.length → smTs t t' → pre.length + t.length ≤ 10000000 → t.length + 1 ≤ m →
  (∀ x x', x ∈ t → smT x x' → R.law12_same x.kind x.text x.n x.at_ x.kids x'.kind x'.text x'.n x'.at_ x'.kids = some true) → law12_same.l0 m R (pre ++ t) (pre' ++ t') J (pre.length : Int) = some true
 | [], [], pre, pre', m, _, _, hl, hm, _ => by
  obtain ⟨m, rfl⟩ : ∃ m', m = m' + 1 := ⟨m - 1, by omega⟩
  simp only [law12_same.l0]
  rw [dec_f (by simp)]
  exact hJ
 | x :: t, x' :: t', pre, pre', m, hp, hs, hl, hm, hR => by
  obtain ⟨m, rfl⟩ : ∃ m', m = m' + 1 := ⟨m - 1, by omega⟩
  simp only [List.length_cons] at hl hm
  have ih := same_loop J R hJ t t' (pre ++ [x]) (pre' ++ [x']) m (by simp [hp]) hs.2 (by simp; omega) (by omega) (fun y y' hy => hR y y' (List.mem_cons_of_mem _ hy))
  have e2 : lIdx (pre' ++ x' :: t') (pre.length : Int) = some x' := by rw [hp]; exact idx_mid pre' x' t'
  simp only [law12_same.l0]
  rw [dec_t (by simp; omega), idx_mid, e2]
  simp only [cond_true, Option.bind_some]
  rw [hR x x' (List.mem_cons_self ..) hs.1]
  simp only [Option.bind_some, Bool.not_true, cond_false]
  rw [wrap64 _ (by omega) (by omega)]
  rw [List.append_assoc, List.append_assoc, List.length_append] at ih
  exact ih
theorem same_true : ∀ (k : Nat) (t t' : Tree), sz t ≤ k → sz t ≤ 1000000 → smT t t' → law12_same.g (TS.at k) k t.kind t.text t.n t.at_ t.kids t'.kind t'.text t'.n t'.at_ t'.kids = some true
 | 0, t, _, h, _, _ => by have := sz_pos t; omega
 | k + 1, .mk kd tx n a l, .mk kd' tx' n' a' l', h, h9, hs => by
  simp only [sz] at h h9
  have hl := szs_len l
  obtain ⟨rfl, rfl, rfl, hs⟩ := hs
  have hll := smTs_len hs
  unfold law12_same.g joinF
  simp only [Tree.kind, Tree.text, Tree.n, Tree.at_, Tree.kids, hll, bne_self_eq_false, beq_self_eq_true, Bool.not_true, cond_false, Option.bind_some]
  exact same_loop _ _ rfl l l' [] [] (k + 1) rfl hs (by simp only [List.length_nil]; omega) (by omega) fun x x' hx hxx => by
   have := sz_mem hx
   exact same_true k x x' (by omega) (by omega) hxx
theorem ht_loop (J : Int → Option Int) (R : H1) : ∀ (t pre : List Tree) (m a : Nat), pre.length + t.length ≤ 10000000 → t.length + 1 ≤ m →
  (∀ x ∈ t, R.parse_Height x.kind x.text x.n x.at_ x.kids = some (htT x : Int)) → parse_Height.l0 m R (pre ++ t) J (a : Int) (pre.length : Int) = J ((max a (htTs t) : Nat) : Int)
 | [], pre, m, a, hl, hm, _ => by
  obtain ⟨m, rfl⟩ : ∃ m', m = m' + 1 := ⟨m - 1, by omega⟩
  simp only [parse_Height.l0]
  rw [dec_f (by simp)]
  simp [htTs]
 | x :: t, pre, m, a, hl, hm, hR => by
  obtain ⟨m, rfl⟩ : ∃ m', m = m' + 1 := ⟨m - 1, by omega⟩
  simp only [List.length_cons] at hl hm
  have ih := ht_loop J R t (pre ++ [x]) m (max a (htT x)) (by simp; omega) (by omega) (fun y hy => hR y (List.mem_cons_of_mem _ hy))
  simp only [parse_Height.l0]
  rw [dec_t (by simp; omega), idx_mid]
  simp only [cond_true, Option.bind_some]
  rw [hR x (List.mem_cons_self ..)]
  simp only [Option.bind_some]
  rw [wrap64 _ (by omega) (by omega)]
  rw [List.append_assoc, List.length_append] at ih
  have e1 : (if (htT x : Int) > (a : Int) then (htT x : Int) else (a : Int)) = ((max a (htT x) : Nat) : Int) := by split <;> omega
  rw [e1]
  refine ih.trans (congrArg J ?_)
  simp only [htTs]
  omega
theorem ht_eq : ∀ (k : Nat) (t : Tree), sz t ≤ k → sz t ≤ 1000000 → parse_Height.g (H1.at k) k t.kind t.text t.n t.at_ t.kids = some (htT t : Int)
 | 0, t, h, _ => by have := sz_pos t; omega
 | k + 1, .mk kd tx n a l, h, h9 => by
  simp only [sz] at h h9
  have hl := szs_len l
  have hh := hts_szs l
  unfold parse_Height.g joinF
  have := ht_loop (fun x2 => some (IntKind.i64.wrap (x2 + (1 : Int)))) (H1.at (k + 1)) l [] (k + 1) 0 (by simp only [List.length_nil]; omega) (by omega) fun x hx => by
   have := sz_mem hx
   exact ht_eq k x (by omega) (by omega)
  refine this.trans ?_
  rw [wrap64 _ (by omega) (by omega)]
  simp [htT]
theorem mkK (k : Int) (t : ByteArray) (n a : Int) (l : List Tree) : (Tree.mk k t n a l).kind = k := rfl
theorem mkX (k : Int) (t : ByteArray) (n a : Int) (l : List Tree) : (Tree.mk k t n a l).text = t := rfl
theorem mkN (k : Int) (t : ByteArray) (n a : Int) (l : List Tree) : (Tree.mk k t n a l).n = n := rfl
theorem mkA (k : Int) (t : ByteArray) (n a : Int) (l : List Tree) : (Tree.mk k t n a l).at_ = a := rfl
theorem mkL (k : Int) (t : ByteArray) (n a : Int) (l : List Tree) : (Tree.mk k t n a l).kids = l := rfl
theorem idx0 (x : Tree) : lIdx [x] (0 : Int) = some x := rfl
theorem sCat_eq {a b : ByteArray} (h : a.size + b.size ≤ 9223372036854775807) : sCat a b = some (str (bs a ++ bs b)) := by
 unfold sCat
 rw [dec_t h]
 have : a ++ b = str (bs a ++ bs b) := bs_inj (by rw [bs_str]; simp [bs])
 rw [this]
 rfl
theorem parseV_cases (s : ByteArray) : (∃ c a, c ≠ 0 ∧ parseV s = outV c a) ∨ ∃ T E n r, scanF (bs s) = .inr (T ++ [E]) ∧ scanL (bs s) 0 [] = .inr (T ++ [E]) ∧ Good (T.map tokT ++ [tokT E]) ∧ vAll (T.map tokT ++ [tokT E]) = .ok n r ∧ parseV s = treeV n ∧ ordT n ∧ sz n ≤ 80010 ∧ n.kind = 20 := by
 cases hs : scanF (bs s) with
 | inl x =>
  obtain ⟨c, p⟩ := x
  exact .inl ⟨c, p, scanF_ne' _ _ _ hs, parseV_inl hs⟩
 | inr t =>
  have hT := scan_toks s t hs
  cases hv : vAll (t.map tokT) with
  | bad i => exact .inl ⟨4, i, by decide, parseV_bad hs hv⟩
  | ok n r =>
   obtain ⟨h1, h2, h3⟩ := vAll_tree hT hv
   obtain ⟨T, E, rfl, hG, hL, _⟩ := scan_last hs
   rw [List.map_append, List.map_singleton] at hv
   refine .inr ⟨T, E, n, r, rfl, hL, hG, hv, parseV_ok hs (by rw [List.map_append, List.map_singleton]; exact hv), h1, h2, h3⟩
theorem parseV_of {s : ByteArray} {l : Bs} (hl : bs s = l) {t : List Tok} {ts : List Tk} (h : scanF l = .inr t) (hm : t.map tokT = ts) {n : Tree} {r : List Tk} (hv : vAll ts = .ok n r) : parseV s = treeV n := parseV_ok (by rw [hl]; exact h) (by rw [hm]; exact hv)
end Go.Proofs.YtcdeodpakbcdeaaGreatDoor
namespace Go.Proofs.YtcdeodpakbcdeaaGreatDoor
open Go Go.RowKit
def law12_ParseWraps.l0 : Nat → (r3 : Int × ByteArray × Int × Int × List Tree × Int × Int) → (J12 : (Unit → Option (Bool))) → (x76 : Int) → Option (Bool)
 | 0, _, _, _ => none
 | m77 + 1, r3, J12, x76 => cond (decide (x76 < ((r3.2.2.2.2.1.length : Nat) : Int))) ((lIdx r3.2.2.2.2.1 x76).bind fun x79 => cond (x79.kind == 31) (some (true)) (law12_ParseWraps.l0 m77 r3 J12 (IntKind.i64.wrap (x76 + 1)))) (J12 ())
def law12_ParseWraps.f (k : Nat) (a0 : ByteArray) : Option (Bool) := (law12_fixed.f k).bind fun r1 => cond (!r1) (some (false)) ((parse_Parse.f k a0).bind fun r3 => (cond (r3.2.2.2.2.2.1 != 0) (some true) (some (decide ((a0.size : Int) > 19000))) : Option Bool).bind fun q10 => cond q10 (some (true)) (joinF (fun (_ : Unit) => (sCat (⟨#[100, 111, 32]⟩ : ByteArray) a0).bind fun s13 : ByteArray => (sCat s13 (⟨#[10, 101, 110, 100]⟩ : ByteArray)).bind fun s14 : ByteArray => (parse_Parse.f k s14).bind fun r15 => (cond (r15.2.2.2.2.2.1 == 0) (cond (((r15.2.2.2.2.1.length : Nat) : Int) == 1) ((lIdx r15.2.2.2.2.1 0).bind fun x24 => cond (x24.kind == 28) ((lIdx r15.2.2.2.2.1 0).bind fun x37 => cond (((x37.kids.length : Nat) : Int) == 1) ((lIdx r15.2.2.2.2.1 0).bind fun x50 => (lIdx x50.kids 0).bind fun x62 => (law12_same.f k x62.kind x62.text x62.n x62.at_ x62.kids r3.1 r3.2.1 r3.2.2.1 r3.2.2.2.1 r3.2.2.2.2.1).bind fun r71 => cond r71 ((parse_Height.f k r15.1 r15.2.1 r15.2.2.1 r15.2.2.2.1 r15.2.2.2.2.1).bind fun r73 => (parse_Height.f k r3.1 r3.2.1 r3.2.2.1 r3.2.2.2.1 r3.2.2.2.2.1).bind fun r74 => cond (r73 == (IntKind.i64.wrap (r74 + 2))) (some true) (some false)) (some false)) (some false)) (some false)) (some false)) (some false) : Option Bool).bind fun q21 => some (q21)) (fun J12 => law12_ParseWraps.l0 k r3 J12 0)))
set_option maxRecDepth 100000 in
theorem law12_ParseWraps.ok {k : Nat} {a0 : ByteArray} {G : Frag} {r : Bool} (h : law12_ParseWraps.f k a0 = some r) (hG : GlT G) : Ct Tryz.prog 9 #[sv a0] [] [G] (fun e l1 => e = .returned (bv r) ∧ l1 = []) := by
 refine ct_enter (args := [sv a0]) Tryz.func9 rfl (Nat.le_of_ble_eq_true rfl) ?_
 intro A X hh_
 obtain ⟨hm_G, _⟩ := hh_
 unfold law12_ParseWraps.f at h
 refine ksr (kx 1 (knt (k_seq (ksr (bnd h fun r1 hr1 h => (kcv (law12_fixed.ok hr1 hG) ⟨hm_G, trivial⟩ (kx 1 (knt ?_))))))))
 refine kcn h (fun h => ?_) fun h => ?_
 ·refine ksr (kx 1 (knt (k_ret (k_then_ret ?_))))
  obtain rfl := Option.some.inj h
  exact kdn rfl
 ·refine k_skip (k_then (ksr (kx 1 (bnd h fun r3 hr3 h => (kcl (parse_Parse.ok hr3 hG.1) rfl ⟨hm_G, trivial⟩ ?_)))))
  rintro _ _ ⟨h4, A5, k6, o7, rfl, rfl⟩
  refine nx_ret1 (kx 3 (knp #[iv 0, sv noS, iv 0, iv 0, nS] 24 fun b8 => (knp #[iv 0, iv 0] 27 fun b9 => (K.mv1 (kst 0 5 #[iv r3.1, sv r3.2.1, iv r3.2.2.1, iv r3.2.2.2.1, .slice A5 r3.2.2.2.2.1.length k6] (K.mv1 (kst 0 2 #[iv r3.2.2.2.2.2.1, iv r3.2.2.2.2.2.2] (knt (k_seq (bnd h fun q10 hq10 h => ?_))))))))))
  refine k_cut1 [(0, sv a0), (3, pt b8), (4, pt b9), (21, bv q10)] (bk b9 #[iv r3.2.2.2.2.2.1, iv r3.2.2.2.2.2.2] 27 :: bk b8 #[iv r3.1, sv r3.2.1, iv r3.2.2.1, iv r3.2.2.2.1, .slice A5 r3.2.2.2.2.1.length k6] 24 :: h4 :: X) ?_ ?_
  ·clear hq10
   refine kcn h (fun h => ?_) fun h => ?_
   ·refine ksr (kx 1 (knt (k_ret (k_then_ret ?_))))
    obtain rfl := Option.some.inj h
    exact K.drop (K.drop (K.drop (kdn rfl)))
   ·refine k_skip (k_then ?_)
    obtain ⟨J12, hJ12, h⟩ := joinSplit h
    refine k_cut (τ := Unit) (fun t => [(0, sv a0), (3, pt b8), (4, pt b9)]) (fun t => bk b9 #[iv r3.2.2.2.2.2.1, iv r3.2.2.2.2.2.2] 27 :: bk b8 #[iv r3.1, sv r3.2.1, iv r3.2.2.1, iv r3.2.2.2.1, .slice A5 r3.2.2.2.2.1.length k6] 24 :: h4 :: X) (fun t => J12 () = some r) ?_ ?_
    ·rintro ⟨⟩ h
     subst hJ12
     refine ksr (kx 1 (bnd h fun s13 hs13 h => (kl_cat rfl (by kernel_rfl) (by kernel_rfl) (by kernel_rfl) (by kernel_rfl) hs13 (bnd h fun s14 hs14 h => (kl_cat rfl (by kernel_rfl) (by kernel_rfl) (by kernel_rfl) (by kernel_rfl) hs14 (bnd h fun r15 hr15 h => (kcl (parse_Parse.ok hr15 hG.1) rfl ⟨(t3 hm_G), trivial⟩ ?_)))))))
     rintro _ _ ⟨h16, A17, k18, o19, rfl, rfl⟩
     refine nx_ret1 (kx 3 (knp #[iv 0, sv noS, iv 0, iv 0, nS] 24 fun b20 => (kst 0 5 #[iv r15.1, sv r15.2.1, iv r15.2.2.1, iv r15.2.2.2.1, .slice A17 r15.2.2.2.2.1.length k18] (K.mv2 (kst 0 2 #[iv r15.2.2.2.2.2.1, iv r15.2.2.2.2.2.2] (knt (bnd h fun q21 hq21 h => ?_)))))))
     refine k_cut1 [(2, bv q21)] (X) ?_ ?_
     ·clear hq21
      refine k_ret ?_
      obtain rfl := Option.some.inj h
      exact kdn rfl
     ·have h := hq21
      clear hq21
      refine kpr [(0, 0), (1, 3), (2, 0), (3, 0), (4, 0), (5, 3), (6, 0), (7, 0), (8, 0), (9, 0), (10, 0), (11, 3), (12, 0), (13, 0), (14, 3), (15, 0), (16, 0), (17, 0), (18, 0), (19, 3), (20, 0), (21, 0), (22, 3), (23, 0), (24, 0), (25, 0), (26, 0), (27, 0), (28, 3), (29, 0), (30, 0), (31, 3), (32, 0), (33, 3), (34, 3), (35, 1), (36, 0), (37, 0), (38, 3), (40, 3), (39, 1)] [0, 1, 2, 3, 4] (kpx 1 (kpd 0 0 rfl (kpx 2 ?_)))
      refine kcs 46 h (fun h => ?_) fun h => ?_
      ·refine kpx 1 (kpd 1 4 rfl (kpx 4 ?_))
       refine kcs 52 h (fun h => ?_) fun h => ?_
       ·refine kpx 1 (kpd 1 4 rfl (bnd h fun x24 hx24 h => (kpelR (T := 24) (kd := .i64) (R := (rTree 24)) rfl hx24 (OwnR.rd o19) fun p25 u28 q29 e26 y27 => ?_)))
        obtain ⟨A30, k31, rfl, o32⟩ := treeR_mk 24 q29
        refine kpefP (off := 0) rfl e26 y27 fun p33 e34 y35 => ?_
        have e34 : Elem _ p33 [iv x24.kind, sv x24.text, iv x24.n, iv x24.at_, .slice A30 x24.kids.length k31] := e34
        refine kp_eload1 rfl (by kernel_rfl) (by kernel_rfl) (by kernel_rfl) (by kernel_rfl) e34 (fun w h_ => h_.mem _ (.tail _ (.tail _ (.head _)))) (kpx 3 ?_)
        refine kcs 60 h (fun h => ?_) fun h => ?_
        ·refine kpx 1 (kpd 1 4 rfl (bnd h fun x37 hx37 h => (kpelR (T := 24) (kd := .i64) (R := (rTree 24)) rfl hx37 (OwnR.rd o19) fun p38 u41 q42 e39 y40 => ?_)))
         obtain ⟨A43, k44, rfl, o45⟩ := treeR_mk 24 q42
         refine kpefP (off := 4) rfl e39 y40 fun p46 e47 y48 => ?_
         have e47 : Elem _ p46 [.slice A43 x37.kids.length k44] := e47
         refine kp_eload1 rfl (by kernel_rfl) (by kernel_rfl) (by kernel_rfl) (by kernel_rfl) e47 (fun w h_ => h_.mem _ (.tail _ (.tail _ (.head _)))) (kpx 4 ?_)
         refine kcs 69 h (fun h => ?_) fun h => ?_
         ·refine kpx 1 (kpd 1 4 rfl (bnd h fun x50 hx50 h => (kpelR (T := 24) (kd := .i64) (R := (rTree 24)) rfl hx50 (OwnR.rd o19) fun p51 u54 q55 e52 y53 => ?_)))
          obtain ⟨A56, k57, rfl, o58⟩ := treeR_mk 24 q55
          refine kpefP (off := 4) rfl e52 y53 fun p59 e60 y61 => ?_
          have e60 : Elem _ p59 [.slice A56 x50.kids.length k57] := e60
          refine kp_eload1 rfl (by kernel_rfl) (by kernel_rfl) (by kernel_rfl) (by kernel_rfl) e60 (fun w h_ => h_.mem _ (.tail _ (.tail _ (.head _)))) (bnd h fun x62 hx62 h => (kpelR (T := 24) (kd := .i64) (R := (rTree 24)) rfl hx62 o58 fun p63 u66 q67 e64 y65 => ?_))
          obtain ⟨A68, k69, rfl, o70⟩ := treeR_mk 24 q67
          refine kpeN rfl e64 (fun w h_ => h_.mem _ (.tail _ (.tail _ (.head _)))) (kpa 3 0 5 rfl (kpt (bnd h fun r71 hr71 h => (ocv (law12_same.ok hr71 o70 (OwnR.rd o7)) ⟨(.tail _ (.tail _ (.head _))), (.tail _ (.tail _ (.tail _ (.tail _ (.head _))))), trivial⟩ (kan [0, 1, 2, 3, 4] rfl (kpx 2 ?_))))))
          refine kcs 80 h (fun h => ?_) fun h => ?_
          ·refine kpa 1 0 5 rfl (kpa 3 0 5 rfl (kpt (bnd h fun r73 hr73 h => (ocv (parse_Height.ok hr73 (OwnR.rd o19)) ⟨(.tail _ (.tail _ (.head _))), trivial⟩ (kan [0, 1, 2, 3, 4] rfl (kpz (bnd h fun r74 hr74 h => (kcv (parse_Height.ok hr74 (OwnR.rd o7)) ⟨(.tail _ (.tail _ (.tail _ (.tail _ (.head _))))), trivial⟩ (K.drop (K.drop ?_))))))))))
           refine K.drop (K.drop (K.drop (kx 4 ?_)))
           refine kcs 88 h (fun h => ?_) fun h => ?_
           ·exact kx 2 (knt (k_meet1 ⟨gb (Option.some.inj h), trivial⟩))
           ·exact kx 2 (knt (k_meet1 ⟨gb (Option.some.inj h), trivial⟩))
          ·refine kp_skip3 (by kernel_rfl) (by kernel_rfl) (kp_skip3 (by kernel_rfl) (by kernel_rfl) (kp_skip1 (by kernel_rfl) (by kernel_rfl) (kan [0, 1, 2, 3, 4] rfl (kpz (kx 7 (knt (K.drop (K.drop (K.drop (K.drop ?_))))))))))
           exact K.drop (k_meet1 ⟨gb (Option.some.inj h), trivial⟩)
         ·refine kpx 1 (kp_skip3 (by kernel_rfl) (by kernel_rfl) (kpx 2 (kp_skip3 (by kernel_rfl) (by kernel_rfl) (kpx 1 (kp_skip3 (by kernel_rfl) (by kernel_rfl) (kp_skip3 (by kernel_rfl) (by kernel_rfl) (kp_skip1 (by kernel_rfl) (by kernel_rfl) (kan [0, 1, 2, 3, 4] rfl (kpx 2 (kp_skip3 (by kernel_rfl) (by kernel_rfl) ?_))))))))))
          refine kp_skip3 (by kernel_rfl) (by kernel_rfl) (kp_skip1 (by kernel_rfl) (by kernel_rfl) (kan [0, 1, 2, 3, 4] rfl (kpz (kx 7 (knt (K.drop (K.drop (K.drop (K.drop (K.drop ?_))))))))))
          exact k_meet1 ⟨gb (Option.some.inj h), trivial⟩
        ·refine kpx 1 (kp_skip3 (by kernel_rfl) (by kernel_rfl) (kpx 2 (kp_skip3 (by kernel_rfl) (by kernel_rfl) (kpx 5 (kp_skip3 (by kernel_rfl) (by kernel_rfl) (kpx 2 (kp_skip3 (by kernel_rfl) (by kernel_rfl) (kpx 1 (kp_skip3 (by kernel_rfl) (by kernel_rfl) (kp_skip3 (by kernel_rfl) (by kernel_rfl) ?_))))))))))
         refine kp_skip1 (by kernel_rfl) (by kernel_rfl) (kan [0, 1, 2, 3, 4] rfl (kpx 2 (kp_skip3 (by kernel_rfl) (by kernel_rfl) (kp_skip3 (by kernel_rfl) (by kernel_rfl) (kp_skip1 (by kernel_rfl) (by kernel_rfl) (kan [0, 1, 2, 3, 4] rfl (kpz (kx 7 (knt (K.drop ?_))))))))))
         exact K.drop (K.drop (K.drop (K.drop (k_meet1 ⟨gb (Option.some.inj h), trivial⟩))))
       ·refine kpx 1 (kp_skip3 (by kernel_rfl) (by kernel_rfl) (kpx 2 (kp_skip3 (by kernel_rfl) (by kernel_rfl) (kpx 4 (kp_skip3 (by kernel_rfl) (by kernel_rfl) (kpx 2 (kp_skip3 (by kernel_rfl) (by kernel_rfl) (kpx 5 (kp_skip3 (by kernel_rfl) (by kernel_rfl) (kpx 2 ?_))))))))))
        refine kp_skip3 (by kernel_rfl) (by kernel_rfl) (kpx 1 (kp_skip3 (by kernel_rfl) (by kernel_rfl) (kp_skip3 (by kernel_rfl) (by kernel_rfl) (kp_skip1 (by kernel_rfl) (by kernel_rfl) (kan [0, 1, 2, 3, 4] rfl (kpx 2 (kp_skip3 (by kernel_rfl) (by kernel_rfl) (kp_skip3 (by kernel_rfl) (by kernel_rfl) (kp_skip1 (by kernel_rfl) (by kernel_rfl) (kan [0, 1, 2, 3, 4] rfl ?_))))))))))
        exact kpz (kx 7 (knt (K.drop (K.drop (K.drop (K.drop (K.drop (k_meet1 ⟨gb (Option.some.inj h), trivial⟩))))))))
      ·refine kpx 1 (kp_skip3 (by kernel_rfl) (by kernel_rfl) (kpx 5 (kp_skip3 (by kernel_rfl) (by kernel_rfl) (kpx 2 (kp_skip3 (by kernel_rfl) (by kernel_rfl) (kpx 4 (kp_skip3 (by kernel_rfl) (by kernel_rfl) (kpx 2 (kp_skip3 (by kernel_rfl) (by kernel_rfl) (kpx 5 ?_))))))))))
       refine kp_skip3 (by kernel_rfl) (by kernel_rfl) (kpx 2 (kp_skip3 (by kernel_rfl) (by kernel_rfl) (kpx 1 (kp_skip3 (by kernel_rfl) (by kernel_rfl) (kp_skip3 (by kernel_rfl) (by kernel_rfl) (kp_skip1 (by kernel_rfl) (by kernel_rfl) (kan [0, 1, 2, 3, 4] rfl (kpx 2 (kp_skip3 (by kernel_rfl) (by kernel_rfl) (kp_skip3 (by kernel_rfl) (by kernel_rfl) ?_))))))))))
       exact kp_skip1 (by kernel_rfl) (by kernel_rfl) (kan [0, 1, 2, 3, 4] rfl (kpz (kx 7 (knt (K.drop (K.drop (K.drop (K.drop (K.drop (k_meet1 ⟨gb (Option.some.inj h), trivial⟩))))))))))
    ·skip
     refine ksr (kx 1 (knt (k_block (k_loop (τ := Int) (fun t => [(0, sv a0), (3, pt b8), (4, pt b9), (5, iv t)]) (fun t => bk b9 #[iv r3.2.2.2.2.2.1, iv r3.2.2.2.2.2.2] 27 :: bk b8 #[iv r3.1, sv r3.2.1, iv r3.2.2.1, iv r3.2.2.2.1, .slice A5 r3.2.2.2.2.1.length k6] 24 :: h4 :: X) (fun m t => law12_ParseWraps.l0 m r3 J12 t = some r) k 0 h sb rfl ?_))))
     clear h
     rintro m77 x76 h
     cases m77 with
     | zero => simp [law12_ParseWraps.l0] at h
     | succ m77 =>
      simp only [law12_ParseWraps.l0] at h
      refine k_seq (ksr (kx 2 (kld 1 4 rfl (kx 2 (knt ?_)))))
      refine kcn h (fun h => ?_) fun h => ?_
      ·refine k_skip (k_then (k_seq (k_block (ksr (kx 1 (kld 1 4 rfl (kx 1 (bnd h fun x79 hx79 h => (kelR (T := 24) (kd := .i64) (R := (rTree 24)) rfl hx79 (OwnR.rd o7) fun p80 u83 q84 e81 y82 => ?_)))))))))
       obtain ⟨A85, k86, rfl, o87⟩ := treeR_mk 24 q84
       refine kefP (off := 0) rfl e81 y82 fun p88 e89 y90 => ?_
       have e89 : Elem _ p88 [iv x79.kind, sv x79.text, iv x79.n, iv x79.at_, .slice A85 x79.kids.length k86] := e89
       refine kl_eload1 rfl (by kernel_rfl) (by kernel_rfl) (by kernel_rfl) (by kernel_rfl) e89 (.tail _ (.tail _ (.head _))) (kx 1 (knt ?_))
       refine kcn h (fun h => ?_) fun h => ?_
       ·refine ksr (kx 1 (knt (k_ret (k_blk_ret (k_then_ret (k_then_ret (k_blk_ret (k_then_ret ?_))))))))
        obtain rfl := Option.some.inj h
        exact K.drop (K.drop (K.drop (kdn rfl)))
       ·exact k_skip (k_blk (k_then (k_region (kx 3 (knt (k_again m77 (IntKind.i64.wrap (x76 + 1)) (Nat.lt_succ_self _) h sb rfl))))))
      ·exact k_exit (k_then_exit (k_then_exit (k_here (k_then (k_meet () h sb rfl)))))
  ·have h := hq10
   clear hq10
   refine k_region (kx 1 (kld 0 0 rfl (kx 2 ?_)))
   refine kcs 17 h (fun h => ?_) fun h => ?_
   ·exact kx 4 (knt (k_meet1 ⟨gr, gr, gr, gb (Option.some.inj h), trivial⟩))
   ·exact kx 4 (knt (k_meet1 ⟨gr, gr, gr, gb (Option.some.inj h), trivial⟩))
end Go.Proofs.YtcdeodpakbcdeaaGreatDoor
namespace Go.Proofs.YtcdeodpakbcdeaaGreatDoor
open Go Go.RowKit Lx
theorem wraps_loop (n : Tree) (c a : Int) (J : Unit → Option Bool) : ∀ (t pre : List Tree) (m : Nat), n.kids = pre ++ t → pre.length + t.length ≤ 10000000 → t.length + 1 ≤ m →
  law12_ParseWraps.l0 m (n.kind, n.text, n.n, n.at_, n.kids, c, a) J (pre.length : Int) = some true ∨ ((∀ x ∈ t, x.kind ≠ 31) ∧ law12_ParseWraps.l0 m (n.kind, n.text, n.n, n.at_, n.kids, c, a) J (pre.length : Int) = J ())
 | [], pre, m, hk, hl, hm => by
  obtain ⟨m, rfl⟩ : ∃ m', m = m' + 1 := ⟨m - 1, by omega⟩
  refine .inr ⟨fun _ h => (by cases h), ?_⟩
  simp only [law12_ParseWraps.l0, hk]
  rw [dec_f (by simp)]
  rfl
 | x :: t, pre, m, hk, hl, hm => by
  obtain ⟨m, rfl⟩ : ∃ m', m = m' + 1 := ⟨m - 1, by omega⟩
  simp only [List.length_cons] at hl hm
  have ih := wraps_loop n c a J t (pre ++ [x]) m (by rw [hk]; simp) (by simp; omega) (by omega)
  have e : law12_ParseWraps.l0 (m + 1) (n.kind, n.text, n.n, n.at_, n.kids, c, a) J (pre.length : Int) = cond (x.kind == (31 : Int)) (some true) (law12_ParseWraps.l0 m (n.kind, n.text, n.n, n.at_, n.kids, c, a) J ((pre ++ [x]).length : Int)) := by
   rw [law12_ParseWraps.l0]
   simp only [hk]
   rw [dec_t (by simp; omega), idx_mid]
   simp only [cond_true, Option.bind_some]
   rw [wrap64 _ (by omega) (by omega), List.length_append]
   rfl
  rw [e]
  by_cases h : x.kind = 31
  ·rw [h]; exact .inl rfl
  ·rw [show (x.kind == (31 : Int)) = false by rw [beq_eq_false_iff_ne]; exact h]
   simp only [cond_false]
   rcases ih with ih | ⟨h1, h2⟩
   ·exact .inl ih
   ·refine .inr ⟨fun y hy => ?_, h2⟩
    rcases List.mem_cons.1 hy with rfl | hy
    ·exact h
    ·exact h1 y hy
theorem pwraps_true (s : ByteArray) : law12_ParseWraps.f 2000000 s = some true := by
 unfold law12_ParseWraps.f
 rw [pparse_eq _ (by omega), fixed_true]
 simp only [Option.bind_some, Bool.not_true, cond_false]
 rcases parseV_cases s with ⟨c, a, hc, hp⟩ | ⟨T, E, n, r, hF, hL, hG, hv, hp, ho, hz, hk⟩
 ·rw [hp]
  simp only [outV]
  rw [show (c != 0) = true by rw [bne_iff_ne]; exact hc]
  rfl
 rw [hp]
 simp only [treeV, bne_self_eq_false, cond_false, Option.bind_some]
 by_cases hl : (s.size : Int) > 19000
 ·rw [dec_t hl]; rfl
 rw [dec_f hl]
 simp only [cond_false]
 unfold joinF
 have hlen : n.kids.length ≤ 80010 := by
  have := szs_len n.kids
  cases n
  simp only [sz] at hz
  simp only [Tree.kids] at this ⊢
  omega
 rcases wraps_loop n 0 0 _ n.kids [] 2000000 rfl (by simp only [List.length_nil]; omega) (by omega) with h | ⟨hno, h⟩
 ·exact h
 refine h.trans ?_
 have hsz : s.size ≤ 19000 := by omega
 have hb : (bs s).length ≤ 19000 := by rw [bs_length]; exact hsz
 have h1 : (⟨#[100, 111, 32]⟩ : ByteArray).size = 3 := rfl
 rw [sCat_eq (by rw [h1]; omega)]
 simp only [Option.bind_some]
 have h2 : (⟨#[10, 101, 110, 100]⟩ : ByteArray).size = 4 := rfl
 rw [sCat_eq (by rw [h2, str_size, List.length_append, bs_length, bs_length, h1]; omega)]
 simp only [Option.bind_some]
 obtain ⟨n', hn, hv'⟩ := wraps_parse hG hv hno (Sm_shift 3 T) 0 ((3 + (bs s).length + 1 : Nat) : Int) ((3 + (bs s).length + 1 + 3 : Nat) : Int)
 have hpv : parseV (str (bs (str (bs (⟨#[100, 111, 32]⟩ : ByteArray) ++ bs s)) ++ bs (⟨#[10, 101, 110, 100]⟩ : ByteArray))) = treeV (.mk 20 noB 0 0 [.mk 28 noB 0 0 [n']]) :=
  parseV_of (l := [100, 111, 32] ++ bs s ++ [10, 101, 110, 100]) (by rw [bs_str, bs_str]; rfl) (wraps_scan (bs s) T E hb hL) (by simp only [List.map_append, List.map_cons, List.map_nil, List.append_assoc, List.cons_append, List.nil_append]; rfl) hv'
 rw [pparse_eq _ (by omega), hpv]
 simp only [Option.bind_some, treeV, mkK, mkX, mkN, mkA, mkL, beq_self_eq_true, cond_true]
 have hzn := smT_sz hn
 simp only [idx0, Option.bind_some, mkK, mkL, beq_self_eq_true, cond_true, List.length_cons, List.length_nil, Nat.zero_add, Int.natCast_one]
 have hsame : law12_same.f 2000000 n'.kind n'.text n'.n n'.at_ n'.kids n.kind n.text n.n n.at_ n.kids = some true := same_true 2000000 n' n (by omega) (by omega) (smT_symm hn)
 have hh := ht_eq 2000000 (.mk 20 noB 0 0 [.mk 28 noB 0 0 [n']]) (by simp only [sz, szs]; omega) (by simp only [sz, szs]; omega)
 have hh' : parse_Height.f 2000000 n.kind n.text n.n n.at_ n.kids = some (htT n : Int) := ht_eq 2000000 n (by omega) (by omega)
 have hh2 : parse_Height.f 2000000 20 noB 0 0 [.mk 28 noB 0 0 [n']] = some ((htT n : Int) + 2) := hh.trans (by
  simp only [htT, htTs, smT_ht hn]
  congr 1
  omega)
 rw [hsame]
 simp only [Option.bind_some, cond_true]
 rw [hh2, hh']
 have := ht_sz n
 simp only [Option.bind_some]
 rw [wrap64 _ (by omega) (by omega)]
 simp
end Go.Proofs.YtcdeodpakbcdeaaGreatDoor
