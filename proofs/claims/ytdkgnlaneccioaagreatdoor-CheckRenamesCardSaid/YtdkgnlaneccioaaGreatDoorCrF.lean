/- Texts of mine for checkRenames_card, part 6. -/
import Derived.Test.YtdkgnlaneccioaaGreatDoorCrE
set_option linter.unusedSimpArgs false
set_option linter.unusedVariables false
set_option linter.unusedSectionVars false
namespace Go.Proofs.YtdkgnlaneccioaaGreatDoor
open Go Go.RowKit Lx
def NZ (l : List ByteArray) : Prop := ∀ x ∈ l, isZ x = false
theorem rho_eq {a x : ByteArray} (ha : isZ a = false) (hx : isZ x = false) : ((reName a).toList == (reName x).toList) = (a.toList == x.toList) := by
 unfold isZ at ha hx
 have zz : ∀ y : ByteArray, (y.toList == bZ.toList) = false → (bZ.toList == y.toList) = false := fun y h => by rw [beq_eq_false_iff_ne] at h ⊢; exact fun e => h e.symm
 unfold reName
 cases h1 : a.toList == bA.toList with
 | true =>
  rw [if_pos rfl]
  cases h2 : x.toList == bA.toList with
  | true =>
   rw [if_pos rfl]
   rw [beq_iff_eq] at h1 h2
   rw [h1, h2]
   simp
  | false =>
   rw [if_neg (by decide), zz x hx]
   rw [beq_iff_eq] at h1
   rw [beq_eq_false_iff_ne] at h2
   symm
   rw [beq_eq_false_iff_ne, h1]
   exact fun e => h2 e.symm
 | false =>
  rw [if_neg (by decide)]
  cases h2 : x.toList == bA.toList with
  | true =>
   rw [if_pos rfl, ha]
   rw [beq_eq_false_iff_ne] at h1
   rw [beq_iff_eq] at h2
   symm
   rw [beq_eq_false_iff_ne, h2]
   exact h1
  | false => rw [if_neg (by decide)]
theorem has_rho : ∀ {l : List ByteArray} {a : ByteArray}, NZ l → isZ a = false → hasS (l.map reName) (reName a) = hasS l a
 | [], _, _, _ => rfl
 | x :: l, a, hl, ha => by
  have ih := has_rho (l := l) (fun y hy => hl y (List.mem_cons_of_mem _ hy)) ha
  unfold hasS at ih ⊢
  rw [List.map_cons, List.any_cons, List.any_cons, rho_eq ha (hl x (List.mem_cons_self ..)), ih]
theorem rho_same {t : ByteArray} (h : (t.toList == bA.toList) = false) : reName t = t := by unfold reName; rw [h]; rfl
theorem kept_notA {t : ByteArray} (h : keptB t = true) : (t.toList == bA.toList) = false := by
 cases hA : t.toList == bA.toList with
 | false => rfl
 | true =>
  rw [beq_iff_eq] at hA
  unfold keptB at h
  rw [hA] at h
  exact absurd h (by decide +kernel)
theorem kept_rho (t : ByteArray) : keptB (reName t) = keptB t := by
 cases hA : t.toList == bA.toList with
 | false => rw [rho_same hA]
 | true =>
  have h1 : keptB t = false := by
   cases hk : keptB t with
   | false => rfl
   | true => rw [kept_notA hk] at hA; cases hA
  rw [h1]
  unfold reName
  rw [hA, if_pos rfl]
  decide +kernel
structure SR (s s' : CSt) : Prop where
 fs : s'.fs.map (·.2.2) = s.fs.map (·.2.2)
 gl : s'.gl = s.gl.map reName
 sl : s'.sl = s.sl
 cs : s'.cs = s.cs
 lo : s'.lo = s.lo.map reName
 lp : s'.lp = s.lp
 ngl : NZ s.gl
 nlo : NZ s.lo
theorem SR.fsl {s s' : CSt} (h : SR s s') : s'.fs.length = s.fs.length := by have := congrArg List.length h.fs; simpa using this
theorem few_any {a a' c m : Int} {u : Unit} (h : fewC a c m = .ok u) : fewC a' c m = .ok u := by
 unfold fewC at h ⊢
 split at h
 ·cases h
 ·rw [if_neg (by assumption)]
theorem NZ.app {l m : List ByteArray} (h : NZ l) (h' : NZ m) : NZ (l ++ m) := fun x hx => (List.mem_append.1 hx).elim (h x) (h' x)
theorem thOkR {α β ε : Type} (a : α) (f : α → PR β ε) : (PR.ok a : PR α ε).th f = f a := rfl
theorem addG_rho {gl : List ByteArray} {t : ByteArray} (hg : NZ gl) (ht : isZ t = false) : addG (gl.map reName) (reName t) = (addG gl t).map reName ∧ NZ (addG gl t) := by
 unfold addG
 rw [has_rho hg ht]
 split
 ·exact ⟨rfl, hg⟩
 ·exact ⟨by simp, hg.app fun x hx => by obtain rfl := List.mem_singleton.1 hx; exact ht⟩
theorem name_rho {a a' : Int} {t : ByteArray} {gl lo ab gl1 : List ByteArray} (hg : NZ gl) (hl : NZ lo) (hb : NZ ab) (ht : isZ t = false) (h : nameC a t gl lo ab = .ok gl1) : nameC a' (reName t) (gl.map reName) (lo.map reName) (ab.map reName) = .ok (gl1.map reName) ∧ NZ gl1 := by
 unfold nameC at h ⊢
 rw [kept_rho, has_rho hl ht, has_rho hb ht, (addG_rho hg ht).1]
 split at h
 ·cases h
 rw [if_neg (by assumption)]
 split at h
 ·cases h; rw [if_pos (by assumption)]; exact ⟨rfl, hg⟩
 rw [if_neg (by assumption)]
 split at h
 ·cases h
 ·cases h; rw [if_neg (by assumption)]; exact ⟨rfl, (addG_rho hg ht).2⟩
theorem const_any {a a' : Int} {cs cs1 : List V3} {v : V3} (h : constC a cs v = .ok cs1) : constC a' cs v = .ok cs1 := by
 unfold constC at h ⊢
 split at h
 ·rw [if_pos (by assumption)]; exact h
 ·rw [if_neg (by assumption)]
  obtain ⟨_, h1, h⟩ := th_ok h
  rw [few_any h1]
  exact h
theorem rn_name {x x' : Tree} (h : rnT x x') (h6 : x.kind = 6) : x'.text = reName x.text ∧ isZ x.text = false := by
 cases x; cases x'
 exact h.2.2.1 (.inl h6)
theorem names_rho : ∀ {l l' : List Tree} {lo lo1 : List ByteArray}, rnTs l l' → (∀ x ∈ l, x.kind = 6) → NZ lo → namesC lo l = .ok lo1 → namesC (lo.map reName) l' = .ok (lo1.map reName) ∧ NZ lo1
 | [], [], lo, lo1, _, _, hz, h => by cases h; exact ⟨rfl, hz⟩
 | x :: l, x' :: l', lo, lo1, hr, h6, hz, h => by
  obtain ⟨ht, hn⟩ := rn_name hr.1 (h6 x (List.mem_cons_self ..))
  unfold namesC at h ⊢
  rw [ht, kept_rho]
  split at h
  ·cases h
  ·rw [if_neg (by assumption)]
   have := names_rho hr.2 (fun y hy => h6 y (List.mem_cons_of_mem _ hy)) (hz.app (m := [x.text]) fun y hy => by obtain rfl := List.mem_singleton.1 hy; exact hn) h
   rw [List.map_append] at this
   exact this
theorem bring_rho {a a' sl : Int} {lo : List ByteArray} {l l' : List Tree} {r : Int × List ByteArray} (hr : rnTs l l') (h6 : ∀ x ∈ l, x.kind = 6) (hz : NZ lo) (h : bringC a sl lo l = .ok r) : bringC a' sl (lo.map reName) l' = .ok (r.1, r.2.map reName) ∧ NZ r.2 := by
 unfold bringC at h ⊢
 obtain ⟨lo1, h1, h⟩ := th_ok h
 obtain ⟨_, h2, h⟩ := th_ok h
 cases h
 have := names_rho hr h6 hz h1
 rw [this.1, thOkR, List.length_map, few_any h2, thOkR]
 exact ⟨rfl, this.2⟩
theorem rnTs_take : ∀ {l l' : List Tree} (i : Nat), rnTs l l' → rnTs (l.take i) (l'.take i)
 | _, _, 0, _ => by simp [rnTs]
 | [], [], _ + 1, _ => trivial
 | _ :: _, _ :: _, i + 1, h => ⟨h.1, rnTs_take i h.2⟩
theorem rnTs_drop : ∀ {l l' : List Tree} (i : Nat), rnTs l l' → rnTs (l.drop i) (l'.drop i)
 | _, _, 0, h => by simpa using h
 | [], [], _ + 1, _ => trivial
 | _ :: _, _ :: _, i + 1, h => rnTs_drop i h.2
theorem rn_tNo : rnT tNo tNo := rnk (by decide) trivial
theorem rnTs_kid : ∀ {l l' : List Tree} (i : Nat), rnTs l l' → rnT (kidC l i) (kidC l' i)
 | [], [], _, _ => rn_tNo
 | _ :: _, _ :: _, 0, h => h.1
 | _ :: _, _ :: _, i + 1, h => by
  have := rnTs_kid i h.2
  unfold kidC at this ⊢
  simpa using this
def CR (f f' : CSt → Tree → PC CSt) (x x' : Tree) : Prop := ∀ s s' s1, SR s s' → f s x = .ok s1 → ∃ s1', f' s' x' = .ok s1' ∧ SR s1 s1'
theorem nodes_rho {f f' : CSt → Tree → PC CSt} : ∀ {l l' : List Tree} {s s' s1 : CSt}, (∀ x x', rnT x x' → CR f f' x x') → rnTs l l' → SR s s' → nodesC f s l = .ok s1 → ∃ s1', nodesC f' s' l' = .ok s1' ∧ SR s1 s1'
 | [], [], s, s', s1, _, _, hs, h => by cases h; exact ⟨s', rfl, hs⟩
 | x :: l, x' :: l', s, s', s1, hf, hr, hs, h => by
  unfold nodesC at h ⊢
  obtain ⟨s2, h2, h⟩ := th_ok h
  obtain ⟨s2', h2', hs2⟩ := hf x x' hr.1 _ _ _ hs h2
  rw [h2']
  exact nodes_rho hf hr.2 hs2 h
theorem asg_rho {f f' : CSt → Tree → Bool → PC CSt} {n : Int} : ∀ {l l' : List Tree} {i : Nat} {s s' s1 : CSt}, (∀ b x x', rnT x x' → CR (fun s x => f s x b) (fun s x => f' s x b) x x') → rnTs l l' → SR s s' → asgC f n i s l = .ok s1 → ∃ s1', asgC f' n i s' l' = .ok s1' ∧ SR s1 s1'
 | [], [], _, s, s', s1, _, _, hs, h => by cases h; exact ⟨s', rfl, hs⟩
 | x :: l, x' :: l', i, s, s', s1, hf, hr, hs, h => by
  unfold asgC at h ⊢
  obtain ⟨s2, h2, h⟩ := th_ok h
  obtain ⟨s2', h2', hs2⟩ := hf _ x x' hr.1 _ _ _ hs h2
  have h2' : f' s' x' (decide ((i : Int) < n)) = .ok s2' := h2'
  rw [h2']
  exact asg_rho hf hr.2 hs2 h
theorem NZ.rep (n : Nat) : NZ (List.replicate n ⟨#[]⟩) := fun x hx => by
 rw [(List.mem_replicate.1 hx).2]
 decide +kernel
theorem rep_rho (n : Nat) : (List.replicate n (⟨#[]⟩ : ByteArray)).map reName = List.replicate n ⟨#[]⟩ := by
 rw [List.map_replicate, show reName ⟨#[]⟩ = ⟨#[]⟩ from rho_same (by decide +kernel)]
theorem NZ.take {l : List ByteArray} (h : NZ l) (n : Nat) : NZ (l.take n) := fun x hx => h x (List.mem_of_mem_take hx)
theorem SR.cut {s1 s1' : CSt} (h : SR s1 s1') (n : Nat) : SR { s1 with lo := s1.lo.take n } { s1' with lo := s1'.lo.take n } := ⟨h.fs, h.gl, h.sl, h.cs, by show s1'.lo.take n = (s1.lo.take n).map reName; rw [h.lo, List.map_take], h.lp, h.ngl, h.nlo.take n⟩
theorem loop_rho {f f' : CSt → Tree → PC CSt} {a a' : Int} {s s' s1 : CSt} {l l' : List Tree} {b b' : Tree} {more : Nat} (hf : CR f f' b b') (hr : rnTs l l') (h6 : ∀ x ∈ l, x.kind = 6) (hs : SR s s') (h : loopC f a s l b more = .ok s1) : ∃ s1', loopC f' a' s' l' b' more = .ok s1' ∧ SR s1 s1' := by
 unfold loopC at h ⊢
 obtain ⟨r, h1, h⟩ := th_ok h
 obtain ⟨s2, h2, h⟩ := th_ok h
 cases h
 have h1' : (if more > 0 then bringC a' s'.sl (s'.lo ++ List.replicate more ⟨#[]⟩) l' else .ok (s'.sl, s'.lo)) = .ok (r.1, r.2.map reName) ∧ NZ r.2 := by
  split at h1
  ·rw [if_pos (by assumption), hs.sl, hs.lo]
   have := bring_rho (a' := a') hr h6 (hs.nlo.app (NZ.rep more)) h1
   rw [List.map_append, rep_rho] at this
   exact this
  ·cases h1
   rw [if_neg (by assumption), hs.sl, hs.lo]
   exact ⟨rfl, hs.nlo⟩
 rw [h1'.1, thOkR]
 obtain ⟨s2', h2', hs2⟩ := hf { s with sl := r.1, lo := r.2, lp := s.lp + 1 } { s' with sl := r.1, lo := r.2.map reName, lp := s'.lp + 1 } s2 ⟨hs.fs, hs.gl, rfl, hs.cs, rfl, by show s'.lp + 1 = s.lp + 1; rw [hs.lp], hs.ngl, h1'.2⟩ h2
 rw [h2', thOkR]
 refine ⟨_, rfl, hs2.fs, hs2.gl, hs2.sl, hs2.cs, ?_, ?_, hs2.ngl, hs2.nlo.take _⟩
 ·show s2'.lo.take s'.lo.length = (s2.lo.take s.lo.length).map reName
  rw [hs2.lo, hs.lo, List.length_map, List.map_take]
 ·show s2'.lp - 1 = s2.lp - 1
  rw [hs2.lp]
theorem exp_rho {f f' : CSt → List Tree → PC CSt} {ab : List ByteArray} {s s' s1 : CSt} {k n a a' : Int} {t t' : ByteArray} {l l' : List Tree} {tg : Bool} (hf : ∀ s s' s1, SR s s' → f s l = .ok s1 → ∃ s1', f' s' l' = .ok s1' ∧ SR s1 s1') (hab : NZ ab) (ht6 : k = 6 → t' = reName t ∧ isZ t = false) (ht : k = 5 → t' = t) (hr : rnTs l l') (hs : SR s s') (h : expC f ab s k t n a l tg = .ok s1) : ∃ s1', expC f' (ab.map reName) s' k t' n a' l' tg = .ok s1' ∧ SR s1 s1' := by
 unfold expC at h ⊢
 rw [rnTs_len hr]
 split at h
 ·rw [if_pos (by assumption)]
  obtain ⟨_, h1, h⟩ := th_ok h
  rw [few_any h1]; exact hf _ _ _ hs h
 rw [if_neg (by assumption)]
 split at h
 ·rw [if_pos (by assumption)]
  obtain ⟨_, h1, h⟩ := th_ok h
  rw [few_any h1]; exact hf _ _ _ hs h
 rw [if_neg (by assumption)]
 split at h
 ·rw [if_pos (by assumption)]
  obtain ⟨_, h1, h⟩ := th_ok h
  rw [few_any h1]; exact hf _ _ _ hs h
 rw [if_neg (by assumption)]
 split at h
 ·rw [if_pos (by assumption)]
  obtain ⟨cs, h1, h⟩ := th_ok h
  rw [hs.cs, const_any h1]
  exact hf { s with cs := cs } { s' with cs := cs } _ ⟨hs.fs, hs.gl, hs.sl, rfl, hs.lo, hs.lp, hs.ngl, hs.nlo⟩ h
 rw [if_neg (by assumption)]
 split at h
 ·rename_i h5
  rw [if_pos h5]
  obtain ⟨cs, h1, h⟩ := th_ok h
  rw [hs.cs, ht h5, const_any h1]
  exact hf { s with cs := cs } { s' with cs := cs } _ ⟨hs.fs, hs.gl, hs.sl, rfl, hs.lo, hs.lp, hs.ngl, hs.nlo⟩ h
 rw [if_neg (by assumption)]
 split at h
 ·rename_i h6
  rw [if_pos h6]
  obtain ⟨gl, h1, h⟩ := th_ok h
  have := name_rho (a' := a') hs.ngl hs.nlo hab (ht6 h6).2 h1
  have e : nameC a' t' s'.gl s'.lo (ab.map reName) = .ok (gl.map reName) := by rw [hs.gl, hs.lo, (ht6 h6).1]; exact this.1
  rw [e]
  exact hf { s with gl := gl } { s' with gl := gl.map reName } _ ⟨hs.fs, rfl, hs.sl, hs.cs, hs.lo, hs.lp, this.2, hs.nlo⟩ h
 rw [if_neg (by assumption)]
 have r0 := rnTs_kid 0 hr
 have r1 := rnTs_kid 1 hr
 have hk6 : (kidC l' 0).kind = (kidC l 0).kind := rnT_kind r0
 split at h
 ·rename_i h7
  have hx := (rn_name r0 h7.2.1).1
  have he : (kidC l' 0).text = (kidC l 0).text := by rw [hx, rho_same (kept_notA h7.2.2)]
  rw [if_pos ⟨h7.1, by rw [hk6]; exact h7.2.1, by rw [he]; exact h7.2.2⟩]
  have hb : badKeyC tg (kidC l' 0) (kidC l' 1) = badKeyC tg (kidC l 0) (kidC l 1) := by
   unfold badKeyC
   rw [he, rnT_kind r1]
   by_cases h5 : (kidC l 1).kind = 5
   ·have : (kidC l' 1).text = (kidC l 1).text := by
     cases hq : kidC l 1 with
     | mk k1 t1 n1 a1 l1 =>
      cases hq' : kidC l' 1 with
      | mk k2 t2 n2 a2 l2 =>
       rw [hq, hq'] at r1
       rw [hq] at h5
       have h5 : k1 = 5 := h5
       exact r1.2.2.2.1 ⟨by omega, by omega⟩
    rw [this]
   ·have : ((kidC l 1).kind != 5) = true := by simp [h5]
    rw [this]
    rfl
  rw [hb]
  split at h
  ·cases h
  ·cases h
   rw [if_neg (by assumption)]
   exact ⟨s', rfl, hs⟩
 ·rename_i h7
  rw [if_neg]
  ·exact hf _ _ _ hs h
  ·intro h8
   have h6 : (kidC l 0).kind = 6 := by rw [← hk6]; exact h8.2.1
   refine h7 ⟨h8.1, h6, ?_⟩
   have := h8.2.2
   rw [(rn_name r0 h6).1, kept_rho] at this
   exact this
theorem node_rho : ∀ {d : Nat} {ab : List ByteArray} {t t' : Tree} {tg : Bool}, NZ ab → rnT t t' → CR (fun s x => nodeC d ab s x tg) (fun s x => nodeC d (ab.map reName) s x tg) t t'
 | 0, _, _, _, _, _, _ => fun s s' s1 hs h => by
  have h : nodeC 0 _ s _ _ = .ok s1 := h
  unfold nodeC at h; cases h
 | d + 1, ab, .mk k t n a l, .mk k' t' n' a' l', tg, hab, hrn => fun s s' s1 hs h => by
  obtain ⟨hk0, hn0, h6, ht, hl, hm⟩ := hrn
  subst hk0 hn0
  have hI : ∀ {ab}, NZ ab → ∀ x x', rnT x x' → CR (fun s x => nodeC d ab s x false) (fun s x => nodeC d (ab.map reName) s x false) x x' := fun hab x x' hx => node_rho hab hx
  have h : nodeC (d + 1) ab s (.mk k' t n' a l) tg = .ok s1 := h
  show ∃ s1', nodeC (d + 1) (ab.map reName) s' (.mk k' t' n' a' l') tg = .ok s1' ∧ SR s1 s1'
  unfold nodeC at h ⊢
  rw [rnTs_len hl]
  split at h
  ·rw [if_pos (by assumption)]
   obtain ⟨s2, h2, h⟩ := th_ok h
   cases h
   obtain ⟨s2', h2', hs2⟩ := nodes_rho (hI hab) hl hs h2
   rw [h2', thOkR, hs.lo, List.length_map]
   exact ⟨_, rfl, hs2.cut _⟩
  rw [if_neg (by assumption)]
  split at h
  ·rename_i hk
   rw [if_pos hk]
   obtain ⟨et, ez⟩ := h6 (.inr hk)
   obtain ⟨_, h1, h⟩ := th_ok h
   rw [hs.fsl, few_any h1, thOkR, et, kept_rho]
   split at h
   ·cases h
   rw [if_neg (by assumption)]
   obtain ⟨_, h1, h⟩ := th_ok h
   rw [few_any h1, thOkR]
   obtain ⟨r, h1, h⟩ := th_ok h
   have hb := bring_rho (a' := a') (rnTs_take n'.toNat hl) (hm.1 (.inr (.inr hk))) (fun x hx => absurd hx List.not_mem_nil) h1
   simp only [List.map_nil] at hb
   rw [hb.1, thOkR]
   obtain ⟨s2, h2, h⟩ := th_ok h
   cases h
   have hg := addG_rho hs.ngl ez
   obtain ⟨s2', h2', hs2⟩ := hI hs.nlo _ _ (rnTs_kid n'.toNat hl) ⟨s.fs, addG s.gl t, r.1, [], r.2, 0⟩ ⟨s'.fs, addG s'.gl (reName t), r.1, [], r.2.map reName, 0⟩ s2 ⟨hs.fs, by show addG s'.gl (reName t) = _; rw [hs.gl]; exact hg.1, rfl, rfl, rfl, rfl, hg.2, hb.2⟩ h2
   have h2' : nodeC d (s.lo.map reName) ⟨s'.fs, addG s'.gl (reName t), r.1, [], r.2.map reName, 0⟩ (kidC l' n'.toNat) false = .ok s2' := h2'
   rw [hs.lo, h2', thOkR]
   refine ⟨_, rfl, ?_, hs2.gl, hs.sl, hs.cs, rfl, hs.lp, hs2.ngl, hs.nlo⟩
   show (s2'.fs ++ [(reName t, a', n', s2'.sl, s2'.cs)]).map (·.2.2) = (s2.fs ++ [(t, a, n', s2.sl, s2.cs)]).map (·.2.2)
   rw [List.map_append, List.map_append, hs2.fs, hs2.sl, hs2.cs]
   rfl
  rw [if_neg (by assumption)]
  split at h
  ·rename_i hk
   rw [if_pos hk]
   obtain ⟨_, h1, h⟩ := th_ok h
   rw [few_any h1, thOkR]
   obtain ⟨_, h1, h⟩ := th_ok h
   rw [few_any h1, thOkR]
   obtain ⟨s2, h2, h⟩ := th_ok h
   obtain ⟨s2', h2', hs2⟩ := nodes_rho (hI hab) (rnTs_drop n'.toNat hl) hs h2
   rw [h2', thOkR]
   obtain ⟨r, h3, h⟩ := th_ok h
   cases h
   have hb := bring_rho (a' := a') (rnTs_take n'.toNat hl) (hm.1 (.inl hk)) hs2.nlo h3
   rw [hs2.sl, hs2.lo, hb.1, thOkR]
   exact ⟨_, rfl, hs2.fs, hs2.gl, rfl, hs2.cs, rfl, hs2.lp, hs2.ngl, hb.2⟩
  rw [if_neg (by assumption)]
  split at h
  ·rw [if_pos (by assumption)]
   obtain ⟨_, h1, h⟩ := th_ok h
   rw [few_any h1, thOkR]
   obtain ⟨_, h1, h⟩ := th_ok h
   rw [few_any h1, thOkR]
   exact asg_rho (fun b x x' hx => node_rho hab hx) hl hs h
  rw [if_neg (by assumption)]
  split at h
  ·rw [if_pos (by assumption)]
   obtain ⟨s2, h2, h⟩ := th_ok h
   obtain ⟨s2', h2', hs2⟩ := hI hab _ _ (rnTs_kid 0 hl) _ _ _ hs h2
   have h2' : nodeC d (ab.map reName) s' (kidC l' 0) false = .ok s2' := h2'
   rw [h2', thOkR]
   exact loop_rho (hI hab _ _ (rnTs_kid 1 hl)) (l := []) (l' := []) trivial (fun x hx => absurd hx List.not_mem_nil) hs2 h
  rw [if_neg (by assumption)]
  split at h
  ·rename_i hk
   rw [if_pos hk]
   obtain ⟨s2, h2, h⟩ := th_ok h
   obtain ⟨s2', h2', hs2⟩ := nodes_rho (hI hab) (rnTs_take _ (rnTs_drop 1 hl)) hs h2
   rw [h2', thOkR]
   exact loop_rho (hI hab _ _ (rnTs_kid _ hl)) (rnTs_take 1 hl) (hm.2 hk) hs2 h
  rw [if_neg (by assumption)]
  split at h
  ·rename_i hk
   rw [if_pos hk]
   obtain ⟨_, h1, h⟩ := th_ok h
   rw [few_any h1, thOkR]
   obtain ⟨_, h1, h⟩ := th_ok h
   rw [few_any h1, thOkR]
   obtain ⟨s2, h2, h⟩ := th_ok h
   obtain ⟨s2', h2', hs2⟩ := nodes_rho (hI hab) (rnTs_take _ (rnTs_drop _ hl)) hs h2
   rw [h2', thOkR]
   exact loop_rho (hI hab _ _ (rnTs_kid _ hl)) (rnTs_take _ hl) (hm.1 (.inr (.inl hk))) hs2 h
  rw [if_neg (by assumption)]
  split at h
  ·rw [if_pos (by assumption), hs.lp]
   split at h
   ·cases h
   ·cases h
    rw [if_neg (by assumption)]
    exact ⟨s', rfl, hs⟩
  rw [if_neg (by assumption)]
  exact exp_rho (fun s s' s1 hs h => nodes_rho (hI hab) hl hs h) hab (fun hk => h6 (.inl hk)) (fun hk => ht ⟨by omega, by omega⟩) hl hs h
mutual
theorem rn_ht : ∀ {t t' : Tree}, rnT t t' → htT t' = htT t
 | .mk _ _ _ _ _, .mk _ _ _ _ _, h => by simp only [htT, rns_ht h.2.2.2.2.1]
theorem rns_ht : ∀ {l l' : List Tree}, rnTs l l' → htTs l' = htTs l
 | [], [], _ => rfl
 | _ :: _, _ :: _, h => by simp only [htTs, rn_ht h.1, rns_ht h.2]
end
end Go.Proofs.YtdkgnlaneccioaaGreatDoor
namespace Go.Proofs.YtdkgnlaneccioaaGreatDoor
open Go Go.RowKit
section
variable {A : World} {ds : List Deferred} {n0 : Nat} {env env' : Env} {l l' X : List Frag} {q : Act → World → Prop} {P : Program} {Q : Exit → Act → World → Prop} {ops : Array Oper} {os rest : List Oper} {o : Oper}
variable {S : World → Prop} {tail : Act → World → Prop} {pl : List (Oper × Nat)}
theorem kp_eqS {bo : BinOp} {t t2 : TypeId} {xs ys : Array Value} {r : Bool} {x y : Operand} (neg : Bool) (hb : (match bo, neg with | .eql, false => true | .neq, true => true | _, _ => false) = true) (ho : o.op = .binOp bo t x y t2) (hg : wantE ops env o = some true) (hd : inB n0 o.dst = true) (hx : evalE env x = some (.agg xs)) (hy : evalE env y = some (.agg ys))
  (hp : P.stoodInHeld t = false) (hm : P.eqGuardType P.depth t = false) (hf : ((fieldsP P t).bind (eqF P xs ys)) = some r) (h : K ds A n0 (putE env o.dst (.bool (cond neg (!r) r))) l (wpPlan P ops Q S tail pl)) : K ds A n0 env l (wpPlan P ops Q S tail ((o, 0) :: pl)) := by
 intro a' w ha hw
 refine plan_pure (v := .bool (cond neg (!r) r)) (wantE_spec ha hg) (fun w' => ?_) (h _ _ (ha.putE _ hd) hw)
 have h1 := run_eqS (P := P) (ty := 0) (x := x) (y := y) hf hp hm w'
 have h2 : ∀ bo, (eqGuard bo t x y (.agg xs) (.agg ys)).run P w' = .ok () w' := fun bo => run_eqGuard_agg w' bo t x y xs ys hm
 unfold execOp
 simp only [ho, ha.eval hx, ha.eval hy, Sem.run_bind, h2, Result.andThen_ok]
 split at hb
 ·simp only [binOp, Sem.run_bind, h1, Result.andThen_ok, Sem.run_pure]
  rfl
 ·simp only [binOp, Sem.run_bind, h1, Result.andThen_ok, Sem.run_pure]
  rfl
 ·cases hb
end
end Go.Proofs.YtdkgnlaneccioaaGreatDoor
namespace Go.Proofs.YtdkgnlaneccioaaGreatDoor
open Go Go.RowKit
def r03_I.f (_k : Nat) (a0 : Int) : Option (Int × Int × ByteArray) := some ((2 : Int), a0, (⟨#[]⟩ : ByteArray))
set_option maxRecDepth 100000 in
theorem r03_I.ok {k : Nat} {a0 : Int} {r : Int × Int × ByteArray} (h : r03_I.f k a0 = some r) : Ct Tryz.prog 22 #[.int .i64 a0] [] [] (fun e l1 => e = .returned (.agg #[.int .i64 r.1, .int .i64 r.2.1, .string r.2.2]) ∧ l1 = []) := by
 refine ct_enter (args := [.int .i64 a0]) Tryz.func22 rfl (Nat.le_of_ble_eq_true rfl) ?_
 intro A X hh_
 unfold r03_I.f at h
 refine k_seq ?_
 refine k_region ?_
 refine kl_new (.cells #[.int .i64 (0 : Int), .int .i64 (0 : Int), .string (⟨#[]⟩ : ByteArray)] 53 (0, 0)) (fun b => .pointer (some ⟨b, 0, none⟩)) (by kernel_rfl) (by kernel_rfl) (fun _ => by kernel_rfl) fun b1 => ?_
 refine k_nil ?_
 refine k_then ?_
 refine k_seq ?_
 refine k_region ?_
 refine kl_steps 2 [(2, .pointer (some ⟨b1, 0, none⟩)), (4, .agg #[.int .i64 (2 : Int), .int .i64 a0, .string (⟨#[]⟩ : ByteArray)])] (by kernel_rfl) ?_
 refine kl_store (cs' := #[.int .i64 (2 : Int), .int .i64 a0, .string (⟨#[]⟩ : ByteArray)]) [.st ⟨b1, 0, none⟩ (.int .i64 (2 : Int)), .st ⟨b1, 1, none⟩ (.int .i64 a0), .st ⟨b1, 2, none⟩ (.string (⟨#[]⟩ : ByteArray))] (by kernel_rfl) (by kernel_rfl) (by kernel_rfl) ⟨rfl, rfl, rfl, trivial⟩ (by kernel_rfl) ?_
 refine k_nil ?_
 refine k_then ?_
 refine k_ret ?_
 obtain rfl := Option.some.inj h
 refine k_done (v := .agg #[.int .i64 (2 : Int), .int .i64 a0, .string (⟨#[]⟩ : ByteArray)]) [.val (.int .i64 (2 : Int)), .val (.int .i64 a0), .val (.string (⟨#[]⟩ : ByteArray))] [.ld ⟨b1, 0, none⟩ (.int .i64 (2 : Int)), .ld ⟨b1, 1, none⟩ (.int .i64 a0), .ld ⟨b1, 2, none⟩ (.string (⟨#[]⟩ : ByteArray))] [] (by kernel_rfl) (by kernel_rfl) ⟨⟨0, _, _, _, rfl, rfl, rfl⟩, ⟨0, _, _, _, rfl, rfl, rfl⟩, ⟨0, _, _, _, rfl, rfl, rfl⟩, trivial⟩ ?_
 refine K.drop ?_
 exact k_end ⟨rfl, rfl⟩
def law13_t2.f (k : Nat) (a0 : List (Int × Int × ByteArray)) : Option (Bool) := (cond (((a0.length : Nat) : Int) == (2 : Int)) ((lIdx a0 (0 : Int)).bind fun x3 => (r03_I.f k (1 : Int)).bind fun r7 => cond ((x3.1 == r7.1) && ((x3.2.1 == r7.2.1) && ((x3.2.2.toList == r7.2.2.toList) && true))) ((lIdx a0 (1 : Int)).bind fun x9 => (r03_I.f k (2 : Int)).bind fun r13 => some ((x9.1 == r13.1) && ((x9.2.1 == r13.2.1) && ((x9.2.2.toList == r13.2.2.toList) && true)))) (some false)) (some false) : Option Bool).bind fun q1 => some (q1)
set_option maxRecDepth 100000 in
theorem law13_t2.ok {k : Nat} {a0 : List (Int × Int × ByteArray)} {H_a0 : Frag} {A_a0 : Option Addr} {c_a0 : Nat} {r : Bool} (h : law13_t2.f k a0 = some r) (R_a0 : RdT e53 3 H_a0 (.slice A_a0 a0.length c_a0) a0) : Ct Tryz.prog 20 #[.slice A_a0 a0.length c_a0] [] [H_a0] (fun e l1 => e = .returned (.bool r) ∧ l1 = []) := by
 refine ct_enter (args := [.slice A_a0 a0.length c_a0]) Tryz.func20 rfl (Nat.le_of_ble_eq_true rfl) ?_
 intro A X hh_
 obtain ⟨hm_H_a0, _⟩ := hh_
 unfold law13_t2.f at h
 refine k_seq ?_
 refine k_region ?_
 refine kl_steps 1 [(0, .slice A_a0 a0.length c_a0)] (by kernel_rfl) ?_
 refine k_nil ?_
 refine k_then ?_
 obtain ⟨q1, hq1, h⟩ := bindSome h
 refine k_cut1 [(2, .bool q1)] (X) ?_ ?_
 ·clear hq1
  refine k_ret ?_
  obtain rfl := Option.some.inj h
  refine k_done (v := .bool q1) [] [] [] (by kernel_rfl) (by kernel_rfl) trivial ?_
  exact k_end ⟨rfl, rfl⟩
 ·have h := hq1
  clear hq1
  refine k_region_plan [(0, 0), (1, 0), (2, 0), (3, 0), (4, 0), (5, 0), (6, 3), (7, 1), (8, 0), (9, 0), (10, 0), (11, 0), (12, 0), (13, 3), (14, 1)] (fun w => OnAll [H_a0] w) (by kernel_rfl) (by kernel_rfl) (fun _ _ d _ _ h => by cases d <;> exact h) (fun w h_ => ⟨h_.sat.on _ hm_H_a0, trivial⟩) ?_
  simp only [planOps, List.filterMap_cons, List.filterMap_nil, List.getElem?_toArray, List.getElem?_cons_zero, List.getElem?_cons_succ, Option.map_some, List.drop_succ_cons, List.drop_zero, List.length_cons, List.length_nil]
  refine kp_steps 4 [(0, .slice A_a0 a0.length c_a0), (6, .bool (((a0.length : Nat) : Int) == (2 : Int)))] (by kernel_rfl) (by kernel_rfl) ?_
  rcases Bool.eq_false_or_eq_true ((((a0.length : Nat) : Int) == (2 : Int))) with t2 | t2
  ·have h := condT h t2
   refine K.weak (env' := [(0, .slice A_a0 a0.length c_a0), (6, .bool true)]) ?_ ⟨rfl, congrArg (fun b => some (Value.bool b)) t2, trivial⟩
   refine kp_steps 1 [(0, .slice A_a0 a0.length c_a0), (6, .bool true), (7, .slice A_a0 a0.length c_a0)] (by kernel_rfl) (by kernel_rfl) ?_
   obtain ⟨x3, hx3, h⟩ := bindSome h
   refine kp_elemP (T := 53) (kd := .i64) e53_ok rfl (by kernel_rfl) (by kernel_rfl) (by kernel_rfl) (by kernel_rfl) (by kernel_rfl) (by kernel_rfl) hx3 R_a0 fun p4 e5 y6 => ?_
   have e5 : Elem _ p4 [.int .i64 x3.1, .int .i64 x3.2.1, .string x3.2.2] := e5
   refine kp_eloadN rfl (by kernel_rfl) (by kernel_rfl) (by kernel_rfl) (by kernel_rfl) (by kernel_rfl) e5 (fun w h_ => h_.mem _ (.head _)) ?_
   refine kp_turn (by kernel_rfl) ?_
   obtain ⟨r7, hr7, h⟩ := bindSome h
   refine op_callv (by kernel_rfl) (by kernel_rfl) (r03_I.ok hr7) trivial ?_
   refine k_and (fun w h_ => ⟨h_.sat.on _ hm_H_a0, trivial⟩) ?_
   refine kp_eqS (r := ((x3.1 == r7.1) && ((x3.2.1 == r7.2.1) && ((x3.2.2.toList == r7.2.2.toList) && true)))) (xs := #[.int .i64 x3.1, .int .i64 x3.2.1, .string x3.2.2]) (ys := #[.int .i64 r7.1, .int .i64 r7.2.1, .string r7.2.2]) false (by kernel_rfl) rfl (by kernel_rfl) (by kernel_rfl) (by kernel_rfl) (by kernel_rfl) (by kernel_rfl) (by kernel_rfl) (by kernel_rfl) ?_
   refine kp_steps 2 [(0, .slice A_a0 a0.length c_a0), (13, .bool ((x3.1 == r7.1) && ((x3.2.1 == r7.2.1) && ((x3.2.2.toList == r7.2.2.toList) && true))))] (by kernel_rfl) (by kernel_rfl) ?_
   rcases Bool.eq_false_or_eq_true (((x3.1 == r7.1) && ((x3.2.1 == r7.2.1) && ((x3.2.2.toList == r7.2.2.toList) && true)))) with t8 | t8
   ·have h := condT h t8
    refine K.weak (env' := [(0, .slice A_a0 a0.length c_a0), (13, .bool true)]) ?_ ⟨rfl, congrArg (fun b => some (Value.bool b)) t8, trivial⟩
    refine kp_steps 1 [(13, .bool true), (14, .slice A_a0 a0.length c_a0)] (by kernel_rfl) (by kernel_rfl) ?_
    obtain ⟨x9, hx9, h⟩ := bindSome h
    refine kp_elemP (T := 53) (kd := .i64) e53_ok rfl (by kernel_rfl) (by kernel_rfl) (by kernel_rfl) (by kernel_rfl) (by kernel_rfl) (by kernel_rfl) hx9 R_a0 fun p10 e11 y12 => ?_
    have e11 : Elem _ p10 [.int .i64 x9.1, .int .i64 x9.2.1, .string x9.2.2] := e11
    refine kp_eloadN rfl (by kernel_rfl) (by kernel_rfl) (by kernel_rfl) (by kernel_rfl) (by kernel_rfl) e11 (fun w h_ => h_.mem _ (.head _)) ?_
    refine kp_turn (by kernel_rfl) ?_
    obtain ⟨r13, hr13, h⟩ := bindSome h
    refine op_callv (by kernel_rfl) (by kernel_rfl) (r03_I.ok hr13) trivial ?_
    refine k_and (fun w h_ => ⟨h_.sat.on _ hm_H_a0, trivial⟩) ?_
    refine kp_done ?_
    refine kl_eqS (r := ((x9.1 == r13.1) && ((x9.2.1 == r13.2.1) && ((x9.2.2.toList == r13.2.2.toList) && true)))) (xs := #[.int .i64 x9.1, .int .i64 x9.2.1, .string x9.2.2]) (ys := #[.int .i64 r13.1, .int .i64 r13.2.1, .string r13.2.2]) false (by kernel_rfl) rfl (by kernel_rfl) (by kernel_rfl) (by kernel_rfl) (by kernel_rfl) (by kernel_rfl) (by kernel_rfl) (by kernel_rfl) ?_
    refine kl_steps 2 [(2, .bool ((x9.1 == r13.1) && ((x9.2.1 == r13.2.1) && ((x9.2.2.toList == r13.2.2.toList) && true))))] (by kernel_rfl) ?_
    refine k_nil ?_
    refine k_then ?_
    exact k_meet1 ⟨congrArg (fun b => some (Value.bool b)) (Option.some.inj h), trivial⟩
   ·have h := condF h t8
    refine K.weak (env' := [(0, .slice A_a0 a0.length c_a0), (13, .bool false)]) ?_ ⟨rfl, congrArg (fun b => some (Value.bool b)) t8, trivial⟩
    refine kp_steps 2 [(13, .bool false), (15, undef)] (by kernel_rfl) (by kernel_rfl) ?_
    refine kp_skip3 (by kernel_rfl) (by kernel_rfl) ?_
    refine kp_skip1 (by kernel_rfl) (by kernel_rfl) ?_
    refine k_and (fun w h_ => ⟨h_.sat.on _ hm_H_a0, trivial⟩) ?_
    refine kp_done ?_
    refine kl_steps 3 [(2, .bool false)] (by kernel_rfl) ?_
    refine k_nil ?_
    refine k_then ?_
    exact k_meet1 ⟨congrArg (fun b => some (Value.bool b)) (Option.some.inj h), trivial⟩
  ·have h := condF h t2
   refine K.weak (env' := [(0, .slice A_a0 a0.length c_a0), (6, .bool false)]) ?_ ⟨rfl, congrArg (fun b => some (Value.bool b)) t2, trivial⟩
   refine kp_steps 2 [(0, .slice A_a0 a0.length c_a0), (6, .bool false), (8, undef)] (by kernel_rfl) (by kernel_rfl) ?_
   refine kp_skip3 (by kernel_rfl) (by kernel_rfl) ?_
   refine kp_skip1 (by kernel_rfl) (by kernel_rfl) ?_
   refine k_and (fun w h_ => ⟨h_.sat.on _ hm_H_a0, trivial⟩) ?_
   refine kp_steps 5 [(13, .bool false), (15, undef)] (by kernel_rfl) (by kernel_rfl) ?_
   refine kp_skip3 (by kernel_rfl) (by kernel_rfl) ?_
   refine kp_skip1 (by kernel_rfl) (by kernel_rfl) ?_
   refine k_and (fun w h_ => ⟨h_.sat.on _ hm_H_a0, trivial⟩) ?_
   refine kp_done ?_
   refine kl_steps 3 [(2, .bool false)] (by kernel_rfl) ?_
   refine k_nil ?_
   refine k_then ?_
   exact k_meet1 ⟨congrArg (fun b => some (Value.bool b)) (Option.some.inj h), trivial⟩
theorem ety79 : ElemTy Tryz.prog 79 5 1 1 Tryz.t5 (.int .u8 (0 : Int)) := ⟨by kernel_rfl, by kernel_rfl, by kernel_rfl, by kernel_rfl, by kernel_rfl, by kernel_rfl, by decide⟩
def r02_Format.l1 : Nat → (J7 : (List Int) → Option (ByteArray)) → (l59 : List Int) → (x64 : Int) → Option (ByteArray)
 | 0, _, _, _ => none
 | m65 + 1, J7, l59, x64 => cond (x64 != (0 : Int)) (joinF (fun (x67 : Int) => (apd 1 l59 [IntKind.u8.wrap (IntKind.i64.wrap ((48 : Int) + x67))]).bind fun l70 => r02_Format.l1 m65 J7 l70 (IntKind.i64.wrap (Int.tdiv x64 (10 : Int)))) (fun J68 => cond (decide ((Int.tmod x64 (10 : Int)) < (0 : Int))) (J68 (IntKind.i64.wrap (0 - (Int.tmod x64 (10 : Int))))) (J68 (Int.tmod x64 (10 : Int))))) (J7 l59)
def r02_Format.l0 : Nat → (J19 : (List Int) → Option (ByteArray)) → (l20 : List Int) → (x25 : Int) → Option (ByteArray)
 | 0, _, _, _ => none
 | m26 + 1, J19, l20, x25 => cond (decide (x25 < (IntKind.i64.wrap (Int.tdiv ((l20.length : Nat) : Int) (2 : Int))))) ((lIdx l20 (IntKind.i64.wrap ((IntKind.i64.wrap (((l20.length : Nat) : Int) - (1 : Int))) - x25))).bind fun x28 => (lIdx l20 x25).bind fun x32 => (lIdx l20 x25).bind fun x36 => (lSet l20 x25 x28).bind fun l40 => (lIdx l40 (IntKind.i64.wrap ((IntKind.i64.wrap (((l20.length : Nat) : Int) - (1 : Int))) - x25))).bind fun x44 => (lSet l40 (IntKind.i64.wrap ((IntKind.i64.wrap (((l20.length : Nat) : Int) - (1 : Int))) - x25)) x32).bind fun l48 => r02_Format.l0 m26 J19 l48 (IntKind.i64.wrap (x25 + (1 : Int)))) (J19 l20)
def r02_Format.f (k : Nat) (a0 : Int) : Option (ByteArray) := cond (a0 == (0 : Int)) (some ((⟨#[48]⟩ : ByteArray))) (joinF (fun (l2 : List Int) => joinF (fun (l8 : List Int) => joinF (fun (l14 : List Int) => some ((strOfNums l14))) (fun J19 => r02_Format.l0 k J19 l8 (0 : Int))) (fun J13 => cond (decide (a0 < (0 : Int))) ((apd 1 l2 [(45 : Int)]).bind fun l54 => J13 l54) (J13 l2))) (fun J7 => r02_Format.l1 k J7 ([]) a0))
set_option maxRecDepth 100000 in
theorem r02_Format.ok {k : Nat} {a0 : Int} {r : ByteArray} (h : r02_Format.f k a0 = some r) : Ct Tryz.prog 21 #[.int .i64 a0] [] [] (fun e l1 => e = .returned (.string r) ∧ l1 = []) := by
 refine ct_enter (args := [.int .i64 a0]) Tryz.func21 rfl (Nat.le_of_ble_eq_true rfl) ?_
 intro A X hh_
 unfold r02_Format.f at h
 refine k_seq ?_
 refine k_region ?_
 refine kl_steps 1 [(0, .int .i64 a0)] (by kernel_rfl) ?_
 refine k_nil ?_
 refine k_then ?_
 refine k_seq ?_
 refine k_seq ?_
 refine k_region ?_
 refine kl_steps 2 [(0, .int .i64 a0), (8, .bool (a0 == (0 : Int)))] (by kernel_rfl) ?_
 refine k_nil ?_
 refine k_then ?_
 refine k_cond (t := (a0 == (0 : Int))) (by kernel_rfl) (fun t1 => ?_) (fun t1 => ?_)
 ·have h := condT h t1
  refine k_seq ?_
  refine k_region ?_
  refine kl_steps 1 [(2, .string (⟨#[48]⟩ : ByteArray))] (by kernel_rfl) ?_
  refine k_nil ?_
  refine k_then ?_
  refine k_ret ?_
  refine k_then_ret ?_
  obtain rfl := Option.some.inj h
  refine k_done (v := .string (⟨#[48]⟩ : ByteArray)) [] [] [] (by kernel_rfl) (by kernel_rfl) trivial ?_
  exact k_end ⟨rfl, rfl⟩
 ·have h := condF h t1
  refine k_skip ?_
  refine k_then ?_
  refine k_seq ?_
  refine k_region ?_
  refine kl_steps 1 [(0, .int .i64 a0), (3, .slice none 0 0)] (by kernel_rfl) ?_
  refine k_nil ?_
  refine k_then ?_
  obtain ⟨J7, hJ7, h⟩ := joinSplit h
  refine k_cut (τ := (List Int) × Frag × (Option Addr) × Nat) (fun t => [(0, .int .i64 a0), (3, .slice t.2.2.1 t.1.length t.2.2.2)]) (fun t => t.2.1 :: X) (fun t => J7 t.1 = some r ∧ OwnT (encI .u8) 5 1 t.2.1 (.slice t.2.2.1 t.1.length t.2.2.2) t.1) ?_ ?_
  ·rintro ⟨l2, h3, A4, k5⟩ ⟨h, o6⟩
   subst hJ7
   obtain ⟨J13, hJ13, h⟩ := joinSplit h
   refine k_cut (τ := (List Int) × Frag × (Option Addr) × Nat) (fun t => [(3, .slice t.2.2.1 t.1.length t.2.2.2)]) (fun t => t.2.1 :: X) (fun t => J13 t.1 = some r ∧ OwnT (encI .u8) 5 1 t.2.1 (.slice t.2.2.1 t.1.length t.2.2.2) t.1) ?_ ?_
   ·rintro ⟨l8, h9, A10, k11⟩ ⟨h, o12⟩
    subst hJ13
    obtain ⟨J19, hJ19, h⟩ := joinSplit h
    refine k_cut (τ := (List Int) × Frag × (Option Addr) × Nat) (fun t => [(3, .slice t.2.2.1 t.1.length t.2.2.2)]) (fun t => t.2.1 :: X) (fun t => J19 t.1 = some r ∧ OwnT (encI .u8) 5 1 t.2.1 (.slice t.2.2.1 t.1.length t.2.2.2) t.1) ?_ ?_
    ·rintro ⟨l14, h15, A16, k17⟩ ⟨h, o18⟩
     subst hJ19
     refine k_seq ?_
     refine k_region ?_
     refine kl_steps 1 [(60, .slice A16 l14.length k17)] (by kernel_rfl) ?_
     refine kl_string (U := 5) (xs := l14) rfl (by kernel_rfl) (by kernel_rfl) (by kernel_rfl) (by kernel_rfl) (by kernel_rfl) (by kernel_rfl) (OwnT.rd o18) (.head _) ?_
     refine K.drop ?_
     refine kl_steps 1 [(2, .string (strOfNums l14))] (by kernel_rfl) ?_
     refine k_nil ?_
     refine k_then ?_
     refine k_ret ?_
     obtain rfl := Option.some.inj h
     refine k_done (v := .string (strOfNums l14)) [] [] [] (by kernel_rfl) (by kernel_rfl) trivial ?_
     exact k_end ⟨rfl, rfl⟩
    ·skip
     refine k_seq ?_
     refine k_region ?_
     refine kl_steps 1 [(3, .slice A10 l8.length k11), (6, .int .i64 (0 : Int))] (by kernel_rfl) ?_
     refine k_nil ?_
     refine k_then ?_
     refine k_block ?_
     refine k_loop (τ := (List Int) × Int × Frag × (Option Addr) × Nat) (fun t => [(3, .slice t.2.2.2.1 t.1.length t.2.2.2.2), (6, .int .i64 t.2.1)]) (fun t => t.2.2.1 :: X) (fun m t => r02_Format.l0 m J19 t.1 t.2.1 = some r ∧ OwnT (encI .u8) 5 1 t.2.2.1 (.slice t.2.2.2.1 t.1.length t.2.2.2.2) t.1) k (l8, (0 : Int), h9, A10, k11) ⟨h, o12⟩ ⟨rfl, rfl, trivial⟩ rfl ?_
     clear h
     rintro m26 ⟨l20, x25, h21, A22, k23⟩ ⟨h, o24⟩
     cases m26 with
     | zero => simp [r02_Format.l0] at h
     | succ m26 =>
      simp only [r02_Format.l0] at h
      refine k_seq ?_
      refine k_seq ?_
      refine k_region ?_
      refine kl_steps 5 [(3, .slice A22 l20.length k23), (6, .int .i64 x25), (35, .bool (decide (x25 < (IntKind.i64.wrap (Int.tdiv ((l20.length : Nat) : Int) (2 : Int))))))] (by kernel_rfl) ?_
      refine k_nil ?_
      refine k_then ?_
      refine k_cond (t := decide (x25 < (IntKind.i64.wrap (Int.tdiv ((l20.length : Nat) : Int) (2 : Int))))) (by kernel_rfl) (fun t27 => ?_) (fun t27 => ?_)
      ·have h := condT h t27
       refine k_skip ?_
       refine k_then ?_
       refine k_seq ?_
       refine k_block ?_
       refine k_region_plan [(0, 0), (1, 0), (2, 0), (3, 0), (4, 0), (5, 0), (6, 0), (7, 0), (8, 0), (9, 0), (10, 0), (11, 0), (12, 0), (13, 0), (14, 0), (15, 3), (16, 0), (17, 0), (18, 0), (19, 3)] (fun w => OnAll [h21] w) (by kernel_rfl) (by kernel_rfl) (fun _ _ d _ _ h => by cases d <;> exact h) (fun w h_ => ⟨h_.sat.on _ (.head _), trivial⟩) ?_
       simp only [planOps, List.filterMap_cons, List.filterMap_nil, List.getElem?_toArray, List.getElem?_cons_zero, List.getElem?_cons_succ, Option.map_some, List.drop_succ_cons, List.drop_zero, List.length_cons, List.length_nil]
       refine kp_steps 14 [(3, .slice A22 l20.length k23), (6, .int .i64 x25), (38, .slice A22 l20.length k23), (39, .int .i64 x25), (40, .slice A22 l20.length k23), (45, .int .i64 (IntKind.i64.wrap ((IntKind.i64.wrap (((l20.length : Nat) : Int) - (1 : Int))) - x25))), (46, .slice A22 l20.length k23), (51, .int .i64 (IntKind.i64.wrap ((IntKind.i64.wrap (((l20.length : Nat) : Int) - (1 : Int))) - x25)))] (by kernel_rfl) (by kernel_rfl) ?_
       obtain ⟨x28, hx28, h⟩ := bindSome h
       refine kp_elemP (T := 5) (kd := .i64) (encI_ok .u8) rfl (by kernel_rfl) (by kernel_rfl) (by kernel_rfl) (by kernel_rfl) (by kernel_rfl) (by kernel_rfl) hx28 (OwnT.rd o24) fun p29 e30 y31 => ?_
       have e30 : Elem _ p29 [.int .u8 x28] := e30
       refine kp_eload1 rfl (by kernel_rfl) (by kernel_rfl) (by kernel_rfl) (by kernel_rfl) e30 (fun w h_ => h_.mem _ (.head _)) ?_
       refine kp_steps 2 [(3, .slice A22 l20.length k23), (6, .int .i64 x25), (38, .slice A22 l20.length k23), (39, .int .i64 x25), (40, .slice A22 l20.length k23), (45, .int .i64 (IntKind.i64.wrap ((IntKind.i64.wrap (((l20.length : Nat) : Int) - (1 : Int))) - x25))), (53, .int .u8 x28), (54, .slice A22 l20.length k23), (55, .int .i64 x25)] (by kernel_rfl) (by kernel_rfl) ?_
       obtain ⟨x32, hx32, h⟩ := bindSome h
       refine kp_elemP (T := 5) (kd := .i64) (encI_ok .u8) rfl (by kernel_rfl) (by kernel_rfl) (by kernel_rfl) (by kernel_rfl) (by kernel_rfl) (by kernel_rfl) hx32 (OwnT.rd o24) fun p33 e34 y35 => ?_
       have e34 : Elem _ p33 [.int .u8 x32] := e34
       refine kp_eload1 rfl (by kernel_rfl) (by kernel_rfl) (by kernel_rfl) (by kernel_rfl) e34 (fun w h_ => h_.mem _ (.head _)) ?_
       refine kp_done ?_
       obtain ⟨x36, hx36, h⟩ := bindSome h
       refine kl_elemP (T := 5) (kd := .i64) (encI_ok .u8) rfl (by kernel_rfl) (by kernel_rfl) (by kernel_rfl) (by kernel_rfl) (by kernel_rfl) (by kernel_rfl) hx36 (OwnT.rd o24) fun p37 e38 y39 => ?_
       have e38 : Elem _ p37 [.int .u8 x36] := e38
       obtain ⟨l40, hl40, h⟩ := bindSome h
       refine kl_estore (v := .int .u8 x28) (off := 0) (x' := x28) (encI_ok .u8) rfl (by kernel_rfl) (by kernel_rfl) (by kernel_rfl) (by kernel_rfl) (by kernel_rfl) y39 o24 hx36 (by kernel_rfl) (by kernel_rfl) hl40 fun h41 o42 => ?_
       have g43 := lSet_len hl40
       refine K.weak (env' := [(3, .slice A22 l40.length k23), (6, .int .i64 x25), (40, .slice A22 l40.length k23), (45, .int .i64 (IntKind.i64.wrap ((IntKind.i64.wrap (((l20.length : Nat) : Int) - (1 : Int))) - x25))), (53, .int .u8 x28), (57, .int .u8 x32)]) ?_ ⟨(by first | rfl | (rw [g43]; rfl)), rfl, (by first | rfl | (rw [g43]; rfl)), rfl, rfl, rfl, trivial⟩
       refine K.eq (l' := h41 :: X) rfl (by first | rfl | (rw [g43])) ?_
       obtain ⟨x44, hx44, h⟩ := bindSome h
       refine kl_elemP (T := 5) (kd := .i64) (encI_ok .u8) rfl (by kernel_rfl) (by kernel_rfl) (by kernel_rfl) (by kernel_rfl) (by kernel_rfl) (by kernel_rfl) hx44 (OwnT.rd o42) fun p45 e46 y47 => ?_
       have e46 : Elem _ p45 [.int .u8 x44] := e46
       obtain ⟨l48, hl48, h⟩ := bindSome h
       refine kl_estore (v := .int .u8 x32) (off := 0) (x' := x32) (encI_ok .u8) rfl (by kernel_rfl) (by kernel_rfl) (by kernel_rfl) (by kernel_rfl) (by kernel_rfl) y47 o42 hx44 (by kernel_rfl) (by kernel_rfl) hl48 fun h49 o50 => ?_
       have g51 := lSet_len hl48
       refine K.weak (env' := [(3, .slice A22 l48.length k23), (6, .int .i64 x25), (57, .int .u8 x32)]) ?_ ⟨(by first | rfl | (rw [g51]; rfl)), rfl, rfl, trivial⟩
       refine K.eq (l' := h49 :: X) rfl (by first | rfl | (rw [g51])) ?_
       refine k_nil ?_
       refine k_blk ?_
       refine k_then ?_
       refine k_region ?_
       refine kl_steps 3 [(3, .slice A22 l48.length k23), (6, .int .i64 (IntKind.i64.wrap (x25 + (1 : Int))))] (by kernel_rfl) ?_
       refine k_nil ?_
       refine k_then ?_
       exact k_again m26 (l48, IntKind.i64.wrap (x25 + (1 : Int)), h49, A22, k23) (Nat.lt_succ_self _) ⟨h, o50⟩ ⟨rfl, rfl, trivial⟩ rfl
      ·have h := condF h t27
       refine k_exit ?_
       refine k_then_exit ?_
       refine k_then_exit ?_
       refine k_here ?_
       refine k_then ?_
       exact k_meet (l20, h21, A22, k23) ⟨h, o24⟩ ⟨rfl, trivial⟩ rfl
   ·skip
    refine k_seq ?_
    refine k_region ?_
    refine kl_steps 2 [(3, .slice A4 l2.length k5), (27, .bool (decide (a0 < (0 : Int))))] (by kernel_rfl) ?_
    refine k_nil ?_
    refine k_then ?_
    refine k_cond (t := decide (a0 < (0 : Int))) (by kernel_rfl) (fun t52 => ?_) (fun t52 => ?_)
    ·have h := condT h t52
     refine k_region ?_
     refine kl_steps 1 [(3, .slice A4 l2.length k5), (28, .slice A4 l2.length k5)] (by kernel_rfl) ?_
     refine kl_new (.cells #[.int .u8 (45 : Int)] 5 (0, 0)) (fun b => .slice (some ⟨b, 0, none⟩) 1 1) (by kernel_rfl) (by kernel_rfl) (fun _ => by kernel_rfl) fun b53 => ?_
     refine K.mv1 ?_
     obtain ⟨l54, hl54, h⟩ := bindSome h
     refine kl_apd (ys := [(45 : Int)]) (encI_ok .u8) rfl ety79 (by kernel_rfl) (by kernel_rfl) (by kernel_rfl) (by kernel_rfl) (by kernel_rfl) hl54 o6 (src_blk (n := 1) (encI_ok .u8) [(45 : Int)] (by kernel_rfl) rfl (by decide) 1 rfl) fun h55 A56 k57 o58 => ?_
     refine K.mv1 ?_
     refine K.drop ?_
     refine kl_steps 1 [(3, .slice A56 l54.length k57)] (by kernel_rfl) ?_
     refine k_nil ?_
     refine k_then ?_
     exact k_meet (l54, h55, A56, k57) ⟨h, o58⟩ ⟨rfl, trivial⟩ rfl
    ·have h := condF h t52
     refine k_skip ?_
     refine k_then ?_
     exact k_meet (l2, h3, A4, k5) ⟨h, o6⟩ ⟨rfl, trivial⟩ rfl
  ·skip
   refine k_seq ?_
   refine k_region ?_
   refine kl_steps 2 [(0, .int .i64 a0), (3, .slice none 0 0), (4, .int .i64 a0)] (by kernel_rfl) ?_
   refine k_nil ?_
   refine k_then ?_
   refine k_block ?_
   refine k_none ?_
   refine k_loop (τ := (List Int) × Int × Frag × (Option Addr) × Nat) (fun t => [(0, .int .i64 a0), (3, .slice t.2.2.2.1 t.1.length t.2.2.2.2), (4, .int .i64 t.2.1)]) (fun t => t.2.2.1 :: X) (fun m t => r02_Format.l1 m J7 t.1 t.2.1 = some r ∧ OwnT (encI .u8) 5 1 t.2.2.1 (.slice t.2.2.2.1 t.1.length t.2.2.2.2) t.1) k ([], a0, none_, none, 0) ⟨h, (OwnT.nil (encI .u8) 5 1 none_)⟩ ⟨rfl, rfl, rfl, trivial⟩ rfl ?_
   clear h
   rintro m65 ⟨l59, x64, h60, A61, k62⟩ ⟨h, o63⟩
   cases m65 with
   | zero => simp [r02_Format.l1] at h
   | succ m65 =>
    simp only [r02_Format.l1] at h
    refine k_seq ?_
    refine k_seq ?_
    refine k_region ?_
    refine kl_steps 2 [(0, .int .i64 a0), (3, .slice A61 l59.length k62), (4, .int .i64 x64), (11, .bool (x64 != (0 : Int)))] (by kernel_rfl) ?_
    refine k_nil ?_
    refine k_then ?_
    refine k_cond (t := (x64 != (0 : Int))) (by kernel_rfl) (fun t66 => ?_) (fun t66 => ?_)
    ·have h := condT h t66
     refine k_skip ?_
     refine k_then ?_
     refine k_seq ?_
     refine k_block ?_
     refine k_seq ?_
     refine k_region ?_
     refine kl_steps 3 [(0, .int .i64 a0), (3, .slice A61 l59.length k62), (4, .int .i64 x64), (5, .int .i64 (Int.tmod x64 (10 : Int)))] (by kernel_rfl) ?_
     refine k_nil ?_
     refine k_then ?_
     obtain ⟨J68, hJ68, h⟩ := joinSplit h
     refine k_cut (τ := Int) (fun t => [(0, .int .i64 a0), (3, .slice A61 l59.length k62), (4, .int .i64 x64), (5, .int .i64 t)]) (fun t => h60 :: X) (fun t => J68 t = some r) ?_ ?_
     ·rintro x67 h
      subst hJ68
      refine k_region ?_
      refine kl_steps 4 [(0, .int .i64 a0), (3, .slice A61 l59.length k62), (4, .int .i64 x64), (20, .slice A61 l59.length k62), (23, .int .u8 (IntKind.u8.wrap (IntKind.i64.wrap ((48 : Int) + x67))))] (by kernel_rfl) ?_
      refine kl_new (.cells #[.int .u8 (IntKind.u8.wrap (IntKind.i64.wrap ((48 : Int) + x67)))] 5 (0, 0)) (fun b => .slice (some ⟨b, 0, none⟩) 1 1) (by kernel_rfl) (by kernel_rfl) (fun _ => by kernel_rfl) fun b69 => ?_
      refine K.mv1 ?_
      obtain ⟨l70, hl70, h⟩ := bindSome h
      refine kl_apd (ys := [IntKind.u8.wrap (IntKind.i64.wrap ((48 : Int) + x67))]) (encI_ok .u8) rfl ety79 (by kernel_rfl) (by kernel_rfl) (by kernel_rfl) (by kernel_rfl) (by kernel_rfl) hl70 o63 (src_blk (n := 1) (encI_ok .u8) [IntKind.u8.wrap (IntKind.i64.wrap ((48 : Int) + x67))] (by kernel_rfl) rfl (by decide) 1 rfl) fun h71 A72 k73 o74 => ?_
      refine K.mv1 ?_
      refine K.drop ?_
      refine kl_steps 1 [(0, .int .i64 a0), (3, .slice A72 l70.length k73), (4, .int .i64 x64)] (by kernel_rfl) ?_
      refine k_nil ?_
      refine k_blk ?_
      refine k_then ?_
      refine k_region ?_
      refine kl_steps 3 [(0, .int .i64 a0), (3, .slice A72 l70.length k73), (4, .int .i64 (IntKind.i64.wrap (Int.tdiv x64 (10 : Int))))] (by kernel_rfl) ?_
      refine k_nil ?_
      refine k_then ?_
      exact k_again m65 (l70, IntKind.i64.wrap (Int.tdiv x64 (10 : Int)), h71, A72, k73) (Nat.lt_succ_self _) ⟨h, o74⟩ ⟨rfl, rfl, rfl, trivial⟩ rfl
     ·skip
      refine k_seq ?_
      refine k_region ?_
      refine kl_steps 2 [(0, .int .i64 a0), (3, .slice A61 l59.length k62), (4, .int .i64 x64), (5, .int .i64 (Int.tmod x64 (10 : Int))), (17, .bool (decide ((Int.tmod x64 (10 : Int)) < (0 : Int))))] (by kernel_rfl) ?_
      refine k_nil ?_
      refine k_then ?_
      refine k_cond (t := decide ((Int.tmod x64 (10 : Int)) < (0 : Int))) (by kernel_rfl) (fun t75 => ?_) (fun t75 => ?_)
      ·have h := condT h t75
       refine k_region ?_
       refine kl_steps 3 [(0, .int .i64 a0), (3, .slice A61 l59.length k62), (4, .int .i64 x64), (5, .int .i64 (IntKind.i64.wrap (0 - (Int.tmod x64 (10 : Int)))))] (by kernel_rfl) ?_
       refine k_nil ?_
       refine k_then ?_
       exact k_meet (IntKind.i64.wrap (0 - (Int.tmod x64 (10 : Int)))) h ⟨rfl, rfl, rfl, rfl, trivial⟩ rfl
      ·have h := condF h t75
       refine k_skip ?_
       refine k_then ?_
       exact k_meet (Int.tmod x64 (10 : Int)) h ⟨rfl, rfl, rfl, rfl, trivial⟩ rfl
    ·have h := condF h t66
     refine k_exit ?_
     refine k_then_exit ?_
     refine k_then_exit ?_
     refine k_here ?_
     refine k_then ?_
     exact k_meet (l59, h60, A61, k62) ⟨h, o63⟩ ⟨rfl, rfl, trivial⟩ rfl
def law13_many.l0 : Nat → (a0 : Int) → (a1 : ByteArray) → (J2 : ByteArray → Option (ByteArray)) → (x3 : ByteArray) → (x4 : Int) → Option (ByteArray)
 | 0, _, _, _, _, _ => none
 | m5 + 1, a0, a1, J2, x3, x4 => cond (decide (x4 < a0)) (joinF (fun (x7 : ByteArray) => (r02_Format.f m5 x4).bind fun r9 => (sCat a1 r9).bind fun s10 : ByteArray => (sCat x7 s10).bind fun s11 : ByteArray => law13_many.l0 m5 a0 a1 J2 s11 (IntKind.i64.wrap (x4 + (1 : Int)))) (fun J8 => cond (decide (x4 > (0 : Int))) ((sCat x3 (⟨#[44, 32]⟩ : ByteArray)).bind fun s13 : ByteArray => J8 s13) (J8 x3))) (J2 x3)
def law13_many.f (k : Nat) (a0 : Int) (a1 : ByteArray) : Option (ByteArray) := joinF (fun (x1 : ByteArray) => some (x1)) (fun J2 => law13_many.l0 k a0 a1 J2 (⟨#[]⟩ : ByteArray) (0 : Int))
set_option maxRecDepth 100000 in
theorem law13_many.ok {k : Nat} {a0 : Int} {a1 : ByteArray} {r : ByteArray} (h : law13_many.f k a0 a1 = some r) : Ct Tryz.prog 19 #[.int .i64 a0, .string a1] [] [] (fun e l1 => e = .returned (.string r) ∧ l1 = []) := by
 refine ct_enter (args := [.int .i64 a0, .string a1]) Tryz.func19 rfl (Nat.le_of_ble_eq_true rfl) ?_
 intro A X hh_
 unfold law13_many.f at h
 refine k_seq ?_
 refine k_region ?_
 refine kl_steps 1 [(0, .int .i64 a0), (1, .string a1)] (by kernel_rfl) ?_
 refine k_nil ?_
 refine k_then ?_
 refine k_seq ?_
 refine k_region ?_
 refine kl_steps 1 [(0, .int .i64 a0), (1, .string a1), (5, .string (⟨#[]⟩ : ByteArray))] (by kernel_rfl) ?_
 refine k_nil ?_
 refine k_then ?_
 obtain ⟨J2, hJ2, h⟩ := joinSplit h
 refine k_cut (τ := ByteArray) (fun t => [(5, .string t)]) (fun t => X) (fun t => J2 t = some r) ?_ ?_
 ·rintro x1 h
  subst hJ2
  refine k_seq ?_
  refine k_region ?_
  refine kl_steps 2 [(4, .string x1)] (by kernel_rfl) ?_
  refine k_nil ?_
  refine k_then ?_
  refine k_ret ?_
  obtain rfl := Option.some.inj h
  refine k_done (v := .string x1) [] [] [] (by kernel_rfl) (by kernel_rfl) trivial ?_
  exact k_end ⟨rfl, rfl⟩
 ·skip
  refine k_seq ?_
  refine k_region ?_
  refine kl_steps 1 [(0, .int .i64 a0), (1, .string a1), (5, .string (⟨#[]⟩ : ByteArray)), (6, .int .i64 (0 : Int))] (by kernel_rfl) ?_
  refine k_nil ?_
  refine k_then ?_
  refine k_block ?_
  refine k_loop (τ := ByteArray × Int) (fun t => [(0, .int .i64 a0), (1, .string a1), (5, .string t.1), (6, .int .i64 t.2)]) (fun t => X) (fun m t => law13_many.l0 m a0 a1 J2 t.1 t.2 = some r) k ((⟨#[]⟩ : ByteArray), (0 : Int)) h ⟨rfl, rfl, rfl, rfl, trivial⟩ rfl ?_
  clear h
  rintro m5 ⟨x3, x4⟩ h
  cases m5 with
  | zero => simp [law13_many.l0] at h
  | succ m5 =>
   simp only [law13_many.l0] at h
   refine k_seq ?_
   refine k_seq ?_
   refine k_region ?_
   refine kl_steps 3 [(0, .int .i64 a0), (1, .string a1), (5, .string x3), (6, .int .i64 x4), (9, .bool (decide (x4 < a0)))] (by kernel_rfl) ?_
   refine k_nil ?_
   refine k_then ?_
   refine k_cond (t := decide (x4 < a0)) (by kernel_rfl) (fun t6 => ?_) (fun t6 => ?_)
   ·have h := condT h t6
    refine k_skip ?_
    refine k_then ?_
    refine k_seq ?_
    refine k_block ?_
    obtain ⟨J8, hJ8, h⟩ := joinSplit h
    refine k_cut (τ := ByteArray) (fun t => [(0, .int .i64 a0), (1, .string a1), (5, .string t), (6, .int .i64 x4)]) (fun t => X) (fun t => J8 t = some r) ?_ ?_
    ·rintro x7 h
     subst hJ8
     refine k_region ?_
     refine kl_steps 3 [(0, .int .i64 a0), (1, .string a1), (5, .string x7), (6, .int .i64 x4), (16, .string x7), (17, .string a1), (18, .int .i64 x4)] (by kernel_rfl) ?_
     obtain ⟨r9, hr9, h⟩ := bindSome h
     refine kl_callv (by kernel_rfl) (by kernel_rfl) (by kernel_rfl) (r02_Format.ok hr9) trivial ?_
     obtain ⟨s10, hs10, h⟩ := bindSome h
     refine kl_cat rfl (by kernel_rfl) (by kernel_rfl) (by kernel_rfl) (by kernel_rfl) hs10 ?_
     obtain ⟨s11, hs11, h⟩ := bindSome h
     refine kl_cat rfl (by kernel_rfl) (by kernel_rfl) (by kernel_rfl) (by kernel_rfl) hs11 ?_
     refine kl_steps 1 [(0, .int .i64 a0), (1, .string a1), (5, .string s11), (6, .int .i64 x4)] (by kernel_rfl) ?_
     refine k_nil ?_
     refine k_blk ?_
     refine k_then ?_
     refine k_region ?_
     refine kl_steps 3 [(0, .int .i64 a0), (1, .string a1), (5, .string s11), (6, .int .i64 (IntKind.i64.wrap (x4 + (1 : Int))))] (by kernel_rfl) ?_
     refine k_nil ?_
     refine k_then ?_
     exact k_again m5 (s11, IntKind.i64.wrap (x4 + (1 : Int))) (Nat.lt_succ_self _) h ⟨rfl, rfl, rfl, rfl, trivial⟩ rfl
    ·skip
     refine k_seq ?_
     refine k_region ?_
     refine kl_steps 2 [(0, .int .i64 a0), (1, .string a1), (5, .string x3), (6, .int .i64 x4), (13, .bool (decide (x4 > (0 : Int))))] (by kernel_rfl) ?_
     refine k_nil ?_
     refine k_then ?_
     refine k_cond (t := decide (x4 > (0 : Int))) (by kernel_rfl) (fun t12 => ?_) (fun t12 => ?_)
     ·have h := condT h t12
      refine k_region ?_
      refine kl_steps 1 [(0, .int .i64 a0), (1, .string a1), (5, .string x3), (6, .int .i64 x4), (14, .string x3)] (by kernel_rfl) ?_
      obtain ⟨s13, hs13, h⟩ := bindSome h
      refine kl_cat rfl (by kernel_rfl) (by kernel_rfl) (by kernel_rfl) (by kernel_rfl) hs13 ?_
      refine kl_steps 1 [(0, .int .i64 a0), (1, .string a1), (5, .string s13), (6, .int .i64 x4)] (by kernel_rfl) ?_
      refine k_nil ?_
      refine k_then ?_
      exact k_meet s13 h ⟨rfl, rfl, rfl, rfl, trivial⟩ rfl
     ·have h := condF h t12
      refine k_skip ?_
      refine k_then ?_
      exact k_meet x3 h ⟨rfl, rfl, rfl, rfl, trivial⟩ rfl
   ·have h := condF h t6
    refine k_exit ?_
    refine k_then_exit ?_
    refine k_then_exit ?_
    refine k_here ?_
    refine k_then ?_
    exact k_meet x3 h ⟨rfl, trivial⟩ rfl
def law13_CheckLocals.f (k : Nat) (a0 : Int) (a1 : Int) : Option (Bool) := (law13_fixed.f k).bind fun r1 => cond (!r1) (some (false)) ((law13_many.f k (IntKind.i64.wrap ((1 : Int) + (IntKind.i64.wrap (Int.tmod (IntKind.u64.wrap a0) (50 : Int))))) (⟨#[97]⟩ : ByteArray)).bind fun r3 => (sCat (⟨#[108, 111, 99, 97, 108, 32]⟩ : ByteArray) r3).bind fun s4 : ByteArray => (sCat s4 (⟨#[32]⟩ : ByteArray)).bind fun s5 : ByteArray => (sCat s5 (⟨#[102, 111, 114, 32, 105, 32, 61, 32, 49, 44, 32, 50, 32, 100, 111, 32]⟩ : ByteArray)).bind fun s6 : ByteArray => (sCat s6 (⟨#[108, 111, 99, 97, 108, 32]⟩ : ByteArray)).bind fun s7 : ByteArray => (law13_many.f k (IntKind.i64.wrap ((1 : Int) + (IntKind.i64.wrap (Int.tmod (IntKind.u64.wrap a1) (50 : Int))))) (⟨#[98]⟩ : ByteArray)).bind fun r8 => (sCat s7 r8).bind fun s9 : ByteArray => (sCat s9 (⟨#[32, 101, 110, 100]⟩ : ByteArray)).bind fun s10 : ByteArray => (check_Check.f k s10).bind fun r11 => cond (decide ((IntKind.i64.wrap ((IntKind.i64.wrap ((1 : Int) + (IntKind.i64.wrap (Int.tmod (IntKind.u64.wrap a0) (50 : Int))))) + (4 : Int))) > (60 : Int))) (some ((r11.2.2.1 == (6 : Int)))) (cond (decide ((IntKind.i64.wrap ((IntKind.i64.wrap ((IntKind.i64.wrap ((1 : Int) + (IntKind.i64.wrap (Int.tmod (IntKind.u64.wrap a0) (50 : Int))))) + (4 : Int))) + (IntKind.i64.wrap ((1 : Int) + (IntKind.i64.wrap (Int.tmod (IntKind.u64.wrap a1) (50 : Int))))))) > (60 : Int))) (some (((r11.2.2.1 == (6 : Int)) && ((r11.2.2.2 == (IntKind.i64.wrap ((s5.size : Int) + ((⟨#[102, 111, 114, 32, 105, 32, 61, 32, 49, 44, 32, 50, 32, 100, 111, 32]⟩ : ByteArray).size : Int)))) && true)))) ((cond (r11.2.2.1 == (0 : Int)) (cond (((r11.1.length : Nat) : Int) == (1 : Int)) ((lIdx r11.1 (0 : Int)).bind fun x27 => cond (x27.2.2.2.1 == (IntKind.i64.wrap ((IntKind.i64.wrap ((IntKind.i64.wrap ((1 : Int) + (IntKind.i64.wrap (Int.tmod (IntKind.u64.wrap a0) (50 : Int))))) + (4 : Int))) + (IntKind.i64.wrap ((1 : Int) + (IntKind.i64.wrap (Int.tmod (IntKind.u64.wrap a1) (50 : Int)))))))) ((lIdx r11.1 (0 : Int)).bind fun x40 => (law13_t2.f k x40.2.2.2.2).bind fun r52 => some r52) (some false)) (some false)) (some false) : Option Bool).bind fun q24 => some (q24))))
set_option maxRecDepth 100000 in
theorem law13_CheckLocals.ok {k : Nat} {a0 : Int} {a1 : Int} {G : Frag} {r : Bool} (h : law13_CheckLocals.f k a0 a1 = some r) (hG : GlP G) : Ct Tryz.prog 6 #[.int .i64 a0, .int .i64 a1] [] [G] (fun e l1 => e = .returned (.bool r) ∧ l1 = []) := by
 refine ct_enter (args := [.int .i64 a0, .int .i64 a1]) Tryz.func6 rfl (Nat.le_of_ble_eq_true rfl) ?_
 intro A X hh_
 obtain ⟨hm_G, _⟩ := hh_
 unfold law13_CheckLocals.f at h
 refine k_seq ?_
 refine k_region ?_
 refine kl_steps 1 [(0, .int .i64 a0), (1, .int .i64 a1)] (by kernel_rfl) ?_
 refine k_nil ?_
 refine k_then ?_
 refine k_seq ?_
 refine k_seq ?_
 refine k_region ?_
 obtain ⟨r1, hr1, h⟩ := bindSome h
 refine kl_callv (by kernel_rfl) (by kernel_rfl) (by kernel_rfl) (law13_fixed.ok hr1 hG) ⟨hm_G, trivial⟩ ?_
 refine kl_steps 1 [(0, .int .i64 a0), (1, .int .i64 a1), (10, .bool (!r1))] (by kernel_rfl) ?_
 refine k_nil ?_
 refine k_then ?_
 refine k_cond (t := !r1) (by kernel_rfl) (fun t2 => ?_) (fun t2 => ?_)
 ·have h := condT h t2
  refine k_seq ?_
  refine k_region ?_
  refine kl_steps 1 [(4, .bool false)] (by kernel_rfl) ?_
  refine k_nil ?_
  refine k_then ?_
  refine k_ret ?_
  refine k_then_ret ?_
  obtain rfl := Option.some.inj h
  refine k_done (v := .bool false) [] [] [] (by kernel_rfl) (by kernel_rfl) trivial ?_
  exact k_end ⟨rfl, rfl⟩
 ·have h := condF h t2
  refine k_skip ?_
  refine k_then ?_
  refine k_seq ?_
  refine k_region ?_
  refine kl_steps 12 [(0, .int .i64 (IntKind.i64.wrap ((1 : Int) + (IntKind.i64.wrap (Int.tmod (IntKind.u64.wrap a0) (50 : Int)))))), (1, .int .i64 (IntKind.i64.wrap ((1 : Int) + (IntKind.i64.wrap (Int.tmod (IntKind.u64.wrap a1) (50 : Int))))))] (by kernel_rfl) ?_
  refine k_nil ?_
  refine k_then ?_
  refine k_seq ?_
  refine k_region ?_
  refine kl_steps 1 [(0, .int .i64 (IntKind.i64.wrap ((1 : Int) + (IntKind.i64.wrap (Int.tmod (IntKind.u64.wrap a0) (50 : Int)))))), (1, .int .i64 (IntKind.i64.wrap ((1 : Int) + (IntKind.i64.wrap (Int.tmod (IntKind.u64.wrap a1) (50 : Int)))))), (21, .int .i64 (IntKind.i64.wrap ((1 : Int) + (IntKind.i64.wrap (Int.tmod (IntKind.u64.wrap a0) (50 : Int))))))] (by kernel_rfl) ?_
  obtain ⟨r3, hr3, h⟩ := bindSome h
  refine kl_callv (by kernel_rfl) (by kernel_rfl) (by kernel_rfl) (law13_many.ok hr3) trivial ?_
  obtain ⟨s4, hs4, h⟩ := bindSome h
  refine kl_cat rfl (by kernel_rfl) (by kernel_rfl) (by kernel_rfl) (by kernel_rfl) hs4 ?_
  obtain ⟨s5, hs5, h⟩ := bindSome h
  refine kl_cat rfl (by kernel_rfl) (by kernel_rfl) (by kernel_rfl) (by kernel_rfl) hs5 ?_
  refine kl_steps 1 [(0, .int .i64 (IntKind.i64.wrap ((1 : Int) + (IntKind.i64.wrap (Int.tmod (IntKind.u64.wrap a0) (50 : Int)))))), (1, .int .i64 (IntKind.i64.wrap ((1 : Int) + (IntKind.i64.wrap (Int.tmod (IntKind.u64.wrap a1) (50 : Int)))))), (5, .string s5)] (by kernel_rfl) ?_
  refine k_nil ?_
  refine k_then ?_
  refine k_seq ?_
  refine k_region ?_
  refine kl_steps 1 [(0, .int .i64 (IntKind.i64.wrap ((1 : Int) + (IntKind.i64.wrap (Int.tmod (IntKind.u64.wrap a0) (50 : Int)))))), (1, .int .i64 (IntKind.i64.wrap ((1 : Int) + (IntKind.i64.wrap (Int.tmod (IntKind.u64.wrap a1) (50 : Int)))))), (5, .string s5), (6, .string (⟨#[102, 111, 114, 32, 105, 32, 61, 32, 49, 44, 32, 50, 32, 100, 111, 32]⟩ : ByteArray))] (by kernel_rfl) ?_
  refine k_nil ?_
  refine k_then ?_
  refine k_seq ?_
  refine k_region ?_
  refine kl_steps 2 [(0, .int .i64 (IntKind.i64.wrap ((1 : Int) + (IntKind.i64.wrap (Int.tmod (IntKind.u64.wrap a0) (50 : Int)))))), (1, .int .i64 (IntKind.i64.wrap ((1 : Int) + (IntKind.i64.wrap (Int.tmod (IntKind.u64.wrap a1) (50 : Int)))))), (5, .string s5), (6, .string (⟨#[102, 111, 114, 32, 105, 32, 61, 32, 49, 44, 32, 50, 32, 100, 111, 32]⟩ : ByteArray)), (26, .string s5), (27, .string (⟨#[102, 111, 114, 32, 105, 32, 61, 32, 49, 44, 32, 50, 32, 100, 111, 32]⟩ : ByteArray))] (by kernel_rfl) ?_
  obtain ⟨s6, hs6, h⟩ := bindSome h
  refine kl_cat rfl (by kernel_rfl) (by kernel_rfl) (by kernel_rfl) (by kernel_rfl) hs6 ?_
  obtain ⟨s7, hs7, h⟩ := bindSome h
  refine kl_cat rfl (by kernel_rfl) (by kernel_rfl) (by kernel_rfl) (by kernel_rfl) hs7 ?_
  refine kl_steps 1 [(0, .int .i64 (IntKind.i64.wrap ((1 : Int) + (IntKind.i64.wrap (Int.tmod (IntKind.u64.wrap a0) (50 : Int)))))), (1, .int .i64 (IntKind.i64.wrap ((1 : Int) + (IntKind.i64.wrap (Int.tmod (IntKind.u64.wrap a1) (50 : Int)))))), (5, .string s5), (6, .string (⟨#[102, 111, 114, 32, 105, 32, 61, 32, 49, 44, 32, 50, 32, 100, 111, 32]⟩ : ByteArray)), (29, .string s7), (30, .int .i64 (IntKind.i64.wrap ((1 : Int) + (IntKind.i64.wrap (Int.tmod (IntKind.u64.wrap a1) (50 : Int))))))] (by kernel_rfl) ?_
  obtain ⟨r8, hr8, h⟩ := bindSome h
  refine kl_callv (by kernel_rfl) (by kernel_rfl) (by kernel_rfl) (law13_many.ok hr8) trivial ?_
  obtain ⟨s9, hs9, h⟩ := bindSome h
  refine kl_cat rfl (by kernel_rfl) (by kernel_rfl) (by kernel_rfl) (by kernel_rfl) hs9 ?_
  obtain ⟨s10, hs10, h⟩ := bindSome h
  refine kl_cat rfl (by kernel_rfl) (by kernel_rfl) (by kernel_rfl) (by kernel_rfl) hs10 ?_
  obtain ⟨r11, hr11, h⟩ := bindSome h
  refine kl_call (X) (by kernel_rfl) (by kernel_rfl) (by kernel_rfl) (check_Check.ok hr11 hG) rfl ⟨hm_G, trivial⟩ ?_
  rintro _ _ ⟨h12, A13, k14, h16, A17, k18, o15, o19, rfl, rfl⟩
  refine nx_ret2 ?_
  refine kl_steps 3 [(0, .int .i64 (IntKind.i64.wrap ((1 : Int) + (IntKind.i64.wrap (Int.tmod (IntKind.u64.wrap a0) (50 : Int)))))), (1, .int .i64 (IntKind.i64.wrap ((1 : Int) + (IntKind.i64.wrap (Int.tmod (IntKind.u64.wrap a1) (50 : Int)))))), (5, .string s5), (6, .string (⟨#[102, 111, 114, 32, 105, 32, 61, 32, 49, 44, 32, 50, 32, 100, 111, 32]⟩ : ByteArray)), (35, .agg #[.slice A13 r11.1.length k14, .slice A17 r11.2.1.length k18]), (36, .agg #[.int .i64 r11.2.2.1, .int .i64 r11.2.2.2])] (by kernel_rfl) ?_
  refine kl_new (.cells #[.slice none 0 0, .slice none 0 0] 28 (0, 0)) (fun b => .pointer (some ⟨b, 0, none⟩)) (by kernel_rfl) (by kernel_rfl) (fun _ => by kernel_rfl) fun b20 => ?_
  refine kl_new (.cells #[.int .i64 (0 : Int), .int .i64 (0 : Int)] 31 (0, 0)) (fun b => .pointer (some ⟨b, 0, none⟩)) (by kernel_rfl) (by kernel_rfl) (fun _ => by kernel_rfl) fun b21 => ?_
  refine K.mv1 ?_
  refine kl_store (cs' := #[.slice A13 r11.1.length k14, .slice A17 r11.2.1.length k18]) [.st ⟨b20, 0, none⟩ (.slice A13 r11.1.length k14), .st ⟨b20, 1, none⟩ (.slice A17 r11.2.1.length k18)] (by kernel_rfl) (by kernel_rfl) (by kernel_rfl) ⟨rfl, rfl, trivial⟩ (by kernel_rfl) ?_
  refine K.mv1 ?_
  refine kl_store (cs' := #[.int .i64 r11.2.2.1, .int .i64 r11.2.2.2]) [.st ⟨b21, 0, none⟩ (.int .i64 r11.2.2.1), .st ⟨b21, 1, none⟩ (.int .i64 r11.2.2.2)] (by kernel_rfl) (by kernel_rfl) (by kernel_rfl) ⟨rfl, rfl, trivial⟩ (by kernel_rfl) ?_
  refine k_nil ?_
  refine k_then ?_
  refine k_seq ?_
  refine k_seq ?_
  refine k_region ?_
  refine kl_steps 3 [(0, .int .i64 (IntKind.i64.wrap ((1 : Int) + (IntKind.i64.wrap (Int.tmod (IntKind.u64.wrap a0) (50 : Int)))))), (1, .int .i64 (IntKind.i64.wrap ((1 : Int) + (IntKind.i64.wrap (Int.tmod (IntKind.u64.wrap a1) (50 : Int)))))), (5, .string s5), (6, .string (⟨#[102, 111, 114, 32, 105, 32, 61, 32, 49, 44, 32, 50, 32, 100, 111, 32]⟩ : ByteArray)), (7, .pointer (some ⟨b20, 0, none⟩)), (8, .pointer (some ⟨b21, 0, none⟩)), (39, .bool (decide ((IntKind.i64.wrap ((IntKind.i64.wrap ((1 : Int) + (IntKind.i64.wrap (Int.tmod (IntKind.u64.wrap a0) (50 : Int))))) + (4 : Int))) > (60 : Int))))] (by kernel_rfl) ?_
  refine k_nil ?_
  refine k_then ?_
  refine k_cond (t := decide ((IntKind.i64.wrap ((IntKind.i64.wrap ((1 : Int) + (IntKind.i64.wrap (Int.tmod (IntKind.u64.wrap a0) (50 : Int))))) + (4 : Int))) > (60 : Int))) (by kernel_rfl) (fun t22 => ?_) (fun t22 => ?_)
  ·have h := condT h t22
   refine k_seq ?_
   refine k_region ?_
   refine kl_steps 1 [(40, .pointer (some ⟨b21, 0, none⟩))] (by kernel_rfl) ?_
   refine kl_load (v := .int .i64 r11.2.2.1) [.val (.int .i64 r11.2.2.1)] [.ld ⟨b21, 0, none⟩ (.int .i64 r11.2.2.1)] (by kernel_rfl) (by kernel_rfl) (by kernel_rfl) ⟨⟨0, _, _, _, rfl, rfl, rfl⟩, trivial⟩ ?_
   refine K.drop ?_
   refine K.drop ?_
   refine K.drop ?_
   refine K.drop ?_
   refine kl_steps 2 [(4, .bool (r11.2.2.1 == (6 : Int)))] (by kernel_rfl) ?_
   refine k_nil ?_
   refine k_then ?_
   refine k_ret ?_
   refine k_then_ret ?_
   obtain rfl := Option.some.inj h
   refine k_done (v := .bool (r11.2.2.1 == (6 : Int))) [] [] [] (by kernel_rfl) (by kernel_rfl) trivial ?_
   exact k_end ⟨rfl, rfl⟩
  ·have h := condF h t22
   refine k_skip ?_
   refine k_then ?_
   refine k_seq ?_
   refine k_seq ?_
   refine k_region ?_
   refine kl_steps 5 [(0, .int .i64 (IntKind.i64.wrap ((1 : Int) + (IntKind.i64.wrap (Int.tmod (IntKind.u64.wrap a0) (50 : Int)))))), (1, .int .i64 (IntKind.i64.wrap ((1 : Int) + (IntKind.i64.wrap (Int.tmod (IntKind.u64.wrap a1) (50 : Int)))))), (5, .string s5), (6, .string (⟨#[102, 111, 114, 32, 105, 32, 61, 32, 49, 44, 32, 50, 32, 100, 111, 32]⟩ : ByteArray)), (7, .pointer (some ⟨b20, 0, none⟩)), (8, .pointer (some ⟨b21, 0, none⟩)), (47, .bool (decide ((IntKind.i64.wrap ((IntKind.i64.wrap ((IntKind.i64.wrap ((1 : Int) + (IntKind.i64.wrap (Int.tmod (IntKind.u64.wrap a0) (50 : Int))))) + (4 : Int))) + (IntKind.i64.wrap ((1 : Int) + (IntKind.i64.wrap (Int.tmod (IntKind.u64.wrap a1) (50 : Int))))))) > (60 : Int))))] (by kernel_rfl) ?_
   refine k_nil ?_
   refine k_then ?_
   refine k_cond (t := decide ((IntKind.i64.wrap ((IntKind.i64.wrap ((IntKind.i64.wrap ((1 : Int) + (IntKind.i64.wrap (Int.tmod (IntKind.u64.wrap a0) (50 : Int))))) + (4 : Int))) + (IntKind.i64.wrap ((1 : Int) + (IntKind.i64.wrap (Int.tmod (IntKind.u64.wrap a1) (50 : Int))))))) > (60 : Int))) (by kernel_rfl) (fun t23 => ?_) (fun t23 => ?_)
   ·have h := condT h t23
    refine k_seq ?_
    refine k_region ?_
    refine kl_load (v := .agg #[.int .i64 r11.2.2.1, .int .i64 r11.2.2.2]) [.val (.int .i64 r11.2.2.1), .val (.int .i64 r11.2.2.2)] [.ld ⟨b21, 0, none⟩ (.int .i64 r11.2.2.1), .ld ⟨b21, 1, none⟩ (.int .i64 r11.2.2.2)] (by kernel_rfl) (by kernel_rfl) (by kernel_rfl) ⟨⟨0, _, _, _, rfl, rfl, rfl⟩, ⟨0, _, _, _, rfl, rfl, rfl⟩, trivial⟩ ?_
    refine K.drop ?_
    refine K.drop ?_
    refine K.drop ?_
    refine K.drop ?_
    refine kl_steps 6 [(48, .agg #[.int .i64 r11.2.2.1, .int .i64 r11.2.2.2]), (54, .agg #[.int .i64 (6 : Int), .int .i64 (IntKind.i64.wrap ((s5.size : Int) + ((⟨#[102, 111, 114, 32, 105, 32, 61, 32, 49, 44, 32, 50, 32, 100, 111, 32]⟩ : ByteArray).size : Int)))])] (by kernel_rfl) ?_
    refine kl_eqS (r := ((r11.2.2.1 == (6 : Int)) && ((r11.2.2.2 == (IntKind.i64.wrap ((s5.size : Int) + ((⟨#[102, 111, 114, 32, 105, 32, 61, 32, 49, 44, 32, 50, 32, 100, 111, 32]⟩ : ByteArray).size : Int)))) && true))) (xs := #[.int .i64 r11.2.2.1, .int .i64 r11.2.2.2]) (ys := #[.int .i64 (6 : Int), .int .i64 (IntKind.i64.wrap ((s5.size : Int) + ((⟨#[102, 111, 114, 32, 105, 32, 61, 32, 49, 44, 32, 50, 32, 100, 111, 32]⟩ : ByteArray).size : Int)))]) false (by kernel_rfl) rfl (by kernel_rfl) (by kernel_rfl) (by kernel_rfl) (by kernel_rfl) (by kernel_rfl) (by kernel_rfl) (by kernel_rfl) ?_
    refine kl_steps 1 [(4, .bool ((r11.2.2.1 == (6 : Int)) && ((r11.2.2.2 == (IntKind.i64.wrap ((s5.size : Int) + ((⟨#[102, 111, 114, 32, 105, 32, 61, 32, 49, 44, 32, 50, 32, 100, 111, 32]⟩ : ByteArray).size : Int)))) && true)))] (by kernel_rfl) ?_
    refine k_nil ?_
    refine k_then ?_
    refine k_ret ?_
    refine k_then_ret ?_
    obtain rfl := Option.some.inj h
    refine k_done (v := .bool ((r11.2.2.1 == (6 : Int)) && ((r11.2.2.2 == (IntKind.i64.wrap ((s5.size : Int) + ((⟨#[102, 111, 114, 32, 105, 32, 61, 32, 49, 44, 32, 50, 32, 100, 111, 32]⟩ : ByteArray).size : Int)))) && true))) [] [] [] (by kernel_rfl) (by kernel_rfl) trivial ?_
    exact k_end ⟨rfl, rfl⟩
   ·have h := condF h t23
    refine k_skip ?_
    refine k_then ?_
    obtain ⟨q24, hq24, h⟩ := bindSome h
    refine k_cut1 [(4, .bool q24)] (X) ?_ ?_
    ·clear hq24
     refine k_ret ?_
     obtain rfl := Option.some.inj h
     refine k_done (v := .bool q24) [] [] [] (by kernel_rfl) (by kernel_rfl) trivial ?_
     exact k_end ⟨rfl, rfl⟩
    ·have h := hq24
     clear hq24
     refine k_region ?_
     refine kl_steps 1 [(0, .int .i64 (IntKind.i64.wrap ((1 : Int) + (IntKind.i64.wrap (Int.tmod (IntKind.u64.wrap a0) (50 : Int)))))), (1, .int .i64 (IntKind.i64.wrap ((1 : Int) + (IntKind.i64.wrap (Int.tmod (IntKind.u64.wrap a1) (50 : Int)))))), (7, .pointer (some ⟨b20, 0, none⟩)), (56, .pointer (some ⟨b21, 0, none⟩))] (by kernel_rfl) ?_
     refine kl_load (v := .int .i64 r11.2.2.1) [.val (.int .i64 r11.2.2.1)] [.ld ⟨b21, 0, none⟩ (.int .i64 r11.2.2.1)] (by kernel_rfl) (by kernel_rfl) (by kernel_rfl) ⟨⟨0, _, _, _, rfl, rfl, rfl⟩, trivial⟩ ?_
     refine K.drop ?_
     refine kl_steps 2 [(0, .int .i64 (IntKind.i64.wrap ((1 : Int) + (IntKind.i64.wrap (Int.tmod (IntKind.u64.wrap a0) (50 : Int)))))), (1, .int .i64 (IntKind.i64.wrap ((1 : Int) + (IntKind.i64.wrap (Int.tmod (IntKind.u64.wrap a1) (50 : Int)))))), (7, .pointer (some ⟨b20, 0, none⟩)), (59, .bool (r11.2.2.1 == (0 : Int)))] (by kernel_rfl) ?_
     rcases Bool.eq_false_or_eq_true ((r11.2.2.1 == (0 : Int))) with t25 | t25
     ·have h := condT h t25
      refine K.weak (env' := [(0, .int .i64 (IntKind.i64.wrap ((1 : Int) + (IntKind.i64.wrap (Int.tmod (IntKind.u64.wrap a0) (50 : Int)))))), (1, .int .i64 (IntKind.i64.wrap ((1 : Int) + (IntKind.i64.wrap (Int.tmod (IntKind.u64.wrap a1) (50 : Int)))))), (7, .pointer (some ⟨b20, 0, none⟩)), (59, .bool true)]) ?_ ⟨rfl, rfl, rfl, congrArg (fun b => some (Value.bool b)) t25, trivial⟩
      refine kl_steps 1 [(0, .int .i64 (IntKind.i64.wrap ((1 : Int) + (IntKind.i64.wrap (Int.tmod (IntKind.u64.wrap a0) (50 : Int)))))), (1, .int .i64 (IntKind.i64.wrap ((1 : Int) + (IntKind.i64.wrap (Int.tmod (IntKind.u64.wrap a1) (50 : Int)))))), (7, .pointer (some ⟨b20, 0, none⟩)), (59, .bool true), (60, .pointer (some ⟨b20, 0, none⟩))] (by kernel_rfl) ?_
      refine kl_load (v := .slice A13 r11.1.length k14) [.val (.slice A13 r11.1.length k14)] [.ld ⟨b20, 0, none⟩ (.slice A13 r11.1.length k14)] (by kernel_rfl) (by kernel_rfl) (by kernel_rfl) ⟨⟨0, _, _, _, rfl, rfl, rfl⟩, trivial⟩ ?_
      refine kl_steps 4 [(0, .int .i64 (IntKind.i64.wrap ((1 : Int) + (IntKind.i64.wrap (Int.tmod (IntKind.u64.wrap a0) (50 : Int)))))), (1, .int .i64 (IntKind.i64.wrap ((1 : Int) + (IntKind.i64.wrap (Int.tmod (IntKind.u64.wrap a1) (50 : Int)))))), (7, .pointer (some ⟨b20, 0, none⟩)), (65, .bool (((r11.1.length : Nat) : Int) == (1 : Int)))] (by kernel_rfl) ?_
      rcases Bool.eq_false_or_eq_true ((((r11.1.length : Nat) : Int) == (1 : Int))) with t26 | t26
      ·have h := condT h t26
       refine K.weak (env' := [(0, .int .i64 (IntKind.i64.wrap ((1 : Int) + (IntKind.i64.wrap (Int.tmod (IntKind.u64.wrap a0) (50 : Int)))))), (1, .int .i64 (IntKind.i64.wrap ((1 : Int) + (IntKind.i64.wrap (Int.tmod (IntKind.u64.wrap a1) (50 : Int)))))), (7, .pointer (some ⟨b20, 0, none⟩)), (65, .bool true)]) ?_ ⟨rfl, rfl, rfl, congrArg (fun b => some (Value.bool b)) t26, trivial⟩
       refine kl_steps 1 [(0, .int .i64 (IntKind.i64.wrap ((1 : Int) + (IntKind.i64.wrap (Int.tmod (IntKind.u64.wrap a0) (50 : Int)))))), (1, .int .i64 (IntKind.i64.wrap ((1 : Int) + (IntKind.i64.wrap (Int.tmod (IntKind.u64.wrap a1) (50 : Int)))))), (7, .pointer (some ⟨b20, 0, none⟩)), (65, .bool true), (66, .pointer (some ⟨b20, 0, none⟩))] (by kernel_rfl) ?_
       refine kl_load (v := .slice A13 r11.1.length k14) [.val (.slice A13 r11.1.length k14)] [.ld ⟨b20, 0, none⟩ (.slice A13 r11.1.length k14)] (by kernel_rfl) (by kernel_rfl) (by kernel_rfl) ⟨⟨0, _, _, _, rfl, rfl, rfl⟩, trivial⟩ ?_
       obtain ⟨x27, hx27, h⟩ := bindSome h
       refine kl_elemR (T := 42) (kd := .i64) (R := rs42) rfl (by kernel_rfl) (by kernel_rfl) (by kernel_rfl) (by kernel_rfl) (by kernel_rfl) (by kernel_rfl) hx27 (OwnR.rd o15) fun p28 u31 q32 e29 y30 => ?_
       obtain ⟨A33, k34, rfl, o35⟩ := rs42_r q32
       refine kl_efieldP (off := 3) rfl (by kernel_rfl) (by kernel_rfl) (by kernel_rfl) (by kernel_rfl) e29 y30 fun p36 e37 y38 => ?_
       have e37 : Elem _ p36 [.int .i64 x27.2.2.2.1, .slice A33 x27.2.2.2.2.length k34] := e37
       refine kl_eload1 rfl (by kernel_rfl) (by kernel_rfl) (by kernel_rfl) (by kernel_rfl) e37 (.tail _ (.head _)) ?_
       refine kl_steps 7 [(7, .pointer (some ⟨b20, 0, none⟩)), (77, .bool (x27.2.2.2.1 == (IntKind.i64.wrap ((IntKind.i64.wrap ((IntKind.i64.wrap ((1 : Int) + (IntKind.i64.wrap (Int.tmod (IntKind.u64.wrap a0) (50 : Int))))) + (4 : Int))) + (IntKind.i64.wrap ((1 : Int) + (IntKind.i64.wrap (Int.tmod (IntKind.u64.wrap a1) (50 : Int)))))))))] (by kernel_rfl) ?_
       rcases Bool.eq_false_or_eq_true ((x27.2.2.2.1 == (IntKind.i64.wrap ((IntKind.i64.wrap ((IntKind.i64.wrap ((1 : Int) + (IntKind.i64.wrap (Int.tmod (IntKind.u64.wrap a0) (50 : Int))))) + (4 : Int))) + (IntKind.i64.wrap ((1 : Int) + (IntKind.i64.wrap (Int.tmod (IntKind.u64.wrap a1) (50 : Int))))))))) with t39 | t39
       ·have h := condT h t39
        refine K.weak (env' := [(7, .pointer (some ⟨b20, 0, none⟩)), (77, .bool true)]) ?_ ⟨rfl, congrArg (fun b => some (Value.bool b)) t39, trivial⟩
        refine kl_steps 1 [(77, .bool true), (78, .pointer (some ⟨b20, 0, none⟩))] (by kernel_rfl) ?_
        refine kl_load (v := .slice A13 r11.1.length k14) [.val (.slice A13 r11.1.length k14)] [.ld ⟨b20, 0, none⟩ (.slice A13 r11.1.length k14)] (by kernel_rfl) (by kernel_rfl) (by kernel_rfl) ⟨⟨0, _, _, _, rfl, rfl, rfl⟩, trivial⟩ ?_
        refine K.drop ?_
        refine K.mv1 ?_
        refine K.drop ?_
        obtain ⟨x40, hx40, h⟩ := bindSome h
        refine kl_elemR (T := 42) (kd := .i64) (R := rs42) rfl (by kernel_rfl) (by kernel_rfl) (by kernel_rfl) (by kernel_rfl) (by kernel_rfl) (by kernel_rfl) hx40 (OwnR.rd o15) fun p41 u44 q45 e42 y43 => ?_
        obtain ⟨A46, k47, rfl, o48⟩ := rs42_r q45
        refine kl_efieldP (off := 4) rfl (by kernel_rfl) (by kernel_rfl) (by kernel_rfl) (by kernel_rfl) e42 y43 fun p49 e50 y51 => ?_
        have e50 : Elem _ p49 [.slice A46 x40.2.2.2.2.length k47] := e50
        refine kl_eload1 rfl (by kernel_rfl) (by kernel_rfl) (by kernel_rfl) (by kernel_rfl) e50 (.head _) ?_
        obtain ⟨r52, hr52, h⟩ := bindSome h
        refine kl_callv (by kernel_rfl) (by kernel_rfl) (by kernel_rfl) (law13_t2.ok hr52 o48) ⟨(.head _), trivial⟩ ?_
        refine K.drop ?_
        refine kl_steps 2 [(4, .bool r52)] (by kernel_rfl) ?_
        refine k_nil ?_
        refine k_then ?_
        exact k_meet1 ⟨congrArg (fun b => some (Value.bool b)) (Option.some.inj h), trivial⟩
       ·have h := condF h t39
        refine K.weak (env' := [(7, .pointer (some ⟨b20, 0, none⟩)), (77, .bool false)]) ?_ ⟨rfl, congrArg (fun b => some (Value.bool b)) t39, trivial⟩
        refine kl_steps 8 [(4, .bool false)] (by kernel_rfl) ?_
        refine k_nil ?_
        refine k_then ?_
        refine K.drop ?_
        refine K.drop ?_
        refine K.drop ?_
        exact k_meet1 ⟨congrArg (fun b => some (Value.bool b)) (Option.some.inj h), trivial⟩
      ·have h := condF h t26
       refine K.weak (env' := [(0, .int .i64 (IntKind.i64.wrap ((1 : Int) + (IntKind.i64.wrap (Int.tmod (IntKind.u64.wrap a0) (50 : Int)))))), (1, .int .i64 (IntKind.i64.wrap ((1 : Int) + (IntKind.i64.wrap (Int.tmod (IntKind.u64.wrap a1) (50 : Int)))))), (7, .pointer (some ⟨b20, 0, none⟩)), (65, .bool false)]) ?_ ⟨rfl, rfl, rfl, congrArg (fun b => some (Value.bool b)) t26, trivial⟩
       refine kl_steps 20 [(4, .bool false)] (by kernel_rfl) ?_
       refine k_nil ?_
       refine k_then ?_
       refine K.drop ?_
       refine K.drop ?_
       refine K.drop ?_
       exact k_meet1 ⟨congrArg (fun b => some (Value.bool b)) (Option.some.inj h), trivial⟩
     ·have h := condF h t25
      refine K.weak (env' := [(0, .int .i64 (IntKind.i64.wrap ((1 : Int) + (IntKind.i64.wrap (Int.tmod (IntKind.u64.wrap a0) (50 : Int)))))), (1, .int .i64 (IntKind.i64.wrap ((1 : Int) + (IntKind.i64.wrap (Int.tmod (IntKind.u64.wrap a1) (50 : Int)))))), (7, .pointer (some ⟨b20, 0, none⟩)), (59, .bool false)]) ?_ ⟨rfl, rfl, rfl, congrArg (fun b => some (Value.bool b)) t25, trivial⟩
      refine kl_steps 26 [(4, .bool false)] (by kernel_rfl) ?_
      refine k_nil ?_
      refine k_then ?_
      refine K.drop ?_
      refine K.drop ?_
      refine K.drop ?_
      exact k_meet1 ⟨congrArg (fun b => some (Value.bool b)) (Option.some.inj h), trivial⟩
def law13_CheckConsts.l1 : Nat → (a0 : Int) → (J4 : ByteArray → Option (Bool)) → (x70 : ByteArray) → (x71 : Int) → Option (Bool)
 | 0, _, _, _, _ => none
 | m72 + 1, a0, J4, x70, x71 => cond (decide (x71 < (IntKind.i64.wrap (Int.tmod (IntKind.u64.wrap a0) (300 : Int))))) ((r02_Format.f m72 x71).bind fun r74 => (sCat (⟨#[120, 32, 61, 32]⟩ : ByteArray) r74).bind fun s75 : ByteArray => (sCat s75 (⟨#[32, 120, 32, 61, 32]⟩ : ByteArray)).bind fun s76 : ByteArray => (r02_Format.f m72 x71).bind fun r77 => (sCat s76 r77).bind fun s78 : ByteArray => (sCat s78 (⟨#[10]⟩ : ByteArray)).bind fun s79 : ByteArray => (sCat x70 s79).bind fun s80 : ByteArray => law13_CheckConsts.l1 m72 a0 J4 s80 (IntKind.i64.wrap (x71 + (1 : Int)))) (J4 x70)
def law13_CheckConsts.l0 : Nat → (a0 : Int) → (r5 : List (ByteArray × Int × Int × Int × List (Int × Int × ByteArray)) × List ByteArray × Int × Int) → (J21 : (Unit → Option (Bool))) → (x22 : Int) → Option (Bool)
 | 0, _, _, _, _ => none
 | m23 + 1, a0, r5, J21, x22 => cond (decide (x22 < (IntKind.i64.wrap (Int.tmod (IntKind.u64.wrap a0) (300 : Int))))) ((lIdx r5.1 (0 : Int)).bind fun x25 => (lIdx x25.2.2.2.2 x22).bind fun x37 => (r03_I.f m23 x22).bind fun r41 => cond (!((x37.1 == r41.1) && ((x37.2.1 == r41.2.1) && ((x37.2.2.toList == r41.2.2.toList) && true)))) (some (false)) (law13_CheckConsts.l0 m23 a0 r5 J21 (IntKind.i64.wrap (x22 + (1 : Int))))) (J21 ())
def law13_CheckConsts.f (k : Nat) (a0 : Int) : Option (Bool) := (law13_fixed.f k).bind fun r1 => cond (!r1) (some (false)) (joinF (fun (x3 : ByteArray) => (check_Check.f k x3).bind fun r5 => cond (decide ((IntKind.i64.wrap (Int.tmod (IntKind.u64.wrap a0) (300 : Int))) > (250 : Int))) ((cond (r5.2.2.1 == (6 : Int)) (some (decide (r5.2.2.2 > (0 : Int)))) (some false) : Option Bool).bind fun q17 => some (q17)) ((cond (r5.2.2.1 != (0 : Int)) (some true) (cond (((r5.1.length : Nat) : Int) != (1 : Int)) (some true) ((lIdx r5.1 (0 : Int)).bind fun x45 => cond (((x45.2.2.2.2.length : Nat) : Int) != (IntKind.i64.wrap (Int.tmod (IntKind.u64.wrap a0) (300 : Int)))) (some true) ((lIdx r5.1 (0 : Int)).bind fun x58 => some (x58.2.2.2.1 != (0 : Int))))) : Option Bool).bind fun q19 => cond q19 (some (false)) (joinF (fun (_ : Unit) => some (true)) (fun J21 => law13_CheckConsts.l0 k a0 r5 J21 (0 : Int))))) (fun J4 => law13_CheckConsts.l1 k a0 J4 (⟨#[]⟩ : ByteArray) (0 : Int)))
set_option maxRecDepth 100000 in
theorem law13_CheckConsts.ok {k : Nat} {a0 : Int} {G : Frag} {r : Bool} (h : law13_CheckConsts.f k a0 = some r) (hG : GlP G) : Ct Tryz.prog 7 #[.int .i64 a0] [] [G] (fun e l1 => e = .returned (.bool r) ∧ l1 = []) := by
 refine ct_enter (args := [.int .i64 a0]) Tryz.func7 rfl (Nat.le_of_ble_eq_true rfl) ?_
 intro A X hh_
 obtain ⟨hm_G, _⟩ := hh_
 unfold law13_CheckConsts.f at h
 refine k_seq ?_
 refine k_region ?_
 refine kl_steps 1 [(0, .int .i64 a0)] (by kernel_rfl) ?_
 refine k_nil ?_
 refine k_then ?_
 refine k_seq ?_
 refine k_seq ?_
 refine k_region ?_
 obtain ⟨r1, hr1, h⟩ := bindSome h
 refine kl_callv (by kernel_rfl) (by kernel_rfl) (by kernel_rfl) (law13_fixed.ok hr1 hG) ⟨hm_G, trivial⟩ ?_
 refine kl_steps 1 [(0, .int .i64 a0), (9, .bool (!r1))] (by kernel_rfl) ?_
 refine k_nil ?_
 refine k_then ?_
 refine k_cond (t := !r1) (by kernel_rfl) (fun t2 => ?_) (fun t2 => ?_)
 ·have h := condT h t2
  refine k_seq ?_
  refine k_region ?_
  refine kl_steps 1 [(2, .bool false)] (by kernel_rfl) ?_
  refine k_nil ?_
  refine k_then ?_
  refine k_ret ?_
  refine k_then_ret ?_
  obtain rfl := Option.some.inj h
  refine k_done (v := .bool false) [] [] [] (by kernel_rfl) (by kernel_rfl) trivial ?_
  exact k_end ⟨rfl, rfl⟩
 ·have h := condF h t2
  refine k_skip ?_
  refine k_then ?_
  refine k_seq ?_
  refine k_region ?_
  refine kl_steps 5 [(0, .int .i64 (IntKind.i64.wrap (Int.tmod (IntKind.u64.wrap a0) (300 : Int))))] (by kernel_rfl) ?_
  refine k_nil ?_
  refine k_then ?_
  refine k_seq ?_
  refine k_region ?_
  refine kl_steps 1 [(0, .int .i64 (IntKind.i64.wrap (Int.tmod (IntKind.u64.wrap a0) (300 : Int)))), (3, .string (⟨#[]⟩ : ByteArray))] (by kernel_rfl) ?_
  refine k_nil ?_
  refine k_then ?_
  obtain ⟨J4, hJ4, h⟩ := joinSplit h
  refine k_cut (τ := ByteArray) (fun t => [(0, .int .i64 (IntKind.i64.wrap (Int.tmod (IntKind.u64.wrap a0) (300 : Int)))), (3, .string t)]) (fun t => X) (fun t => J4 t = some r) ?_ ?_
  ·rintro x3 h
   subst hJ4
   refine k_seq ?_
   refine k_region ?_
   refine kl_steps 1 [(0, .int .i64 (IntKind.i64.wrap (Int.tmod (IntKind.u64.wrap a0) (300 : Int)))), (30, .string x3)] (by kernel_rfl) ?_
   obtain ⟨r5, hr5, h⟩ := bindSome h
   refine kl_call (X) (by kernel_rfl) (by kernel_rfl) (by kernel_rfl) (check_Check.ok hr5 hG) rfl ⟨hm_G, trivial⟩ ?_
   rintro _ _ ⟨h6, A7, k8, h10, A11, k12, o9, o13, rfl, rfl⟩
   refine nx_ret2 ?_
   refine kl_steps 3 [(0, .int .i64 (IntKind.i64.wrap (Int.tmod (IntKind.u64.wrap a0) (300 : Int)))), (32, .agg #[.slice A7 r5.1.length k8, .slice A11 r5.2.1.length k12]), (33, .agg #[.int .i64 r5.2.2.1, .int .i64 r5.2.2.2])] (by kernel_rfl) ?_
   refine kl_new (.cells #[.slice none 0 0, .slice none 0 0] 28 (0, 0)) (fun b => .pointer (some ⟨b, 0, none⟩)) (by kernel_rfl) (by kernel_rfl) (fun _ => by kernel_rfl) fun b14 => ?_
   refine kl_new (.cells #[.int .i64 (0 : Int), .int .i64 (0 : Int)] 31 (0, 0)) (fun b => .pointer (some ⟨b, 0, none⟩)) (by kernel_rfl) (by kernel_rfl) (fun _ => by kernel_rfl) fun b15 => ?_
   refine K.mv1 ?_
   refine kl_store (cs' := #[.slice A7 r5.1.length k8, .slice A11 r5.2.1.length k12]) [.st ⟨b14, 0, none⟩ (.slice A7 r5.1.length k8), .st ⟨b14, 1, none⟩ (.slice A11 r5.2.1.length k12)] (by kernel_rfl) (by kernel_rfl) (by kernel_rfl) ⟨rfl, rfl, trivial⟩ (by kernel_rfl) ?_
   refine K.mv1 ?_
   refine kl_store (cs' := #[.int .i64 r5.2.2.1, .int .i64 r5.2.2.2]) [.st ⟨b15, 0, none⟩ (.int .i64 r5.2.2.1), .st ⟨b15, 1, none⟩ (.int .i64 r5.2.2.2)] (by kernel_rfl) (by kernel_rfl) (by kernel_rfl) ⟨rfl, rfl, trivial⟩ (by kernel_rfl) ?_
   refine k_nil ?_
   refine k_then ?_
   refine k_seq ?_
   refine k_seq ?_
   refine k_region ?_
   refine kl_steps 2 [(0, .int .i64 (IntKind.i64.wrap (Int.tmod (IntKind.u64.wrap a0) (300 : Int)))), (5, .pointer (some ⟨b14, 0, none⟩)), (6, .pointer (some ⟨b15, 0, none⟩)), (35, .bool (decide ((IntKind.i64.wrap (Int.tmod (IntKind.u64.wrap a0) (300 : Int))) > (250 : Int))))] (by kernel_rfl) ?_
   refine k_nil ?_
   refine k_then ?_
   refine k_cond (t := decide ((IntKind.i64.wrap (Int.tmod (IntKind.u64.wrap a0) (300 : Int))) > (250 : Int))) (by kernel_rfl) (fun t16 => ?_) (fun t16 => ?_)
   ·have h := condT h t16
    obtain ⟨q17, hq17, h⟩ := bindSome h
    refine k_cut1 [(2, .bool q17)] (X) ?_ ?_
    ·clear hq17
     refine k_ret ?_
     refine k_then_ret ?_
     obtain rfl := Option.some.inj h
     refine k_done (v := .bool q17) [] [] [] (by kernel_rfl) (by kernel_rfl) trivial ?_
     exact k_end ⟨rfl, rfl⟩
    ·have h := hq17
     clear hq17
     refine k_region ?_
     refine kl_steps 1 [(6, .pointer (some ⟨b15, 0, none⟩)), (36, .pointer (some ⟨b15, 0, none⟩))] (by kernel_rfl) ?_
     refine kl_load (v := .int .i64 r5.2.2.1) [.val (.int .i64 r5.2.2.1)] [.ld ⟨b15, 0, none⟩ (.int .i64 r5.2.2.1)] (by kernel_rfl) (by kernel_rfl) (by kernel_rfl) ⟨⟨0, _, _, _, rfl, rfl, rfl⟩, trivial⟩ ?_
     refine K.mv1 ?_
     refine K.drop ?_
     refine K.mv1 ?_
     refine K.drop ?_
     refine K.mv1 ?_
     refine K.drop ?_
     refine kl_steps 2 [(6, .pointer (some ⟨b15, 0, none⟩)), (39, .bool (r5.2.2.1 == (6 : Int)))] (by kernel_rfl) ?_
     rcases Bool.eq_false_or_eq_true ((r5.2.2.1 == (6 : Int))) with t18 | t18
     ·have h := condT h t18
      refine K.weak (env' := [(6, .pointer (some ⟨b15, 0, none⟩)), (39, .bool true)]) ?_ ⟨rfl, congrArg (fun b => some (Value.bool b)) t18, trivial⟩
      refine kl_steps 1 [(39, .bool true), (40, .pointer (some ⟨b15, 1, none⟩))] (by kernel_rfl) ?_
      refine kl_load (v := .int .i64 r5.2.2.2) [.val (.int .i64 r5.2.2.2)] [.ld ⟨b15, 1, none⟩ (.int .i64 r5.2.2.2)] (by kernel_rfl) (by kernel_rfl) (by kernel_rfl) ⟨⟨0, _, _, _, rfl, rfl, rfl⟩, trivial⟩ ?_
      refine K.drop ?_
      refine kl_steps 3 [(2, .bool (decide (r5.2.2.2 > (0 : Int))))] (by kernel_rfl) ?_
      refine k_nil ?_
      refine k_then ?_
      exact k_meet1 ⟨congrArg (fun b => some (Value.bool b)) (Option.some.inj h), trivial⟩
     ·have h := condF h t18
      refine K.weak (env' := [(6, .pointer (some ⟨b15, 0, none⟩)), (39, .bool false)]) ?_ ⟨rfl, congrArg (fun b => some (Value.bool b)) t18, trivial⟩
      refine kl_steps 5 [(2, .bool false)] (by kernel_rfl) ?_
      refine k_nil ?_
      refine k_then ?_
      refine K.drop ?_
      exact k_meet1 ⟨congrArg (fun b => some (Value.bool b)) (Option.some.inj h), trivial⟩
   ·have h := condF h t16
    refine k_skip ?_
    refine k_then ?_
    refine k_seq ?_
    obtain ⟨q19, hq19, h⟩ := bindSome h
    refine k_cut1 [(0, .int .i64 (IntKind.i64.wrap (Int.tmod (IntKind.u64.wrap a0) (300 : Int)))), (5, .pointer (some ⟨b14, 0, none⟩)), (70, .bool q19)] (blk b14 (.cells #[.slice A7 r5.1.length k8, .slice A11 r5.2.1.length k12] 28 (0, 0)) :: h6 :: h10 :: X) ?_ ?_
    ·clear hq19
     refine k_cond (t := q19) (by kernel_rfl) (fun t20 => ?_) (fun t20 => ?_)
     ·have h := condT h t20
      refine k_seq ?_
      refine k_region ?_
      refine kl_steps 1 [(2, .bool false)] (by kernel_rfl) ?_
      refine k_nil ?_
      refine k_then ?_
      refine k_ret ?_
      refine k_then_ret ?_
      obtain rfl := Option.some.inj h
      refine k_done (v := .bool false) [] [] [] (by kernel_rfl) (by kernel_rfl) trivial ?_
      refine K.drop ?_
      refine K.drop ?_
      refine K.drop ?_
      exact k_end ⟨rfl, rfl⟩
     ·have h := condF h t20
      refine k_skip ?_
      refine k_then ?_
      obtain ⟨J21, hJ21, h⟩ := joinSplit h
      refine k_cut (τ := Unit) (fun t => []) (fun t => X) (fun t => J21 () = some r) ?_ ?_
      ·rintro ⟨⟩ h
       subst hJ21
       refine k_seq ?_
       refine k_region ?_
       refine kl_steps 1 [(2, .bool true)] (by kernel_rfl) ?_
       refine k_nil ?_
       refine k_then ?_
       refine k_ret ?_
       obtain rfl := Option.some.inj h
       refine k_done (v := .bool true) [] [] [] (by kernel_rfl) (by kernel_rfl) trivial ?_
       exact k_end ⟨rfl, rfl⟩
      ·skip
       refine k_seq ?_
       refine k_region ?_
       refine kl_steps 1 [(0, .int .i64 (IntKind.i64.wrap (Int.tmod (IntKind.u64.wrap a0) (300 : Int)))), (5, .pointer (some ⟨b14, 0, none⟩)), (7, .int .i64 (0 : Int))] (by kernel_rfl) ?_
       refine k_nil ?_
       refine k_then ?_
       refine k_block ?_
       refine k_loop (τ := Int) (fun t => [(0, .int .i64 (IntKind.i64.wrap (Int.tmod (IntKind.u64.wrap a0) (300 : Int)))), (5, .pointer (some ⟨b14, 0, none⟩)), (7, .int .i64 t)]) (fun t => blk b14 (.cells #[.slice A7 r5.1.length k8, .slice A11 r5.2.1.length k12] 28 (0, 0)) :: h6 :: h10 :: X) (fun m t => law13_CheckConsts.l0 m a0 r5 J21 t = some r) k (0 : Int) h ⟨rfl, rfl, rfl, trivial⟩ rfl ?_
       clear h
       rintro m23 x22 h
       cases m23 with
       | zero => simp [law13_CheckConsts.l0] at h
       | succ m23 =>
        simp only [law13_CheckConsts.l0] at h
        refine k_seq ?_
        refine k_seq ?_
        refine k_region ?_
        refine kl_steps 3 [(0, .int .i64 (IntKind.i64.wrap (Int.tmod (IntKind.u64.wrap a0) (300 : Int)))), (5, .pointer (some ⟨b14, 0, none⟩)), (7, .int .i64 x22), (73, .bool (decide (x22 < (IntKind.i64.wrap (Int.tmod (IntKind.u64.wrap a0) (300 : Int))))))] (by kernel_rfl) ?_
        refine k_nil ?_
        refine k_then ?_
        refine k_cond (t := decide (x22 < (IntKind.i64.wrap (Int.tmod (IntKind.u64.wrap a0) (300 : Int))))) (by kernel_rfl) (fun t24 => ?_) (fun t24 => ?_)
        ·have h := condT h t24
         refine k_skip ?_
         refine k_then ?_
         refine k_seq ?_
         refine k_block ?_
         refine k_seq ?_
         refine k_region_plan [(0, 0), (1, 3), (2, 0), (3, 0), (4, 3), (5, 0), (6, 0), (7, 3), (8, 0), (9, 1)] (fun w => OnAll [blk b14 (.cells #[.slice A7 r5.1.length k8, .slice A11 r5.2.1.length k12] 28 (0, 0)), h6, h10] w) (by kernel_rfl) (by kernel_rfl) (fun _ _ d _ _ h => by cases d <;> exact h) (fun w h_ => ⟨h_.sat.on _ (.head _), h_.sat.on _ (.tail _ (.head _)), h_.sat.on _ (.tail _ (.tail _ (.head _))), trivial⟩) ?_
         simp only [planOps, List.filterMap_cons, List.filterMap_nil, List.getElem?_toArray, List.getElem?_cons_zero, List.getElem?_cons_succ, Option.map_some, List.drop_succ_cons, List.drop_zero, List.length_cons, List.length_nil]
         refine kp_steps 1 [(0, .int .i64 (IntKind.i64.wrap (Int.tmod (IntKind.u64.wrap a0) (300 : Int)))), (5, .pointer (some ⟨b14, 0, none⟩)), (7, .int .i64 x22), (76, .pointer (some ⟨b14, 0, none⟩))] (by kernel_rfl) (by kernel_rfl) ?_
         refine kp_loadS (v := .slice A7 r5.1.length k8) [blk b14 (.cells #[.slice A7 r5.1.length k8, .slice A11 r5.2.1.length k12] 28 (0, 0)), h6, h10] [.val (.slice A7 r5.1.length k8)] [.ld ⟨b14, 0, none⟩ (.slice A7 r5.1.length k8)] (by kernel_rfl) (by kernel_rfl) (by kernel_rfl) (fun _ h => h) ⟨⟨0, _, _, _, rfl, rfl, rfl⟩, trivial⟩ ?_
         obtain ⟨x25, hx25, h⟩ := bindSome h
         refine kp_elemR (T := 42) (kd := .i64) (R := rs42) rfl (by kernel_rfl) (by kernel_rfl) (by kernel_rfl) (by kernel_rfl) (by kernel_rfl) (by kernel_rfl) hx25 (OwnR.rd o9) fun p26 u29 q30 e27 y28 => ?_
         obtain ⟨A31, k32, rfl, o33⟩ := rs42_r q30
         refine kp_efieldP (off := 4) rfl (by kernel_rfl) (by kernel_rfl) (by kernel_rfl) (by kernel_rfl) e27 y28 fun p34 e35 y36 => ?_
         have e35 : Elem _ p34 [.slice A31 x25.2.2.2.2.length k32] := e35
         refine kp_eload1 rfl (by kernel_rfl) (by kernel_rfl) (by kernel_rfl) (by kernel_rfl) e35 (fun w h_ => h_.mem _ (.tail _ (.head _))) ?_
         refine kp_steps 1 [(0, .int .i64 (IntKind.i64.wrap (Int.tmod (IntKind.u64.wrap a0) (300 : Int)))), (5, .pointer (some ⟨b14, 0, none⟩)), (7, .int .i64 x22), (80, .slice A31 x25.2.2.2.2.length k32), (81, .int .i64 x22)] (by kernel_rfl) (by kernel_rfl) ?_
         obtain ⟨x37, hx37, h⟩ := bindSome h
         refine kp_elemP (T := 53) (kd := .i64) e53_ok rfl (by kernel_rfl) (by kernel_rfl) (by kernel_rfl) (by kernel_rfl) (by kernel_rfl) (by kernel_rfl) hx37 o33 fun p38 e39 y40 => ?_
         have e39 : Elem _ p38 [.int .i64 x37.1, .int .i64 x37.2.1, .string x37.2.2] := e39
         refine kp_eloadN rfl (by kernel_rfl) (by kernel_rfl) (by kernel_rfl) (by kernel_rfl) (by kernel_rfl) e39 (fun w h_ => h_.mem _ (.tail _ (.head _))) ?_
         refine kp_steps 1 [(0, .int .i64 (IntKind.i64.wrap (Int.tmod (IntKind.u64.wrap a0) (300 : Int)))), (5, .pointer (some ⟨b14, 0, none⟩)), (7, .int .i64 x22), (83, .agg #[.int .i64 x37.1, .int .i64 x37.2.1, .string x37.2.2]), (84, .int .i64 x22)] (by kernel_rfl) (by kernel_rfl) ?_
         refine kp_turn (by kernel_rfl) ?_
         obtain ⟨r41, hr41, h⟩ := bindSome h
         refine op_callv (by kernel_rfl) (by kernel_rfl) (r03_I.ok hr41) trivial ?_
         refine k_and (fun w h_ => ⟨h_.sat.on _ (.head _), h_.sat.on _ (.tail _ (.head _)), h_.sat.on _ (.tail _ (.tail _ (.head _))), trivial⟩) ?_
         refine kp_done ?_
         refine kl_eqS (r := ((x37.1 == r41.1) && ((x37.2.1 == r41.2.1) && ((x37.2.2.toList == r41.2.2.toList) && true)))) (xs := #[.int .i64 x37.1, .int .i64 x37.2.1, .string x37.2.2]) (ys := #[.int .i64 r41.1, .int .i64 r41.2.1, .string r41.2.2]) true (by kernel_rfl) rfl (by kernel_rfl) (by kernel_rfl) (by kernel_rfl) (by kernel_rfl) (by kernel_rfl) (by kernel_rfl) (by kernel_rfl) ?_
         refine k_nil ?_
         refine k_then ?_
         refine k_cond (t := !((x37.1 == r41.1) && ((x37.2.1 == r41.2.1) && ((x37.2.2.toList == r41.2.2.toList) && true)))) (by kernel_rfl) (fun t42 => ?_) (fun t42 => ?_)
         ·have h := condT h t42
          refine k_seq ?_
          refine k_region ?_
          refine kl_steps 1 [(2, .bool false)] (by kernel_rfl) ?_
          refine k_nil ?_
          refine k_then ?_
          refine k_ret ?_
          refine k_blk_ret ?_
          refine k_then_ret ?_
          refine k_then_ret ?_
          refine k_blk_ret ?_
          refine k_then_ret ?_
          obtain rfl := Option.some.inj h
          refine k_done (v := .bool false) [] [] [] (by kernel_rfl) (by kernel_rfl) trivial ?_
          refine K.drop ?_
          refine K.drop ?_
          refine K.drop ?_
          exact k_end ⟨rfl, rfl⟩
         ·have h := condF h t42
          refine k_skip ?_
          refine k_blk ?_
          refine k_then ?_
          refine k_region ?_
          refine kl_steps 3 [(0, .int .i64 (IntKind.i64.wrap (Int.tmod (IntKind.u64.wrap a0) (300 : Int)))), (5, .pointer (some ⟨b14, 0, none⟩)), (7, .int .i64 (IntKind.i64.wrap (x22 + (1 : Int))))] (by kernel_rfl) ?_
          refine k_nil ?_
          refine k_then ?_
          exact k_again m23 (IntKind.i64.wrap (x22 + (1 : Int))) (Nat.lt_succ_self _) h ⟨rfl, rfl, rfl, trivial⟩ rfl
        ·have h := condF h t24
         refine k_exit ?_
         refine k_then_exit ?_
         refine k_then_exit ?_
         refine k_here ?_
         refine k_then ?_
         refine K.drop ?_
         refine K.drop ?_
         refine K.drop ?_
         exact k_meet () h trivial rfl
    ·have h := hq19
     clear hq19
     refine k_region ?_
     refine kl_steps 1 [(0, .int .i64 (IntKind.i64.wrap (Int.tmod (IntKind.u64.wrap a0) (300 : Int)))), (5, .pointer (some ⟨b14, 0, none⟩)), (44, .pointer (some ⟨b15, 0, none⟩))] (by kernel_rfl) ?_
     refine kl_load (v := .int .i64 r5.2.2.1) [.val (.int .i64 r5.2.2.1)] [.ld ⟨b15, 0, none⟩ (.int .i64 r5.2.2.1)] (by kernel_rfl) (by kernel_rfl) (by kernel_rfl) ⟨⟨0, _, _, _, rfl, rfl, rfl⟩, trivial⟩ ?_
     refine K.drop ?_
     refine kl_steps 2 [(0, .int .i64 (IntKind.i64.wrap (Int.tmod (IntKind.u64.wrap a0) (300 : Int)))), (5, .pointer (some ⟨b14, 0, none⟩)), (47, .bool (r5.2.2.1 != (0 : Int)))] (by kernel_rfl) ?_
     rcases Bool.eq_false_or_eq_true ((r5.2.2.1 != (0 : Int))) with t43 | t43
     ·have h := condT h t43
      refine K.weak (env' := [(0, .int .i64 (IntKind.i64.wrap (Int.tmod (IntKind.u64.wrap a0) (300 : Int)))), (5, .pointer (some ⟨b14, 0, none⟩)), (47, .bool true)]) ?_ ⟨rfl, rfl, congrArg (fun b => some (Value.bool b)) t43, trivial⟩
      refine kl_steps 23 [(0, .int .i64 (IntKind.i64.wrap (Int.tmod (IntKind.u64.wrap a0) (300 : Int)))), (5, .pointer (some ⟨b14, 0, none⟩)), (70, .bool true)] (by kernel_rfl) ?_
      refine k_nil ?_
      refine k_then ?_
      exact k_meet1 ⟨rfl, rfl, congrArg (fun b => some (Value.bool b)) (Option.some.inj h), trivial⟩
     ·have h := condF h t43
      refine K.weak (env' := [(0, .int .i64 (IntKind.i64.wrap (Int.tmod (IntKind.u64.wrap a0) (300 : Int)))), (5, .pointer (some ⟨b14, 0, none⟩)), (47, .bool false)]) ?_ ⟨rfl, rfl, congrArg (fun b => some (Value.bool b)) t43, trivial⟩
      refine kl_steps 1 [(0, .int .i64 (IntKind.i64.wrap (Int.tmod (IntKind.u64.wrap a0) (300 : Int)))), (5, .pointer (some ⟨b14, 0, none⟩)), (47, .bool false), (48, .pointer (some ⟨b14, 0, none⟩))] (by kernel_rfl) ?_
      refine kl_load (v := .slice A7 r5.1.length k8) [.val (.slice A7 r5.1.length k8)] [.ld ⟨b14, 0, none⟩ (.slice A7 r5.1.length k8)] (by kernel_rfl) (by kernel_rfl) (by kernel_rfl) ⟨⟨0, _, _, _, rfl, rfl, rfl⟩, trivial⟩ ?_
      refine kl_steps 4 [(0, .int .i64 (IntKind.i64.wrap (Int.tmod (IntKind.u64.wrap a0) (300 : Int)))), (5, .pointer (some ⟨b14, 0, none⟩)), (53, .bool (((r5.1.length : Nat) : Int) != (1 : Int)))] (by kernel_rfl) ?_
      rcases Bool.eq_false_or_eq_true ((((r5.1.length : Nat) : Int) != (1 : Int))) with t44 | t44
      ·have h := condT h t44
       refine K.weak (env' := [(0, .int .i64 (IntKind.i64.wrap (Int.tmod (IntKind.u64.wrap a0) (300 : Int)))), (5, .pointer (some ⟨b14, 0, none⟩)), (53, .bool true)]) ?_ ⟨rfl, rfl, congrArg (fun b => some (Value.bool b)) t44, trivial⟩
       refine kl_steps 17 [(0, .int .i64 (IntKind.i64.wrap (Int.tmod (IntKind.u64.wrap a0) (300 : Int)))), (5, .pointer (some ⟨b14, 0, none⟩)), (70, .bool true)] (by kernel_rfl) ?_
       refine k_nil ?_
       refine k_then ?_
       exact k_meet1 ⟨rfl, rfl, congrArg (fun b => some (Value.bool b)) (Option.some.inj h), trivial⟩
      ·have h := condF h t44
       refine K.weak (env' := [(0, .int .i64 (IntKind.i64.wrap (Int.tmod (IntKind.u64.wrap a0) (300 : Int)))), (5, .pointer (some ⟨b14, 0, none⟩)), (53, .bool false)]) ?_ ⟨rfl, rfl, congrArg (fun b => some (Value.bool b)) t44, trivial⟩
       refine kl_steps 1 [(0, .int .i64 (IntKind.i64.wrap (Int.tmod (IntKind.u64.wrap a0) (300 : Int)))), (5, .pointer (some ⟨b14, 0, none⟩)), (53, .bool false), (54, .pointer (some ⟨b14, 0, none⟩))] (by kernel_rfl) ?_
       refine kl_load (v := .slice A7 r5.1.length k8) [.val (.slice A7 r5.1.length k8)] [.ld ⟨b14, 0, none⟩ (.slice A7 r5.1.length k8)] (by kernel_rfl) (by kernel_rfl) (by kernel_rfl) ⟨⟨0, _, _, _, rfl, rfl, rfl⟩, trivial⟩ ?_
       obtain ⟨x45, hx45, h⟩ := bindSome h
       refine kl_elemR (T := 42) (kd := .i64) (R := rs42) rfl (by kernel_rfl) (by kernel_rfl) (by kernel_rfl) (by kernel_rfl) (by kernel_rfl) (by kernel_rfl) hx45 (OwnR.rd o9) fun p46 u49 q50 e47 y48 => ?_
       obtain ⟨A51, k52, rfl, o53⟩ := rs42_r q50
       refine kl_efieldP (off := 4) rfl (by kernel_rfl) (by kernel_rfl) (by kernel_rfl) (by kernel_rfl) e47 y48 fun p54 e55 y56 => ?_
       have e55 : Elem _ p54 [.slice A51 x45.2.2.2.2.length k52] := e55
       refine kl_eload1 rfl (by kernel_rfl) (by kernel_rfl) (by kernel_rfl) (by kernel_rfl) e55 (.tail _ (.head _)) ?_
       refine kl_steps 5 [(0, .int .i64 (IntKind.i64.wrap (Int.tmod (IntKind.u64.wrap a0) (300 : Int)))), (5, .pointer (some ⟨b14, 0, none⟩)), (63, .bool (((x45.2.2.2.2.length : Nat) : Int) != (IntKind.i64.wrap (Int.tmod (IntKind.u64.wrap a0) (300 : Int)))))] (by kernel_rfl) ?_
       rcases Bool.eq_false_or_eq_true ((((x45.2.2.2.2.length : Nat) : Int) != (IntKind.i64.wrap (Int.tmod (IntKind.u64.wrap a0) (300 : Int))))) with t57 | t57
       ·have h := condT h t57
        refine K.weak (env' := [(0, .int .i64 (IntKind.i64.wrap (Int.tmod (IntKind.u64.wrap a0) (300 : Int)))), (5, .pointer (some ⟨b14, 0, none⟩)), (63, .bool true)]) ?_ ⟨rfl, rfl, congrArg (fun b => some (Value.bool b)) t57, trivial⟩
        refine kl_steps 7 [(0, .int .i64 (IntKind.i64.wrap (Int.tmod (IntKind.u64.wrap a0) (300 : Int)))), (5, .pointer (some ⟨b14, 0, none⟩)), (70, .bool true)] (by kernel_rfl) ?_
        refine k_nil ?_
        refine k_then ?_
        exact k_meet1 ⟨rfl, rfl, congrArg (fun b => some (Value.bool b)) (Option.some.inj h), trivial⟩
       ·have h := condF h t57
        refine K.weak (env' := [(0, .int .i64 (IntKind.i64.wrap (Int.tmod (IntKind.u64.wrap a0) (300 : Int)))), (5, .pointer (some ⟨b14, 0, none⟩)), (63, .bool false)]) ?_ ⟨rfl, rfl, congrArg (fun b => some (Value.bool b)) t57, trivial⟩
        refine kl_steps 1 [(0, .int .i64 (IntKind.i64.wrap (Int.tmod (IntKind.u64.wrap a0) (300 : Int)))), (5, .pointer (some ⟨b14, 0, none⟩)), (63, .bool false), (64, .pointer (some ⟨b14, 0, none⟩))] (by kernel_rfl) ?_
        refine kl_load (v := .slice A7 r5.1.length k8) [.val (.slice A7 r5.1.length k8)] [.ld ⟨b14, 0, none⟩ (.slice A7 r5.1.length k8)] (by kernel_rfl) (by kernel_rfl) (by kernel_rfl) ⟨⟨0, _, _, _, rfl, rfl, rfl⟩, trivial⟩ ?_
        obtain ⟨x58, hx58, h⟩ := bindSome h
        refine kl_elemR (T := 42) (kd := .i64) (R := rs42) rfl (by kernel_rfl) (by kernel_rfl) (by kernel_rfl) (by kernel_rfl) (by kernel_rfl) (by kernel_rfl) hx58 (OwnR.rd o9) fun p59 u62 q63 e60 y61 => ?_
        obtain ⟨A64, k65, rfl, o66⟩ := rs42_r q63
        refine kl_efieldP (off := 3) rfl (by kernel_rfl) (by kernel_rfl) (by kernel_rfl) (by kernel_rfl) e60 y61 fun p67 e68 y69 => ?_
        have e68 : Elem _ p67 [.int .i64 x58.2.2.2.1, .slice A64 x58.2.2.2.2.length k65] := e68
        refine kl_eload1 rfl (by kernel_rfl) (by kernel_rfl) (by kernel_rfl) (by kernel_rfl) e68 (.tail _ (.head _)) ?_
        refine kl_steps 2 [(0, .int .i64 (IntKind.i64.wrap (Int.tmod (IntKind.u64.wrap a0) (300 : Int)))), (5, .pointer (some ⟨b14, 0, none⟩)), (70, .bool (x58.2.2.2.1 != (0 : Int)))] (by kernel_rfl) ?_
        refine k_nil ?_
        refine k_then ?_
        exact k_meet1 ⟨rfl, rfl, congrArg (fun b => some (Value.bool b)) (Option.some.inj h), trivial⟩
  ·skip
   refine k_seq ?_
   refine k_region ?_
   refine kl_steps 1 [(0, .int .i64 (IntKind.i64.wrap (Int.tmod (IntKind.u64.wrap a0) (300 : Int)))), (3, .string (⟨#[]⟩ : ByteArray)), (4, .int .i64 (0 : Int))] (by kernel_rfl) ?_
   refine k_nil ?_
   refine k_then ?_
   refine k_block ?_
   refine k_loop (τ := ByteArray × Int) (fun t => [(0, .int .i64 (IntKind.i64.wrap (Int.tmod (IntKind.u64.wrap a0) (300 : Int)))), (3, .string t.1), (4, .int .i64 t.2)]) (fun t => X) (fun m t => law13_CheckConsts.l1 m a0 J4 t.1 t.2 = some r) k ((⟨#[]⟩ : ByteArray), (0 : Int)) h ⟨rfl, rfl, rfl, trivial⟩ rfl ?_
   clear h
   rintro m72 ⟨x70, x71⟩ h
   cases m72 with
   | zero => simp [law13_CheckConsts.l1] at h
   | succ m72 =>
    simp only [law13_CheckConsts.l1] at h
    refine k_seq ?_
    refine k_seq ?_
    refine k_region ?_
    refine kl_steps 3 [(0, .int .i64 (IntKind.i64.wrap (Int.tmod (IntKind.u64.wrap a0) (300 : Int)))), (3, .string x70), (4, .int .i64 x71), (16, .bool (decide (x71 < (IntKind.i64.wrap (Int.tmod (IntKind.u64.wrap a0) (300 : Int))))))] (by kernel_rfl) ?_
    refine k_nil ?_
    refine k_then ?_
    refine k_cond (t := decide (x71 < (IntKind.i64.wrap (Int.tmod (IntKind.u64.wrap a0) (300 : Int))))) (by kernel_rfl) (fun t73 => ?_) (fun t73 => ?_)
    ·have h := condT h t73
     refine k_skip ?_
     refine k_then ?_
     refine k_seq ?_
     refine k_block ?_
     refine k_region ?_
     refine kl_steps 2 [(0, .int .i64 (IntKind.i64.wrap (Int.tmod (IntKind.u64.wrap a0) (300 : Int)))), (3, .string x70), (4, .int .i64 x71), (19, .string x70), (20, .int .i64 x71)] (by kernel_rfl) ?_
     obtain ⟨r74, hr74, h⟩ := bindSome h
     refine kl_callv (by kernel_rfl) (by kernel_rfl) (by kernel_rfl) (r02_Format.ok hr74) trivial ?_
     obtain ⟨s75, hs75, h⟩ := bindSome h
     refine kl_cat rfl (by kernel_rfl) (by kernel_rfl) (by kernel_rfl) (by kernel_rfl) hs75 ?_
     obtain ⟨s76, hs76, h⟩ := bindSome h
     refine kl_cat rfl (by kernel_rfl) (by kernel_rfl) (by kernel_rfl) (by kernel_rfl) hs76 ?_
     refine kl_steps 1 [(0, .int .i64 (IntKind.i64.wrap (Int.tmod (IntKind.u64.wrap a0) (300 : Int)))), (3, .string x70), (4, .int .i64 x71), (19, .string x70), (23, .string s76), (24, .int .i64 x71)] (by kernel_rfl) ?_
     obtain ⟨r77, hr77, h⟩ := bindSome h
     refine kl_callv (by kernel_rfl) (by kernel_rfl) (by kernel_rfl) (r02_Format.ok hr77) trivial ?_
     obtain ⟨s78, hs78, h⟩ := bindSome h
     refine kl_cat rfl (by kernel_rfl) (by kernel_rfl) (by kernel_rfl) (by kernel_rfl) hs78 ?_
     obtain ⟨s79, hs79, h⟩ := bindSome h
     refine kl_cat rfl (by kernel_rfl) (by kernel_rfl) (by kernel_rfl) (by kernel_rfl) hs79 ?_
     obtain ⟨s80, hs80, h⟩ := bindSome h
     refine kl_cat rfl (by kernel_rfl) (by kernel_rfl) (by kernel_rfl) (by kernel_rfl) hs80 ?_
     refine kl_steps 1 [(0, .int .i64 (IntKind.i64.wrap (Int.tmod (IntKind.u64.wrap a0) (300 : Int)))), (3, .string s80), (4, .int .i64 x71)] (by kernel_rfl) ?_
     refine k_nil ?_
     refine k_blk ?_
     refine k_then ?_
     refine k_region ?_
     refine kl_steps 3 [(0, .int .i64 (IntKind.i64.wrap (Int.tmod (IntKind.u64.wrap a0) (300 : Int)))), (3, .string s80), (4, .int .i64 (IntKind.i64.wrap (x71 + (1 : Int))))] (by kernel_rfl) ?_
     refine k_nil ?_
     refine k_then ?_
     exact k_again m72 (s80, IntKind.i64.wrap (x71 + (1 : Int))) (Nat.lt_succ_self _) h ⟨rfl, rfl, rfl, trivial⟩ rfl
    ·have h := condF h t73
     refine k_exit ?_
     refine k_then_exit ?_
     refine k_then_exit ?_
     refine k_here ?_
     refine k_then ?_
     exact k_meet x70 h ⟨rfl, rfl, trivial⟩ rfl
end Go.Proofs.YtdkgnlaneccioaaGreatDoor
namespace Go.Proofs.YtdkgnlaneccioaaGreatDoor
open Go Go.RowKit Lx
theorem catE {a b : ByteArray} (h : a.size + b.size ≤ 9223372036854775807) : sCat a b = some (str (bs a ++ bs b)) := by
 rw [catC h]
 have : a ++ b = str (bs a ++ bs b) := bs_inj (by rw [bs_str]; simp [bs])
 rw [this]
theorem scanL_tok (w x t : Bs) (at_ : Nat) (acc : List Tok) (k n : Int) (hst : stepF (w ++ x) = .tok k t n w.length) (h0 : runL blankR (w ++ x) = 0) : scanL (w ++ x) at_ acc = scanL x (at_ + w.length) (acc ++ [⟨k, t, n, at_⟩]) := by
 rw [scanL_step, h0, List.drop_zero, Nat.add_zero, hst]
 simp only
 rw [List.drop_left]
theorem run_stop (p : Nat → Bool) (x : UInt8) (r : Bs) (hx : x.toNat < 128) (hp : p x.toNat = false) : runL p (x :: r) = 0 := by
 rw [runL_step _ _ (by simp), decL_low x r hx]
 simp [hp]
end Go.Proofs.YtdkgnlaneccioaaGreatDoor
namespace Go.Proofs.YtdkgnlaneccioaaGreatDoor
open Go Go.RowKit Lx
def Alike (r r' : Bs) : Prop := (r = [] ∧ r' = []) ∨ ∃ x t t', r = x :: t ∧ (r' = x :: t' ∨ (x = 97 ∧ r' = 122 :: t'))
theorem hexG_ext (r r' : Bs) : ∀ (m : Nat) (t : Bs) (a b : Nat), (hexG m (t ++ r) a b).2 < b + t.length → hexG m (t ++ r') a b = hexG m (t ++ r) a b
 | 0, _, _, _, _ => rfl
 | m + 1, [], a, b, h => by
  exfalso
  have : ∀ (m : Nat) (t : Bs) (a b : Nat), b ≤ (hexG m t a b).2 := by
   intro m
   induction m with
   | zero => intro t a b; exact Nat.le_refl _
   | succ m ih =>
    intro t a b
    cases t with
    | nil => exact Nat.le_refl _
    | cons x t =>
     simp only [hexG]
     split
     ·exact Nat.le_refl _
     ·rename_i dd _; have := ih t (16 * a + dd) (b + 1); omega
  have := this (m + 1) ([] ++ r) a b
  simp only [List.length_nil] at h
  omega
 | m + 1, x :: t, a, b, h => by
  simp only [List.cons_append, hexG] at h ⊢
  split
  ·rfl
  ·rename_i d hd
   rw [hd] at h
   simp only at h
   exact hexG_ext r r' m t _ _ (by simp only [List.length_cons] at h; omega)
theorem decG_ext (r r' : Bs) : ∀ (m : Nat) (t : Bs) (a b : Nat), (decG m (t ++ r) a b).2 < b + t.length → decG m (t ++ r') a b = decG m (t ++ r) a b
 | 0, _, _, _, _ => rfl
 | m + 1, [], a, b, h => by
  exfalso
  have : ∀ (m : Nat) (t : Bs) (a b : Nat), b ≤ (decG m t a b).2 := by
   intro m
   induction m with
   | zero => intro t a b; exact Nat.le_refl _
   | succ m ih =>
    intro t a b
    cases t with
    | nil => exact Nat.le_refl _
    | cons x t =>
     simp only [decG]
     split
     ·have := ih t (10 * a + (x.toNat - 48)) (b + 1); omega
     ·exact Nat.le_refl _
  have := this (m + 1) ([] ++ r) a b
  simp only [List.length_nil] at h
  omega
 | m + 1, x :: t, a, b, h => by
  simp only [List.cons_append, decG] at h ⊢
  split
  ·rename_i hd
   rw [if_pos hd] at h
   exact decG_ext r r' m t _ _ (by simp only [List.length_cons] at h; omega)
  ·rfl
theorem escF_ext (t r r' e : Bs) (n : Nat) (h : escF (t ++ r) = .ok e n) (hn : n ≤ t.length) : escF (t ++ r') = .ok e n := by
 have h2 := (escF_room _ _ _ h).1
 obtain ⟨c, d, t, rfl⟩ : ∃ c d t', t = c :: d :: t' := by
  match t, hn with
  | [], hn => simp at hn; omega
  | [_], hn => simp at hn; omega
  | c :: d :: t, _ => exact ⟨c, d, t, rfl⟩
 simp only [List.cons_append, List.length_cons] at h hn ⊢
 rw [escF_eq] at h ⊢
 by_cases h1 : plainB c ≠ 0
 ·rw [if_pos h1] at h ⊢; exact h
 rw [if_neg h1] at h ⊢
 by_cases h3 : c = 120
 ·rw [if_pos h3] at h ⊢
  split at h
  ·cases h
  ·rename_i hx
   have hn4 : n = 4 := by cases h; rfl
   have hle : (hexG 2 (d :: t ++ r) 0 0).2 ≤ 2 := by
    have : ∀ (m : Nat) (t : Bs) (a b : Nat), (hexG m t a b).2 ≤ b + m := by
     intro m
     induction m with
     | zero => intro t a b; exact Nat.le_refl _
     | succ m ih =>
      intro t a b
      cases t with
      | nil => simp [hexG]
      | cons x t =>
       simp only [hexG]
       split
       ·simp
       ·rename_i dd _; have := ih t (16 * a + dd) (b + 1); omega
    have := this 2 (d :: t ++ r) 0 0
    omega
   have := hexG_ext r r' 2 (d :: t) 0 0 (by simp only [List.length_cons]; omega)
   simp only [List.cons_append] at this
   rw [this, if_neg hx]
   exact h
 rw [if_neg h3] at h ⊢
 by_cases h4 : c = 117 ∧ (d :: (t ++ r)).head? = some 123
 ·rw [if_pos h4] at h
  rw [if_pos (show c = 117 ∧ (d :: (t ++ r')).head? = some 123 from h4)]
  simp only [List.tail_cons] at h ⊢
  unfold uF at h ⊢
  split at h
  ·cases h
  ·rename_i hx
   have hn4 : n = 4 + (hexG 8 (t ++ r) 0 0).2 := by simp only [Esc.ok.injEq] at h; exact h.2.symm
   have e := hexG_ext r r' 8 t 0 0 (by omega)
   rw [e]
   have hd : ((t ++ r').drop (hexG 8 (t ++ r) 0 0).2).head? = ((t ++ r).drop (hexG 8 (t ++ r) 0 0).2).head? := by
    rw [drop_app _ _ _ (by omega), drop_app _ _ _ (by omega)]
    cases hq : t.drop (hexG 8 (t ++ r) 0 0).2 with
    | nil =>
     have := congrArg List.length hq
     rw [List.length_drop, List.length_nil] at this
     omega
    | cons y u => rfl
   rw [hd, if_neg hx]
   exact h
 ·rw [if_neg h4] at h
  rw [if_neg (show ¬ (c = 117 ∧ (d :: (t ++ r')).head? = some 123) from h4)]
  split at h
  ·cases h
  ·rename_i hx
   have hn4 : n = 1 + (decG 3 (c :: d :: (t ++ r)) 0 0).2 := by simp only [Esc.ok.injEq] at h; exact h.2.symm
   have e := decG_ext r r' 3 (c :: d :: t) 0 0 (by simp only [List.cons_append, List.length_cons]; omega)
   simp only [List.cons_append] at e
   rw [e, if_neg hx]
   exact h
theorem textG_ext (q : UInt8) (r r' : Bs) : ∀ (f g : Nat) (l acc : Bs) (i : Nat) (v : Bs) (k : Nat), f ≤ g → textG q f (l ++ r) acc i = .ok v k → k ≤ i + l.length → textG q g (l ++ r') acc i = .ok v k
 | 0, _, l, acc, i, v, k, _, h, _ => by cases h
 | f + 1, 0, _, _, _, _, _, hf, _, _ => by omega
 | f + 1, g + 1, [], acc, i, v, k, _, h, hk => by
  have := (textG_room _ _ _ _ _ _ _ h).1
  simp only [List.length_nil] at hk
  omega
 | f + 1, g + 1, b :: t, acc, i, v, k, hf, h, hk => by
  rw [List.cons_append] at h ⊢
  simp only [List.length_cons] at hk
  simp only [textG] at h ⊢
  by_cases h1 : b = 10
  ·rw [if_pos h1] at h; cases h
  rw [if_neg h1] at h ⊢
  by_cases h2 : b = q
  ·rw [if_pos h2] at h ⊢; exact h
  rw [if_neg h2] at h ⊢
  by_cases h3 : b = 92
  ·rw [if_pos h3] at h ⊢
   cases he : escF (t ++ r) with
   | ended => rw [he] at h; cases h
   | unfit => rw [he] at h; cases h
   | ok e n =>
    rw [he] at h
    simp only at h
    have hroom := textG_room _ _ _ _ _ _ _ h
    have hn : n ≤ t.length := by omega
    rw [escF_ext t r r' e n he hn]
    simp only
    rw [show b :: (t ++ r) = (b :: t) ++ r from rfl, drop_app _ _ _ (by simp only [List.length_cons]; omega)] at h
    rw [show b :: (t ++ r') = (b :: t) ++ r' from rfl, drop_app _ _ _ (by simp only [List.length_cons]; omega)]
    exact textG_ext q r r' f g _ _ _ v k (by omega) h (by rw [List.length_drop, List.length_cons]; omega)
  ·rw [if_neg h3] at h ⊢
   exact textG_ext q r r' f g _ _ _ v k (by omega) h (by omega)
theorem run_rest (p : Nat → Bool) : ∀ (n : Nat) (l : Bs), l.length ≤ n → runL p (l.drop (runL p l)) = 0
 | 0, l, h => by
  have : l = [] := List.eq_nil_of_length_eq_zero (by omega)
  subst this; rfl
 | n + 1, l, h => by
  by_cases hl : l = []
  ·subst hl; rfl
  ·have hw := decL_width l
   have hs := runL_step p l hl
   by_cases hp : p (decL l).1 = true
   ·rw [if_pos hp] at hs
    rw [hs, ← List.drop_drop]
    exact run_rest p n _ (by rw [List.length_drop]; omega)
   ·rw [if_neg hp] at hs
    rw [hs]
    exact hs
theorem sign_low (s : Bs) (hs : s ∈ signList) : ∃ c u, s = c :: u ∧ c.toNat < 128 := by
 have : ∀ s ∈ signList, s ≠ [] ∧ (s.headD 0).toNat < 128 := by decide
 obtain ⟨h1, h2⟩ := this s hs
 cases s with
 | nil => exact absurd rfl h1
 | cons c u => exact ⟨c, u, rfl, h2⟩
def Opens (r : Bs) : Prop := ∀ c n, stepF (r.drop (runL blankR r)) ≠ .bad c n
theorem high_bad {x : UInt8} {t : Bs} (h : ¬ x.toNat < 128) (hp : partR (decL (x :: t)).1 = false) : ¬ Opens (x :: t) := by
 have h1 : 128 ≤ (decL (x :: t)).1 := by
  by_cases hlt : (decL (x :: t)).1 < 128
  ·exfalso
   have : ∀ l : Bs, (decL l).1 < 128 → (l.getD 0 0).toNat < 128 := by
    intro l hl
    unfold decL at hl
    simp only at hl
    by_cases h0 : (l.getD 0 0).toNat < 128
    ·exact h0
    ·exfalso
     rw [if_neg h0] at hl
     (repeat' split at hl) <;> simp_all <;> omega
   exact h (this _ hlt)
  ·omega
 intro ho
 have hb : runL blankR (x :: t) = 0 := by
  rw [runL_step _ _ (by simp), if_neg]
  unfold blankR
  simp only [Bool.or_eq_true, beq_iff_eq]
  omega
 have hl : letterR (decL (x :: t)).1 = false := by
  unfold partR at hp
  simp only [Bool.or_eq_false_iff] at hp
  exact hp.1
 have hd : digitR (decL (x :: t)).1 = false := by
  unfold partR at hp
  simp only [Bool.or_eq_false_iff] at hp
  exact hp.2
 have h45 : [45, 45].isPrefixOf (x :: t) = false := by
  have : (45 == x) = false := by
   rw [beq_eq_false_iff_ne]
   rintro rfl
   exact h (by decide)
  simp [List.isPrefixOf, this]
 have hs : signF (x :: t) = none := by
  unfold signF
  rw [List.find?_eq_none]
  intro s hs hp
  obtain ⟨c, u, rfl, hc⟩ := sign_low s hs
  simp only [List.isPrefixOf, Bool.and_eq_true, beq_iff_eq] at hp
  exact h (by rw [← hp.1]; exact hc)
 refine ho 4 0 ?_
 rw [hb, List.drop_zero]
 unfold stepF
 rw [if_neg (by simp), h45]
 simp only [Bool.false_eq_true, if_false, hl, hd]
 rw [if_neg (by omega), hs]
theorem part_stop {r r' : Bs} (ho : Opens r) (hp : runL partR r = 0) (ha : Alike r r') : (∀ x t, r = x :: t → x.toNat < 128) ∧ (∀ x t, r' = x :: t → x.toNat < 128) ∧ runL partR r' = 0 := by
 rcases ha with ⟨rfl, rfl⟩ | ⟨x, t, t', rfl, h⟩
 ·exact ⟨fun _ _ h => (by cases h), fun _ _ h => (by cases h), rfl⟩
 ·have hx : partR (decL (x :: t)).1 = false := by
   rw [runL_step _ _ (by simp)] at hp
   split at hp
   ·have := decL_width (x :: t); omega
   ·rename_i hq; simpa using hq
  have hlow : x.toNat < 128 := by
   by_cases hl : x.toNat < 128
   ·exact hl
   ·exact absurd ho (high_bad hl hx)
  rw [decL_low x t hlow] at hx
  rcases h with rfl | ⟨rfl, rfl⟩
  ·exact ⟨fun y u e => (by cases e; exact hlow), fun y u e => (by cases e; exact hlow), run_stop partR x t' hlow hx⟩
  ·exact absurd hx (by decide)
theorem sign_two : ∀ u ∈ signList, ∀ a : UInt8, u.length ≤ 2 ∧ u[1]? ≠ some 97 ∧ u[1]? ≠ some 122 := by
 intro u hu a
 have : ∀ u ∈ signList, u.length ≤ 2 ∧ u[1]? ≠ some 97 ∧ u[1]? ≠ some 122 := by decide
 exact this u hu
theorem pre_alike (u s r r' : Bs) (hu : u.length ≤ 2) (h1 : u[1]? ≠ some 97) (h2 : u[1]? ≠ some 122) (hs : s ≠ []) (ha : Alike r r') : u.isPrefixOf (s ++ r') = u.isPrefixOf (s ++ r) := by
 obtain ⟨c, s, rfl⟩ : ∃ c s', s = c :: s' := by cases s with | nil => exact absurd rfl hs | cons c s' => exact ⟨c, s', rfl⟩
 match u, hu with
 | [], _ => rfl
 | [a], _ => simp [List.isPrefixOf]
 | [a, b], _ =>
  cases s with
  | cons d s => simp [List.isPrefixOf]
  | nil =>
   rcases ha with ⟨rfl, rfl⟩ | ⟨x, t, t', rfl, h⟩
   ·rfl
   ·rcases h with rfl | ⟨rfl, rfl⟩
    ·simp [List.isPrefixOf]
    ·have hb : (b == 97) = false := by
      rw [beq_eq_false_iff_ne]; rintro rfl; exact h1 rfl
     have hb' : (b == 122) = false := by
      rw [beq_eq_false_iff_ne]; rintro rfl; exact h2 rfl
     simp [List.isPrefixOf, hb, hb']
theorem tok_split {l : Bs} {k : Int} {tx : Bs} {n : Int} {len : Nat} (h : stepF l = .tok k tx n len) : k = 4 ∨ tx = l.take len := by
 unfold stepF at h
 dsimp only at h
 split at h
 ·cases h
 split at h
 ·cases h
 split at h
 ·split at h
  ·cases h
  ·simp only [Step.tok.injEq] at h
   obtain ⟨_, h2, _, h4⟩ := h
   rw [← h4]; exact .inr h2.symm
 split at h
 ·split at h
  ·cases h
  ·simp only [Step.tok.injEq] at h
   obtain ⟨_, h2, _, h4⟩ := h
   rw [← h4]; exact .inr h2.symm
 split at h
 ·split at h
  ·cases h
  ·simp only [Step.tok.injEq] at h
   exact .inl h.1.symm
 ·split at h
  ·cases h
  ·rename_i s hs
   simp only [Step.tok.injEq] at h
   obtain ⟨_, rfl, _, rfl⟩ := h
   have hp := List.find?_some hs
   obtain ⟨u, rfl⟩ := List.isPrefixOf_iff_prefix.1 hp
   exact .inr (by simp)
theorem tok_ext {w r r' : Bs} {k : Int} {tx : Bs} {n : Int} (h : stepF (w ++ r) = .tok k tx n w.length) (ho : Opens r) (ha : Alike r r') (hlen : r.length ≤ r'.length) : stepF (w ++ r') = .tok k tx n w.length := by
 have hw1 := (stepF_take _).2 _ _ _ _ h
 have hne : w ≠ [] := List.length_pos_iff.1 (by omega)
 have hpre : [45, 45].isPrefixOf (w ++ r') = [45, 45].isPrefixOf (w ++ r) := pre_alike [45, 45] w r r' (by decide) (by decide) (by decide) hne ha
 have hnl : w ++ r ≠ [] := by simp [hne]
 have hnl' : w ++ r' ≠ [] := by simp [hne]
 unfold stepF at h ⊢
 dsimp only at h ⊢
 rw [if_neg hnl] at h
 rw [if_neg hnl', hpre]
 by_cases c1 : [45, 45].isPrefixOf (w ++ r) = true
 ·rw [if_pos c1] at h; cases h
 rw [if_neg c1] at h ⊢
 -- a run of letters and digits
 have run : runL partR (w ++ r) = w.length → decL (w ++ r') = decL (w ++ r) ∧ runL partR (w ++ r') = w.length := fun hr => by
  have h0 := run_rest partR _ (w ++ r) (Nat.le_refl _)
  rw [hr, List.drop_left] at h0
  obtain ⟨g1, g2, g3⟩ := part_stop ho h0 ha
  have e1 := runL_append partR r g1 w.length w (Nat.le_refl _) (.inr h0)
  have e2 := runL_append partR r' g2 w.length w (Nat.le_refl _) (.inr g3)
  exact ⟨by rw [decL_append w r hne g1, decL_append w r' hne g2], by rw [e2, ← e1, hr]⟩
 by_cases c2 : letterR (decL (w ++ r)).1 = true
 ·rw [if_pos c2] at h
  split at h
  ·cases h
  ·rename_i h40
   have hr : runL partR (w ++ r) = w.length := by simp only [Step.tok.injEq] at h; exact h.2.2.2
   obtain ⟨g1, g2⟩ := run hr
   rw [hr, List.take_left] at h
   rw [g1, if_pos c2, g2, if_neg (by omega), List.take_left]
   exact h
 rw [if_neg c2] at h
 by_cases c3 : digitR (decL (w ++ r)).1 = true
 ·rw [if_pos c3] at h
  split at h
  ·cases h
  ·rename_i h40
   have hr : runL partR (w ++ r) = w.length := by simp only [Step.tok.injEq] at h; exact h.2.2.2
   obtain ⟨g1, g2⟩ := run hr
   rw [hr, List.take_left] at h h40
   rw [g1, if_neg c2, if_pos c3, g2, List.take_left, if_neg h40]
   exact h
 rw [if_neg c3] at h
 by_cases c4 : (decL (w ++ r)).1 = 34 ∨ (decL (w ++ r)).1 = 39
 ·rw [if_pos c4] at h
  obtain ⟨b, w, rfl⟩ : ∃ b w', w = b :: w' := by cases w with | nil => exact absurd rfl hne | cons b w' => exact ⟨b, w', rfl⟩
  have hb : b.toNat < 128 := by
   by_cases hb : b.toNat < 128
   ·exact hb
   ·exfalso
    have : ∀ l : Bs, (decL l).1 < 128 → (l.getD 0 0).toNat < 128 := by
     intro l hl
     unfold decL at hl
     simp only at hl
     by_cases h0 : (l.getD 0 0).toNat < 128
     ·exact h0
     ·exfalso
      rw [if_neg h0] at hl
      (repeat' split at hl) <;> simp_all <;> omega
    exact hb (this (b :: w ++ r) (by omega))
  have hd : decL (b :: w ++ r') = decL (b :: w ++ r) := by
   rw [List.cons_append, List.cons_append, decL_low b _ hb, decL_low b _ hb]
  rw [hd, if_neg c2, if_neg c3, if_pos c4]
  simp only [List.cons_append, List.tail_cons, List.length_cons] at h ⊢
  cases ht : textG (UInt8.ofNat (decL (b :: (w ++ r))).1) ((w ++ r).length + 1) (w ++ r) [] 1 with
  | bad c m => rw [ht] at h; cases h
  | ok v m =>
   rw [ht] at h
   simp only [Step.tok.injEq] at h
   obtain ⟨g1, g2, g3, g4⟩ := h
   subst g4
   rw [textG_ext _ r r' _ ((w ++ r').length + 1) w [] 1 v _ (by simp only [List.length_append]; omega) ht (by omega)]
   simp only [Step.tok.injEq]
   exact ⟨g1, g2, g3, trivial⟩
 rw [if_neg c4] at h
 split at h
 ·cases h
 ·rename_i s hs
  simp only [Step.tok.injEq] at h
  obtain ⟨g1, g2, g3, g4⟩ := h
  have hin : s ∈ signList := List.mem_of_find?_eq_some hs
  have hp := List.find?_some hs
  obtain ⟨u, hu⟩ := List.isPrefixOf_iff_prefix.1 hp
  have hsw : s = w := by
   have := congrArg (List.take w.length) hu
   rw [List.take_left, ← g4, List.take_left] at this
   exact this
  subst hsw
  obtain ⟨c, v, rfl, hc⟩ := sign_low s hin
  have hd : decL (c :: v ++ r') = decL (c :: v ++ r) := by
   rw [List.cons_append, List.cons_append, decL_low c _ hc, decL_low c _ hc]
  have hf : signF (c :: v ++ r') = signF (c :: v ++ r) := by
   unfold signF
   refine find_congr _ _ _ fun x hx => ?_
   obtain ⟨z1, z2, z3⟩ := sign_two x hx 0
   exact pre_alike x (c :: v) r r' z1 z2 z3 hne ha
  rw [hd, if_neg c2, if_neg c3, if_neg c4, hf, hs]
  simp only [Step.tok.injEq]
  exact ⟨g1, g2, g3, trivial⟩
theorem skip_ext {w r r' : Bs} (h : stepF (w ++ r) = .skip w.length) (ha : Alike r r') : stepF (w ++ r') = .skip w.length := by
 have hw1 := (stepF_take _).1 _ h
 have hne : w ≠ [] := List.length_pos_iff.1 (by omega)
 obtain ⟨_, hp, hn⟩ := skip_is h
 have hpre : [45, 45].isPrefixOf (w ++ r') = [45, 45].isPrefixOf (w ++ r) := pre_alike [45, 45] w r r' (by decide) (by decide) (by decide) hne ha
 rcases ha with ⟨rfl, rfl⟩ | ⟨x, t, t', rfl, hx⟩
 ·exact h
 have h0 := run_rest inLineR _ (w ++ x :: t) (Nat.le_refl _)
 rw [← hn, List.drop_left] at h0
 have h10 : x = 10 := by
  rw [runL_step _ _ (by simp)] at h0
  split at h0
  ·have := decL_width (x :: t); omega
  ·rename_i hq
   have hq : (decL (x :: t)).1 = 10 := by simpa [inLineR] using hq
   have hlow : x.toNat < 128 := by
    have : ∀ l : Bs, (decL l).1 < 128 → (l.getD 0 0).toNat < 128 := by
     intro l hl
     unfold decL at hl
     simp only at hl
     by_cases h0 : (l.getD 0 0).toNat < 128
     ·exact h0
     ·exfalso
      rw [if_neg h0] at hl
      (repeat' split at hl) <;> simp_all <;> omega
    exact this (x :: t) (by omega)
   rw [decL_low x t hlow] at hq
   exact UInt8.toNat_inj.1 hq
 subst h10
 have hr' : r' = 10 :: t' := by
  rcases hx with h | ⟨h, _⟩
  ·exact h
  ·cases h
 subst hr'
 have e1 := runL_append inLineR (10 :: t) (fun y u e => (by cases e; decide)) w.length w (Nat.le_refl _) (.inr h0)
 have h0' : runL inLineR (10 :: t') = 0 := run_stop inLineR 10 t' (by decide) (by decide)
 have e2 := runL_append inLineR (10 :: t') (fun y u e => (by cases e; decide)) w.length w (Nat.le_refl _) (.inr h0')
 unfold stepF
 rw [if_neg (by simp), hpre, if_pos hp, e2, ← e1, ← hn]
end Go.Proofs.YtdkgnlaneccioaaGreatDoor
namespace Go.Proofs.YtdkgnlaneccioaaGreatDoor
open Go Go.RowKit Lx
abbrev zzz : Bs := [122, 122, 122]
def isATok (x : Tok) : Bool := x.kind == 1 && x.text == [97]
def renS : List Tok → Bs → Nat → Bs
 | [], l, _ => l
 | x :: T, l, p => if isATok x = true then l.take (x.at_ - p) ++ zzz ++ renS T (l.drop (x.at_ - p + 1)) (x.at_ + 1) else renS T l p
theorem renS_skip (m : Nat) : ∀ (T : List Tok) (l : Bs) (p : Nat), (∀ x ∈ T, p + m ≤ x.at_) → renS T l p = l.take m ++ renS T (l.drop m) (p + m)
 | [], l, p, _ => (List.take_append_drop m l).symm
 | x :: T, l, p, h => by
  have hx := h x (List.mem_cons_self ..)
  unfold renS
  split
  ·have e1 : x.at_ - p = m + (x.at_ - (p + m)) := by omega
   rw [e1, List.take_add, List.drop_drop, show m + (x.at_ - (p + m)) + 1 = m + (x.at_ - (p + m) + 1) by omega]
   simp only [List.append_assoc]
  ·exact renS_skip m T l p fun y hy => h y (List.mem_cons_of_mem _ hy)
theorem renS_len : ∀ (T : List Tok) (l : Bs) (p : Nat), l.length ≤ (renS T l p).length
 | [], l, p => Nat.le_refl _
 | x :: T, l, p => by
  unfold renS
  split
  ·have := renS_len T (l.drop (x.at_ - p + 1)) (x.at_ + 1)
   simp only [List.length_append, List.length_take, List.length_cons, List.length_nil, List.length_drop] at this ⊢
   omega
  ·exact renS_len T l p
theorem shift0 (t : List Tok) : t.map (shift 0) = t := by
 induction t with
 | nil => rfl
 | cons x t ih => rw [List.map_cons, ih]; rfl
theorem scan_acc {l : Bs} {p : Nat} {t : List Tok} (acc : List Tok) (h : scanL l p [] = .inr t) : scanL l p acc = .inr (acc ++ t) := by
 have := scanL_shift 0 l.length l p acc [] (Nat.le_refl _)
 rw [h] at this
 simp only [List.map_nil, List.append_nil, Nat.add_zero, shift0] at this
 exact this
theorem scan_acc' {l : Bs} {p : Nat} {t acc : List Tok} (h : scanL l p acc = .inr t) : ∃ t', scanL l p [] = .inr t' ∧ t = acc ++ t' := by
 have := scanL_shift 0 l.length l p acc [] (Nat.le_refl _)
 simp only [List.map_nil, List.append_nil, Nat.add_zero, shift0] at this
 rw [h] at this
 cases hs : scanL l p [] with
 | inl e => rw [hs] at this; cases this
 | inr t' => rw [hs] at this; cases this; exact ⟨t', rfl, rfl⟩
theorem scan_next {l : Bs} {p : Nat} {T : List Tok} (h : scanL l p [] = .inr T) :
  (l.drop (runL blankR l) = [] ∧ T = [⟨6, [], 0, p + runL blankR l⟩]) ∨
  (∃ n, stepF (l.drop (runL blankR l)) = .skip n ∧ scanL ((l.drop (runL blankR l)).drop n) (p + runL blankR l + n) [] = .inr T) ∨
  (∃ k tx x n T2, stepF (l.drop (runL blankR l)) = .tok k tx x n ∧ T = ⟨k, tx, x, p + runL blankR l⟩ :: T2 ∧ scanL ((l.drop (runL blankR l)).drop n) (p + runL blankR l + n) [] = .inr T2) := by
 rw [scanL_step] at h
 cases hst : stepF (l.drop (runL blankR l)) with
 | done =>
  rw [hst] at h
  cases h
  exact .inl ⟨done_is hst, rfl⟩
 | bad c r => rw [hst] at h; cases h
 | skip n => rw [hst] at h; exact .inr (.inl ⟨n, rfl, h⟩)
 | tok k tx x n =>
  rw [hst] at h
  obtain ⟨T2, h2, e⟩ := scan_acc' h
  exact .inr (.inr ⟨k, tx, x, n, T2, rfl, e, h2⟩)
theorem opens_of {l : Bs} {p : Nat} {T : List Tok} (h : scanL l p [] = .inr T) : Opens l := fun c n e => by
 rw [scanL_step, e] at h
 cases h
theorem scan_low {l : Bs} {p : Nat} {T : List Tok} (h : scanL l p [] = .inr T) : ∀ x ∈ T, p ≤ x.at_ := fun x hx => by
 rcases (scan_count l.length l p [] T (Nat.le_refl _) h).2.2 x hx with h | h
 ·cases h
 ·exact h.1
theorem alike_of {r : Bs} {q : Nat} {T : List Tok} (h : scanL r q [] = .inr T) : Alike r (renS T r q) := by
 cases r with
 | nil =>
  rcases scan_next h with ⟨_, rfl⟩ | ⟨n, hn, _⟩ | ⟨k, tx, x, n, T2, hn, _⟩
  ·exact .inl ⟨rfl, rfl⟩
  ·cases hn
  ·cases hn
 | cons b t =>
  have same : (∀ x ∈ T, q + 1 ≤ x.at_) → Alike (b :: t) (renS T (b :: t) q) := fun hT => by
   rw [renS_skip 1 T (b :: t) q hT]
   exact .inr ⟨b, t, _, rfl, .inl rfl⟩
  rcases scan_next h with ⟨h0, rfl⟩ | ⟨n, hn, h2⟩ | ⟨k, tx, x, n, T2, hn, rfl, h2⟩
  ·refine .inr ⟨b, t, t, rfl, .inl rfl⟩
  ·have := (stepF_take _).1 _ hn
   exact same fun x hx => by have := scan_low h2 x hx; omega
  ·have hlen := (stepF_take _).2 _ _ _ _ hn
   by_cases hk : 1 ≤ runL blankR (b :: t)
   ·refine same fun y hy => ?_
    rcases List.mem_cons.1 hy with rfl | hy
    ·show q + 1 ≤ q + _; omega
    ·have := scan_low h2 y hy; omega
   ·have hk0 : runL blankR (b :: t) = 0 := by omega
    rw [hk0] at hn h2 hlen ⊢
    simp only [List.drop_zero, Nat.add_zero] at hn h2 hlen ⊢
    by_cases hA : isATok ⟨k, tx, x, q⟩ = true
    ·unfold renS
     rw [if_pos hA]
     simp only [isATok, Bool.and_eq_true, beq_iff_eq] at hA
     obtain ⟨rfl, rfl⟩ := hA
     rcases tok_split hn with h | h
     ·cases h
     ·obtain ⟨m, rfl⟩ : ∃ m, n = m + 1 := ⟨n - 1, by omega⟩
      rw [List.take_succ_cons] at h
      simp only [List.cons.injEq] at h
      obtain ⟨rfl, _⟩ := h
      simp only [Nat.sub_self, List.take_zero, List.nil_append]
      exact .inr ⟨97, t, _, rfl, .inr ⟨rfl, rfl⟩⟩
    ·unfold renS
     rw [if_neg hA, renS_skip 1 T2 (b :: t) q fun y hy => by have := scan_low h2 y hy; omega]
     exact .inr ⟨b, t, _, rfl, .inl rfl⟩
theorem decL_head (b : UInt8) (t : Bs) (h : (decL (b :: t)).1 < 128) : b.toNat < 128 := by
 have : ∀ l : Bs, (decL l).1 < 128 → (l.getD 0 0).toNat < 128 := by
  intro l hl
  unfold decL at hl
  simp only at hl
  by_cases h0 : (l.getD 0 0).toNat < 128
  ·exact h0
  ·exfalso
   rw [if_neg h0] at hl
   (repeat' split at hl) <;> simp_all <;> omega
 exact this (b :: t) h
theorem blank_head {b : UInt8} {t t' : Bs} (h : runL blankR (b :: t) = 0) : runL blankR (b :: t') = 0 := by
 by_cases hb : b.toNat < 128
 ·rw [runL_step _ _ (by simp), decL_low b _ hb] at h ⊢
  simp only at h ⊢
  split at h
  ·omega
  ·rename_i hq; rw [if_neg hq]
 ·rw [runL_step _ _ (by simp), if_neg]
  intro hq
  have : (decL (b :: t')).1 < 128 := by
   unfold blankR at hq
   simp only [Bool.or_eq_true, beq_iff_eq] at hq
   omega
  exact hb (decL_head b t' this)
structure RTok (x x' : Tok) : Prop where
 kind : x'.kind = x.kind
 n : x'.n = x.n
 text : x'.text = if isATok x = true then zzz else x.text
def RTs : List Tok → List Tok → Prop
 | [], [] => True
 | x :: T, x' :: T' => RTok x x' ∧ RTs T T'
 | _, _ => False
theorem ren_scan : ∀ (n : Nat) (l : Bs) (p : Nat) (T : List Tok), l.length ≤ n → scanL l p [] = .inr T → ∀ p', ∃ T', scanL (renS T l p) p' [] = .inr T' ∧ RTs T T' := by
 intro n
 induction n with
 | zero =>
  intro l p T hn h p'
  have : l = [] := List.eq_nil_of_length_eq_zero (by omega)
  subst this
  rcases scan_next h with ⟨_, rfl⟩ | ⟨n, hn, _⟩ | ⟨k, tx, x, n, T2, hn, _⟩
  ·exact ⟨[⟨6, [], 0, p'⟩], by show scanL [] p' [] = _; rw [scanL_step]; rfl, ⟨rfl, rfl, rfl⟩, trivial⟩
  ·cases hn
  ·cases hn
 | succ n ih =>
  intro l p T hn h p'
  have hbl := blank_bytes l.length l (Nat.le_refl _)
  have hkle := runL_le' blankR l
  have hrest := run_rest blankR l.length l (Nat.le_refl _)
  have hblank : ∀ X, scanL (l.take (runL blankR l) ++ X) p' [] = scanL X (p' + runL blankR l) [] := fun X => by
   rw [scanL_blanks X p' [] (l.take (runL blankR l)) hbl, List.length_take, Nat.min_eq_left hkle]
  rcases scan_next h with ⟨h0, rfl⟩ | ⟨m, hm, h2⟩ | ⟨k, tx, x, m, T2, hm, rfl, h2⟩
  ·refine ⟨[⟨6, [], 0, p' + runL blankR l⟩], ?_, ⟨rfl, rfl, rfl⟩, trivial⟩
   show scanL l p' [] = _
   rw [scanL_step, h0]
   rfl
  ·have hlen := (stepF_take _).1 _ hm
   rw [List.length_drop] at hlen
   obtain ⟨T', hT', hR⟩ := ih ((l.drop (runL blankR l)).drop m) (p + runL blankR l + m) T (by rw [List.length_drop, List.length_drop]; omega) h2 (p' + runL blankR l + m)
   refine ⟨T', ?_, hR⟩
   have hal := alike_of h2
   rw [renS_skip (runL blankR l) T l p (fun y hy => by have := scan_low h2 y hy; omega), hblank, renS_skip m T (l.drop (runL blankR l)) _ (fun y hy => by have := scan_low h2 y hy; omega)]
   have hw : ((l.drop (runL blankR l)).take m).length = m := by rw [List.length_take, List.length_drop]; omega
   have hs : stepF ((l.drop (runL blankR l)).take m ++ (l.drop (runL blankR l)).drop m) = .skip ((l.drop (runL blankR l)).take m).length := by rw [List.take_append_drop, hw]; exact hm
   have hs' := skip_ext hs hal
   have hb0 : runL blankR ((l.drop (runL blankR l)).take m ++ renS T ((l.drop (runL blankR l)).drop m) (p + runL blankR l + m)) = 0 := by
    cases hd : l.drop (runL blankR l) with
    | nil => rw [hd] at hm; cases hm
    | cons b t =>
     rw [hd] at hrest
     obtain ⟨m', rfl⟩ : ∃ m', m = m' + 1 := ⟨m - 1, by omega⟩
     rw [List.take_succ_cons, List.cons_append]
     exact blank_head hrest
   rw [scanL_step, hb0, List.drop_zero, Nat.add_zero, hs']
   simp only
   rw [List.drop_left, hw]
   exact hT'
  ·have hlen := (stepF_take _).2 _ _ _ _ hm
   rw [List.length_drop] at hlen
   obtain ⟨w, hwd⟩ : ∃ w, w = (l.drop (runL blankR l)).take m := ⟨_, rfl⟩
   obtain ⟨r, hrd⟩ : ∃ r, r = (l.drop (runL blankR l)).drop m := ⟨_, rfl⟩
   have hw : w.length = m := by rw [hwd, List.length_take, List.length_drop]; omega
   have hwr : l.drop (runL blankR l) = w ++ r := by rw [hwd, hrd, List.take_append_drop]
   rw [← hrd] at h2
   have hal := alike_of h2
   have hop := opens_of h2
   have hs : stepF (w ++ r) = .tok k tx x w.length := by rw [← hwr, hw]; exact hm
   have hs' := tok_ext hs hop hal (renS_len T2 r _)
   have hb0 : ∀ X, runL blankR (w ++ X) = 0 := fun X => by
    rw [hwr] at hrest
    cases hd : w with
    | nil => rw [hd] at hw; simp at hw; omega
    | cons b t =>
     rw [hd] at hrest
     rw [List.cons_append] at hrest ⊢
     exact blank_head hrest
   by_cases hA : isATok ⟨k, tx, x, p + runL blankR l⟩ = true
   ·have hA' := hA
    simp only [isATok, Bool.and_eq_true, beq_iff_eq] at hA'
    obtain ⟨rfl, rfl⟩ := hA'
    have hw97 : w = [97] := by
     rcases tok_split hs with h | h
     ·cases h
     ·rw [List.take_left] at h; exact h.symm
    subst hw97
    simp only [List.length_cons, List.length_nil] at hw
    subst hw
    obtain ⟨T', hT', hR⟩ := ih r (p + runL blankR l + 1) T2 (by rw [hrd, List.length_drop, List.length_drop]; omega) h2 (p' + runL blankR l + 3)
    have hx0 : x = 0 := by
     unfold stepF at hs
     dsimp only at hs
     rw [if_neg (by simp), if_neg (by simp [List.isPrefixOf]), if_pos (by rw [List.cons_append, decL_low 97 _ (by decide)]; decide)] at hs
     split at hs
     ·cases hs
     ·simp only [Step.tok.injEq] at hs; exact hs.2.2.1.symm
    subst hx0
    have hr0 : runL partR r = 0 := by
     have : runL partR ([97] ++ r) = 1 := by
      unfold stepF at hs
      dsimp only at hs
      rw [if_neg (by simp), if_neg (by simp [List.isPrefixOf]), if_pos (by rw [List.cons_append, decL_low 97 _ (by decide)]; decide)] at hs
      split at hs
      ·cases hs
      ·simp only [Step.tok.injEq] at hs; exact hs.2.2.2
     have h1 := run_rest partR _ ([97] ++ r) (Nat.le_refl _)
     rw [this] at h1
     exact h1
    obtain ⟨g1, g2, g3⟩ := part_stop hop hr0 hal
    refine ⟨⟨1, zzz, 0, p' + runL blankR l⟩ :: T', ?_, ⟨rfl, rfl, by rw [if_pos hA]⟩, hR⟩
    unfold renS
    rw [if_pos hA]
    simp only
    rw [show p + runL blankR l - p = runL blankR l by omega, List.append_assoc, hblank, ← List.drop_drop, hwr]
    rw [show List.drop 1 (([97] : Bs) ++ r) = r from rfl]
    have hz : stepF (zzz ++ renS T2 r (p + runL blankR l + 1)) = .tok 1 zzz 0 zzz.length := by
     have e1 := runL_append partR (renS T2 r (p + runL blankR l + 1)) g2 3 zzz (Nat.le_refl _) (.inr g3)
     have e2 : runL partR zzz = 3 := by kernel_rfl
     have e3 : isWordF zzz = false := by kernel_rfl
     unfold stepF
     dsimp only
     rw [if_neg (by simp), if_neg (by simp [List.isPrefixOf]), if_pos (by rw [List.cons_append, decL_low 122 _ (by decide)]; decide), e1, e2, if_neg (by decide)]
     rw [show (zzz ++ renS T2 r (p + runL blankR l + 1)).take 3 = zzz from rfl, e3]
     rfl
    rw [scanL_tok zzz _ zzz _ _ 1 0 hz (by rw [List.cons_append]; exact run_stop blankR 122 _ (by decide) (by decide))]
    rw [show zzz.length = 3 from rfl, scan_acc _ hT']
    rfl
   ·obtain ⟨T', hT', hR⟩ := ih r (p + runL blankR l + m) T2 (by rw [hrd, List.length_drop, List.length_drop]; omega) h2 (p' + runL blankR l + m)
    refine ⟨⟨k, tx, x, p' + runL blankR l⟩ :: T', ?_, ⟨rfl, rfl, by rw [if_neg hA]⟩, hR⟩
    unfold renS
    rw [if_neg hA, renS_skip (runL blankR l) T2 l p (fun y hy => by have := scan_low h2 y hy; omega), hblank, renS_skip m T2 (l.drop (runL blankR l)) _ (fun y hy => by have := scan_low h2 y hy; omega), ← hwd, ← hrd]
    rw [hw] at hs'
    rw [scanL_tok w _ tx _ _ k x (by rw [hw]; exact hs') (hb0 _), hw, scan_acc _ hT']
    rfl
end Go.Proofs.YtdkgnlaneccioaaGreatDoor
