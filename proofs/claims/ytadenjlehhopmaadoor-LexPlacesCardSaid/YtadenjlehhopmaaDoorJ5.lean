/- Stores to elements; regions that draw their order, continued. -/
import Derived.Test.YtadenjlehhopmaaDoorJ4
namespace Go.Proofs.YtadenjlehhopmaaDoor
set_option linter.unusedSimpArgs false
set_option linter.unusedVariables false
open Go Go.RowKit
/-- So many cells behind a slice's begin. -/
def Place (A : Option Addr) (k : Nat) (p : Value) : Prop := ∃ b off, A = some ⟨b, off, none⟩ ∧ p = .pointer (some ⟨b, off + k, none⟩)
/-- An element written. -/
def lSet {α : Type} (l : List α) (i : Int) (x : α) : Option (List α) := cond (decide (0 ≤ i ∧ i < l.length)) (some (l.set i.toNat x)) none
theorem lSet_spec {α : Type} {l l' : List α} {i : Int} {x : α} (h : lSet l i x = some l') : 0 ≤ i ∧ i < l.length ∧ l' = l.set i.toNat x := by
  obtain ⟨h1, h2⟩ := condN h
  obtain ⟨h3, h4⟩ := of_decide_eq_true h1
  exact ⟨h3, h4, (Option.some.inj h2).symm⟩
theorem lSet_len {α : Type} {l l' : List α} {i : Int} {x : α} (h : lSet l i x = some l') : l'.length = l.length := by
  obtain ⟨_, _, rfl⟩ := lSet_spec h
  exact List.length_set
theorem EncOk.set {α : Type} {E : α → List Value} {sz : Nat} (hE : EncOk E sz) (x : α) : ∀ (l : List α) (k : Nat), k < l.length → (l.set k x).flatMap E = (l.flatMap E).take (k * sz) ++ E x ++ (l.flatMap E).drop (k * sz + sz)
  | y :: l, 0, _ => by
    rw [List.set_cons_zero, List.flatMap_cons, List.flatMap_cons, Nat.zero_mul, List.take_zero, List.nil_append, Nat.zero_add, ← hE.len y, List.drop_left]
  | y :: l, k + 1, h => by
    have h' : k < l.length := by simpa using h
    rw [List.set_cons_succ, List.flatMap_cons, List.flatMap_cons, hE.set x l k h']
    rw [show (k + 1) * sz = (E y).length + k * sz by rw [hE.len, Nat.add_mul, Nat.one_mul, Nat.add_comm]]
    rw [List.take_length_add_append, show (E y).length + k * sz + sz = (E y).length + (k * sz + sz) by omega, List.drop_length_add_append]
    simp [List.append_assoc]
theorem splice_row {α : Type} (C V : List α) (kk off sz nn : Nat) (h1 : off + V.length ≤ sz) (h2 : kk + sz ≤ nn) (h3 : nn ≤ C.length) :
    (C.take (kk + off) ++ V ++ C.drop (kk + off + V.length)).take nn =
      (C.take nn).take kk ++ ((((C.take nn).drop kk).take sz).take off ++ V ++ (((C.take nn).drop kk).take sz).drop (off + V.length)) ++ (C.take nn).drop (kk + sz) := by
  apply List.ext_getElem?
  intro j
  by_cases j1 : j < kk
  · rw [List.getElem?_take, if_pos (by omega), List.getElem?_append_left (by simp; omega), List.getElem?_append_left (by simp; omega), List.getElem?_take, if_pos (by omega)]
    rw [List.getElem?_append_left (by simp; omega), List.getElem?_append_left (by simp; omega), List.getElem?_take, if_pos j1, List.getElem?_take, if_pos (by omega)]
  · obtain ⟨i, rfl⟩ : ∃ i, j = kk + i := ⟨j - kk, by omega⟩
    have hL : ∀ (m : Nat), i < m → m ≤ nn - kk → ((C.take nn).drop kk)[i]? = C[kk + i]? := fun m h h' => by rw [List.getElem?_drop, List.getElem?_take, if_pos (by omega)]
    rw [List.append_assoc ((C.take nn).take kk), List.getElem?_append_right (l₁ := (C.take nn).take kk) (by simp; omega)]
    rw [show ((C.take nn).take kk).length = kk by simp; omega, Nat.add_sub_cancel_left]
    by_cases j2 : i < off
    · rw [List.getElem?_take, if_pos (by omega), List.append_assoc, List.getElem?_append_left (by simp; omega), List.getElem?_take, if_pos (by omega)]
      rw [List.append_assoc, List.append_assoc, List.getElem?_append_left (by simp; omega), List.getElem?_take, if_pos j2, List.getElem?_take, if_pos (by omega), hL (i + 1) (by omega) (by omega)]
    · by_cases j3 : i < off + V.length
      · rw [List.getElem?_take, if_pos (by omega), List.append_assoc, List.getElem?_append_right (by simp; omega), List.getElem?_append_left (by simp; omega)]
        rw [List.append_assoc, List.append_assoc, List.getElem?_append_right (by simp; omega), List.getElem?_append_left (by simp; omega)]
        congr 1
        simp
        omega
      · by_cases j4 : i < sz
        · rw [List.getElem?_take, if_pos (by omega), List.append_assoc, List.getElem?_append_right (by simp; omega), List.getElem?_append_right (by simp; omega), List.getElem?_drop]
          rw [List.append_assoc, List.append_assoc, List.getElem?_append_right (by simp; omega), List.getElem?_append_right (by simp; omega), List.getElem?_append_left (by simp; omega), List.getElem?_drop, List.getElem?_take, if_pos (by simp; omega), List.getElem?_drop, List.getElem?_take, if_pos (by simp; omega)]
          congr 1
          simp
          omega
        · by_cases j5 : kk + i < nn
          · rw [List.getElem?_take, if_pos (by omega), List.append_assoc, List.getElem?_append_right (by simp; omega), List.getElem?_append_right (by simp; omega), List.getElem?_drop]
            rw [List.append_assoc, List.append_assoc, List.getElem?_append_right (by simp; omega), List.getElem?_append_right (by simp; omega), List.getElem?_append_right (by simp; omega), List.getElem?_drop, List.getElem?_take, if_pos (by simp; omega)]
            congr 1
            simp
            omega
          · rw [List.getElem?_take, if_neg (by omega)]
            symm
            apply List.getElem?_eq_none
            simp
            omega
def OnAll : List Frag → World → Prop
  | [], _ => True
  | f :: l, w => f.On w ∧ OnAll l w
theorem OnAll.mem : ∀ {l : List Frag} {w : World}, OnAll l w → ∀ f ∈ l, f.On w
  | _ :: _, _, h, f, hf => by
    rcases List.mem_cons.1 hf with rfl | hf
    · exact h.1
    · exact h.2.mem f hf
theorem OnAll.evs {l : List Frag} {w : World} (hw : OnAll l w) : ∀ {es : List Ev}, LdOk l es → EvsOk es w w
  | [], _ => rfl
  | .ld a v :: es, h => by
    obtain ⟨⟨i, cs, e, z, h1, h2, h3⟩, h4⟩ := h
    refine ⟨?_, hw.evs h4⟩
    have hb := hw.mem _ (List.mem_of_getElem? h1) a.block (.cells cs e z) (by simp [blk])
    obtain ⟨x, y, s⟩ := a
    simp only at h2 h3 hb
    subst h2
    simp [World.cell?, hb, h3]
  | Ev.st .. :: _, h => h.elim
  | Ev.nw .. :: _, h => h.elim
section
variable {A : World} {n0 : Nat} {env env' : Env} {l l' X : List Frag} {q : Act → World → Prop} {P : Program} {Q : Exit → Act → World → Prop} {ops : Array Oper} {os rest : List Oper} {o : Oper}
theorem K.eq (he : env = env') (hl : l = l') (h : K A n0 env' l' q) : K A n0 env l q := by subst he hl; exact h
/-- '&xs[i]', with its place. -/
theorem kl_elemP {α : Type} {E : α → List Value} {xs : List α} {a : α} {ix : Int} {kd : IntKind} {h : Frag} {A' : Option Addr} {c : Nat} {T TS : TypeId} {sz : Nat} {x y : Operand} (hE : EncOk E sz) (ho : o.op = .indexAddr TS x y) (hg : wantE ops env o = some true) (hd : inB n0 o.dst = true) (hx : evalE env x = some (.slice A' xs.length c)) (hy : evalE env y = some (.int kd ix))
    (h1 : P.underlying TS = some (.slice T)) (h2 : (P.info? T).map (·.size) = some sz) (hi : lIdx xs ix = some a) (hR : RdT E sz h (.slice A' xs.length c) xs) (hk : ∀ p, Elem h p (E a) → Place A' (ix.toNat * sz) p → K A n0 (putE env o.dst p) l (wpList P ops Q rest)) : K A n0 env l (wpList P ops Q (o :: rest)) := by
  refine kl_op hg fun a' w ha hw => ?_
  obtain ⟨hi0, hi1, hi2⟩ := lIdx_spec hi
  obtain ⟨hl, _, hc⟩ := hR
  cases hif : P.info? T with
  | none => rw [hif] at h2; cases h2
  | some i =>
    rw [hif] at h2
    have hsz : i.size = sz := Option.some.inj h2
    rcases hc with ⟨_, h0⟩ | ⟨b, off, cap, cur, T', z, he, hb, _, _, hc⟩
    · omega
    · cases he
      have hr : (Instr.indexAt TS (.slice (some ⟨b, off, none⟩) xs.length c) (.int kd ix)).run P w = .ok (.pointer (some ⟨b, off + ix.toNat * sz, none⟩)) w := by
        simp [Instr.indexAt, run_underlying h1, asIntOf, hi0, hi1, sizeOf, typeInfo, hif, hsz, addr_add]
      unfold Oper.wp execOp
      simp only [ho, ha.eval hx, ha.eval hy, Sem.run_bind, hr, Result.andThen_ok, Sem.run_pure]
      refine hk _ ⟨b, off + ix.toNat * sz, cur, T', z, rfl, hb, fun j u hj => ?_⟩ ⟨b, off, rfl, rfl⟩ _ _ (ha.putE _ hd) hw
      rw [← hE.at_ xs ix.toNat a hi2, List.getElem?_take] at hj
      split at hj
      · rw [List.getElem?_drop] at hj
        rw [Nat.add_assoc]
        exact hc _ u hj
      · cases hj
/-- '&p.f', with its place. -/
theorem kl_efieldP {h : Frag} {p : Value} {us : List Value} {T : TypeId} {k off k0 : Nat} {A' : Option Addr} {x : Operand} (ho : o.op = .fieldAddr T x k) (hg : wantE ops env o = some true) (hd : inB n0 o.dst = true) (hx : evalE env x = some p)
    (hT : (match P.underlying T with | some (.struct fs) => (match fs[k]? with | some f => (match (P.info? f.type).map (·.size) with | some (s + 1) => some f.offset | _ => none) | none => none) | _ => none) = some off) (hE : Elem h p us) (hp : Place A' k0 p) (hk : ∀ p', Elem h p' (us.drop off) → Place A' (k0 + off) p' → K A n0 (putE env o.dst p') l (wpList P ops Q rest)) : K A n0 env l (wpList P ops Q (o :: rest)) := by
  refine kl_op hg fun a w ha hw => ?_
  obtain ⟨b1, off1, rfl, rfl⟩ := hp
  obtain ⟨b, of_, cur, T', z, he, hb, hc⟩ := hE
  cases he
  split at hT
  · rename_i fs hfs
    split at hT
    · rename_i f hf
      split at hT
      · rename_i s hs
        cases hT
        cases hif : P.info? f.type with
        | none => rw [hif] at hs; cases hs
        | some i =>
          rw [hif] at hs
          have hsz : i.size = s + 1 := Option.some.inj hs
          have hr : (Instr.fieldAt T (.pointer (some ⟨b1, off1 + k0, none⟩)) k).run P w = .ok (.pointer (some ⟨b1, off1 + k0 + f.offset, none⟩)) w := by
            simp [Instr.fieldAt, run_underlying hfs, hf, Instr.sureAddr, fieldPlace, sizeOf, typeInfo, hif, hsz, addr_add]
          unfold Oper.wp execOp
          simp only [ho, ha.eval hx, Sem.run_bind, hr, Result.andThen_ok, Sem.run_pure]
          refine hk _ ⟨b1, off1 + k0 + f.offset, cur, T', z, rfl, hb, fun j u hj => ?_⟩ ⟨b1, off1, rfl, by rw [Nat.add_assoc]⟩ _ _ (ha.putE _ hd) hw
          rw [List.getElem?_drop] at hj
          rw [Nat.add_assoc]
          exact hc _ u hj
      · cases hT
    · cases hT
  · cases hT
/-- A store into an element of a row of one's own. -/
theorem kl_estore {α : Type} {E : α → List Value} {xs xs' : List α} {x x' : α} {ix : Int} {h : Frag} {A' : Option Addr} {c : Nat} {T T1 : TypeId} {sz off : Nat} {p v : Value} {s y : Operand} (hE : EncOk E sz) (ho : o.op = .store T1 s y) (hg : wantE ops env o = some true) (hd : inB n0 o.dst = true)
    (hs : evalE env s = some p) (hy : evalE env y = some v) (hsz : (P.info? T1).map (·.size) = some v.cells.size) (hp : Place A' (ix.toNat * sz + off) p) (hO : OwnT E T sz h (.slice A' xs.length c) xs) (hx : lIdx xs ix = some x) (hx' : E x' = (E x).take off ++ v.cells.toList ++ (E x).drop (off + v.cells.toList.length))
    (hfit : Nat.ble (off + v.cells.toList.length) sz = true) (hset : lSet xs ix x' = some xs') (hk : ∀ h', OwnT E T sz h' (.slice A' xs'.length c) xs' → K A n0 (putE env o.dst undef) (h' :: l) (wpList P ops Q rest)) : K A n0 env (h :: l) (wpList P ops Q (o :: rest)) := by
  refine kl_op hg fun a w ha hw => ?_
  obtain ⟨hi0, hi1, hxi⟩ := lIdx_spec hx
  obtain ⟨_, _, rfl⟩ := lSet_spec hset
  have hfit : off + v.cells.toList.length ≤ sz := Nat.le_of_ble_eq_true hfit
  cases hif : P.info? T1 with
  | none => rw [hif] at hsz; cases hsz
  | some i =>
    rw [hif] at hsz
    have hsize : i.size = v.cells.size := Option.some.inj hsz
    rcases hO.2.2 with ⟨he, h0⟩ | ⟨g, cap, cur, he, rfl, h4, h5, h6, h7⟩
    · omega
    · cases he
      obtain ⟨b, of_, he, rfl⟩ := hp
      cases he
      have hgc : w.heap[g]? = some (.cells cur T (0, 0)) := hw.sat.1 g _ (by simp [blk])
      have hk1 : ix.toNat < xs.length := by omega
      have hle : ix.toNat * sz + sz ≤ xs.length * sz := by
        have := Nat.mul_le_mul_right sz (show ix.toNat + 1 ≤ xs.length by omega)
        rw [Nat.add_mul, Nat.one_mul] at this
        exact this
      have hcc : xs.length * sz ≤ cur.size := by rw [h6]; exact Nat.mul_le_mul_right _ h4
      have hone : ∀ u ∈ v.cells.toList, u.oneCell' = true := fun u hu => by
        have : u ∈ E x' := by rw [hx']; simp [hu]
        exact List.all_eq_true.1 (hE.one x') u this
      have hst := run_storeCells_at P g (ix.toNat * sz + off) T v.cells.toList 0 cur w hgc (by omega) hone
      simp only [Nat.add_zero] at hst
      have hr : (Instr.storeAt T1 (.pointer (some ⟨g, 0 + (ix.toNat * sz + off), none⟩)) v).run P w = .ok () (w.setRow g (cur.toList.take (ix.toNat * sz + off) ++ v.cells.toList ++ cur.toList.drop (ix.toNat * sz + off + v.cells.toList.length)).toArray) := by
        simp [Instr.storeAt, Instr.sureAddr, storeVar, sizeOf, typeInfo, hif, hsize]
        simpa using hst
      unfold Oper.wp execOp
      simp only [ho, ha.eval hs, ha.eval hy, Sem.run_bind, hr, Result.andThen_ok, Sem.run_pure]
      refine hk _ ?_ _ _ (ha.putE _ hd) (hw.setRow _)
      rw [List.length_set]
      unfold OwnT
      rw [List.length_set]
      refine ⟨by rw [hE.lens, List.length_set], hE.ones _, .inr ⟨g, c, _, rfl, rfl, h4, h5, ?_, ?_⟩⟩
      · simp only [List.size_toArray, List.length_append, List.length_take, List.length_drop, Array.length_toList]
        rw [Nat.min_eq_left (by omega)]
        have : v.cells.toList.length = v.cells.size := Array.length_toList
        omega
      · rw [hE.set x' xs _ hk1]
        have ha1 := hE.at_ xs ix.toNat x hxi
        rw [hx', ← ha1, ← h7]
        exact splice_row cur.toList v.cells.toList _ off sz _ hfit (by omega) (by simpa using hcc)
/-- Loads ahead of what comes in its turn: S is that the pieces are there. -/
theorem kp_loadS {S : World → Prop} {tail : Act → World → Prop} {pl : List (Oper × Nat)} {v : Value} (s : List Frag) (vs : List Orc) (es : List Ev) (hg : wantE ops env o = some true) (hs : (noSel o.op && allB o.op.operands.toList env && inB n0 o.dst) = true) (hf : follow P (execOp (rho env) o) vs = some (.value v, es)) (hS : ∀ w, S w → OnAll s w) (hl : LdOk s es)
    (h : K A n0 (putE env o.dst v) l (wpPlan P ops Q S tail pl)) : K A n0 env l (wpPlan P ops Q S tail ((o, 3) :: pl)) := kp_load vs es hg hs hf (fun w hw => (hS w hw).evs hl) h
variable {S : World → Prop} {tail : Act → World → Prop} {pl : List (Oper × Nat)}
theorem kp_elemP {α : Type} {E : α → List Value} {xs : List α} {a : α} {ix : Int} {kd : IntKind} {h : Frag} {A' : Option Addr} {c : Nat} {T TS : TypeId} {sz : Nat} {x y : Operand} (hE : EncOk E sz) (ho : o.op = .indexAddr TS x y) (hg : wantE ops env o = some true) (hd : inB n0 o.dst = true) (hx : evalE env x = some (.slice A' xs.length c)) (hy : evalE env y = some (.int kd ix))
    (h1 : P.underlying TS = some (.slice T)) (h2 : (P.info? T).map (·.size) = some sz) (hi : lIdx xs ix = some a) (hR : RdT E sz h (.slice A' xs.length c) xs) (hk : ∀ p, Elem h p (E a) → Place A' (ix.toNat * sz) p → K A n0 (putE env o.dst p) l (wpPlan P ops Q S tail pl)) : K A n0 env l (wpPlan P ops Q S tail ((o, 0) :: pl)) := by
  intro a' w ha hw
  obtain ⟨hi0, hi1, hi2⟩ := lIdx_spec hi
  obtain ⟨hl, _, hc⟩ := hR
  cases hif : P.info? T with
  | none => rw [hif] at h2; cases h2
  | some i =>
    rw [hif] at h2
    have hsz : i.size = sz := Option.some.inj h2
    rcases hc with ⟨_, h0⟩ | ⟨b, off, cap, cur, T', z, he, hb, _, _, hc⟩
    · omega
    · cases he
      refine plan_pure (v := .pointer (some ⟨b, off + ix.toNat * sz, none⟩)) (wantE_spec ha hg) (fun w' => ?_) (hk _ ⟨b, off + ix.toNat * sz, cur, T', z, rfl, hb, fun j u hj => ?_⟩ ⟨b, off, rfl, rfl⟩ _ _ (ha.putE _ hd) hw)
      · have hr : (Instr.indexAt TS (.slice (some ⟨b, off, none⟩) xs.length c) (.int kd ix)).run P w' = .ok (.pointer (some ⟨b, off + ix.toNat * sz, none⟩)) w' := by
          simp [Instr.indexAt, run_underlying h1, asIntOf, hi0, hi1, sizeOf, typeInfo, hif, hsz, addr_add]
        unfold execOp
        simp only [ho, ha.eval hx, ha.eval hy, Sem.run_bind, hr, Result.andThen_ok, Sem.run_pure]
      · rw [← hE.at_ xs ix.toNat a hi2, List.getElem?_take] at hj
        split at hj
        · rw [List.getElem?_drop] at hj
          rw [Nat.add_assoc]
          exact hc _ u hj
        · cases hj
theorem kp_efieldP {h : Frag} {p : Value} {us : List Value} {T : TypeId} {k off k0 : Nat} {A' : Option Addr} {x : Operand} (ho : o.op = .fieldAddr T x k) (hg : wantE ops env o = some true) (hd : inB n0 o.dst = true) (hx : evalE env x = some p)
    (hT : (match P.underlying T with | some (.struct fs) => (match fs[k]? with | some f => (match (P.info? f.type).map (·.size) with | some (s + 1) => some f.offset | _ => none) | none => none) | _ => none) = some off) (hE : Elem h p us) (hp : Place A' k0 p) (hk : ∀ p', Elem h p' (us.drop off) → Place A' (k0 + off) p' → K A n0 (putE env o.dst p') l (wpPlan P ops Q S tail pl)) : K A n0 env l (wpPlan P ops Q S tail ((o, 0) :: pl)) := by
  intro a w ha hw
  obtain ⟨b1, off1, rfl, rfl⟩ := hp
  obtain ⟨b, of_, cur, T', z, he, hb, hc⟩ := hE
  cases he
  split at hT
  · rename_i fs hfs
    split at hT
    · rename_i f hf
      split at hT
      · rename_i s hs
        cases hT
        cases hif : P.info? f.type with
        | none => rw [hif] at hs; cases hs
        | some i =>
          rw [hif] at hs
          have hsz : i.size = s + 1 := Option.some.inj hs
          refine plan_pure (v := .pointer (some ⟨b1, off1 + k0 + f.offset, none⟩)) (wantE_spec ha hg) (fun w' => ?_) (hk _ ⟨b1, off1 + k0 + f.offset, cur, T', z, rfl, hb, fun j u hj => ?_⟩ ⟨b1, off1, rfl, by rw [Nat.add_assoc]⟩ _ _ (ha.putE _ hd) hw)
          · have hr : (Instr.fieldAt T (.pointer (some ⟨b1, off1 + k0, none⟩)) k).run P w' = .ok (.pointer (some ⟨b1, off1 + k0 + f.offset, none⟩)) w' := by
              simp [Instr.fieldAt, run_underlying hfs, hf, Instr.sureAddr, fieldPlace, sizeOf, typeInfo, hif, hsz, addr_add]
            unfold execOp
            simp only [ho, ha.eval hx, Sem.run_bind, hr, Result.andThen_ok, Sem.run_pure]
          · rw [List.getElem?_drop] at hj
            rw [Nat.add_assoc]
            exact hc _ u hj
      · cases hT
    · cases hT
  · cases hT
theorem Elem.cellS {h : Frag} {p : Value} {us : List Value} (he : Elem h p us) {w : World} (hw : h.On w) : ∃ a, p = .pointer (some a) ∧ ∀ j u, us[j]? = some u → w.cell? (a.add j) = some u := by
  obtain ⟨b, off, cur, T, z, rfl, hb, hc⟩ := he
  refine ⟨_, rfl, fun j u hj => ?_⟩
  rw [addr_add]
  have := hw b _ hb
  simp [World.cell?, this, hc j u hj]
theorem kp_eload1 {h : Frag} {p u : Value} {us : List Value} {T : TypeId} {x : Operand} (ho : o.op = .load T x) (hg : wantE ops env o = some true) (hd : inB n0 o.dst = true) (hx : evalE env x = some p) (hT : (match P.underlying T with | some (.struct _) => true | some (.array _ _) => true | some _ => false | none => true) = false) (hE : Elem h p (u :: us)) (hm : ∀ w, S w → h.On w)
    (hk : K A n0 (putE env o.dst u) l (wpPlan P ops Q S tail pl)) : K A n0 env l (wpPlan P ops Q S tail ((o, 3) :: pl)) := by
  intro a w ha hw
  refine plan_load (v := u) (wantE_spec ha hg) (fun w' hw' => ?_) (hk _ _ (ha.putE _ hd) hw)
  obtain ⟨ad, rfl, hc⟩ := hE.cellS (hm w' hw')
  have h0 := hc 0 u rfl
  rw [show ad.add 0 = ad from rfl] at h0
  have hr : (Instr.loadAt T (.pointer (some ad))).run P w' = .ok u w' := by
    simp [Instr.loadAt, Instr.sureAddr, loadVar, run_noagg w' hT, load, Sem.run, h0]
  unfold execOp
  simp only [ho, ha.eval hx, Sem.run_bind, hr, Result.andThen_ok, Sem.run_pure]
theorem kp_eloadN {h : Frag} {p : Value} {us : List Value} {T : TypeId} {x : Operand} (ho : o.op = .load T x) (hg : wantE ops env o = some true) (hd : inB n0 o.dst = true) (hx : evalE env x = some p) (hT : (match P.underlying T with | some (.struct _) => true | some (.array _ _) => true | _ => false) = true) (hs : (P.info? T).map (·.size) = some us.length) (hE : Elem h p us) (hm : ∀ w, S w → h.On w)
    (hk : K A n0 (putE env o.dst (.agg us.toArray)) l (wpPlan P ops Q S tail pl)) : K A n0 env l (wpPlan P ops Q S tail ((o, 3) :: pl)) := by
  intro a w ha hw
  refine plan_load (v := .agg us.toArray) (wantE_spec ha hg) (fun w' hw' => ?_) (hk _ _ (ha.putE _ hd) hw)
  obtain ⟨ad, rfl, hc⟩ := hE.cellS (hm w' hw')
  cases hif : P.info? T with
  | none => rw [hif] at hs; cases hs
  | some i =>
    rw [hif] at hs
    have hsz : i.size = us.length := Option.some.inj hs
    have hr : (Instr.loadAt T (.pointer (some ad))).run P w' = .ok (.agg us.toArray) w' := by
      simp [Instr.loadAt, Instr.sureAddr, loadVar, run_agg w' hT, sizeOf, typeInfo, hif, hsz, run_loadCells_list w' ad us hc]
    unfold execOp
    simp only [ho, ha.eval hx, Sem.run_bind, hr, Result.andThen_ok, Sem.run_pure]
end
end Go.Proofs.YtadenjlehhopmaaDoor
