/- Slices, continued: bytes and strings, make, elements. -/
import Derived.Test.YtadenjlehhopmaaDoorJ3
namespace Go.Proofs.YtadenjlehhopmaaDoor
set_option linter.unusedSimpArgs false
set_option linter.unusedVariables false
open Go Go.RowKit
/-- Append, where memory bears it. -/
def apd {α : Type} (b : Nat) (l ys : List α) : Option (List α) := cond (decide ((l.length + ys.length) * b ≤ 140737488355328)) (some (l ++ ys)) none
theorem apd_spec {α : Type} {b : Nat} {l ys l' : List α} (h : apd b l ys = some l') : (l.length + ys.length) * b ≤ 140737488355328 ∧ l' = l ++ ys := by
  obtain ⟨h1, h2⟩ := condN h
  exact ⟨of_decide_eq_true h1, (Option.some.inj h2).symm⟩
/-- An element. -/
def lIdx {α : Type} (l : List α) (i : Int) : Option α := if 0 ≤ i then l[i.toNat]? else none
theorem lIdx_spec {α : Type} {l : List α} {i : Int} {x : α} (h : lIdx l i = some x) : 0 ≤ i ∧ i < l.length ∧ l[i.toNat]? = some x := by
  unfold lIdx at h
  split at h
  · rename_i h0
    have := (List.getElem?_eq_some_iff.1 h).1
    exact ⟨h0, by omega, h⟩
  · cases h
/-- How an element's cells hold it. -/
structure EncOk {α : Type} (E : α → List Value) (sz : Nat) : Prop where
  len : ∀ x, (E x).length = sz
  one : ∀ x, ((E x).all (·.oneCell')) = true
section
variable {α : Type} {E : α → List Value} {sz : Nat}
theorem EncOk.lens (h : EncOk E sz) (l : List α) : (l.flatMap E).length = l.length * sz := by
  induction l with
  | nil => simp
  | cons x l ih => rw [List.flatMap_cons, List.length_append, ih, h.len, List.length_cons, Nat.add_mul, Nat.one_mul, Nat.add_comm]
theorem EncOk.ones (h : EncOk E sz) (l : List α) : ∀ u ∈ l.flatMap E, u.oneCell' = true := fun u hu => by
  obtain ⟨x, _, hx⟩ := List.mem_flatMap.1 hu
  exact List.all_eq_true.1 (h.one x) u hx
theorem EncOk.at_ (h : EncOk E sz) : ∀ (l : List α) (k : Nat) (x : α), l[k]? = some x → ((l.flatMap E).drop (k * sz)).take sz = E x
  | y :: l, 0, x, hx => by
    simp only [List.getElem?_cons_zero, Option.some.injEq] at hx
    subst hx
    rw [List.flatMap_cons, Nat.zero_mul, List.drop_zero, ← h.len y, List.take_left]
  | y :: l, k + 1, x, hx => by
    rw [List.getElem?_cons_succ] at hx
    rw [List.flatMap_cons, Nat.add_mul, Nat.one_mul, Nat.add_comm, ← List.drop_drop, show (E y ++ l.flatMap E).drop sz = l.flatMap E by rw [← h.len y, List.drop_left]]
    exact h.at_ l k x hx
end
/-- A typed row: its own, or one that can be read. -/
def OwnT {α : Type} (E : α → List Value) (T : TypeId) (sz : Nat) (h : Frag) (v : Value) (l : List α) : Prop := Own T sz h v l.length (l.flatMap E)
def RdT {α : Type} (E : α → List Value) (sz : Nat) (h : Frag) (v : Value) (l : List α) : Prop := Rd sz h v l.length (l.flatMap E)
theorem Own.val {T : TypeId} {sz : Nat} {h : Frag} {v : Value} {n : Nat} {cs : List Value} (ho : Own T sz h v n cs) : ∃ a c, v = .slice a n c := by
  rcases ho.2.2 with ⟨rfl, rfl⟩ | ⟨g, cap, cur, rfl, _⟩
  · exact ⟨none, 0, rfl⟩
  · exact ⟨_, cap, rfl⟩
theorem Rd.val {sz : Nat} {h : Frag} {v : Value} {n : Nat} {cs : List Value} (ho : Rd sz h v n cs) : ∃ a c, v = .slice a n c := by
  rcases ho.2.2 with ⟨rfl, rfl⟩ | ⟨b, off, cap, cur, T, z, rfl, _⟩
  · exact ⟨none, 0, rfl⟩
  · exact ⟨_, cap, rfl⟩
theorem OwnT.rd {α : Type} {E : α → List Value} {T : TypeId} {sz : Nat} {h : Frag} {v : Value} {l : List α} (ho : OwnT E T sz h v l) : RdT E sz h v l := Own.rd ho
theorem OwnT.nil {α : Type} (E : α → List Value) (T : TypeId) (sz : Nat) (h : Frag) : OwnT E T sz h (.slice none 0 0) [] := Own.nil T sz h
theorem RdT.nil {α : Type} (E : α → List Value) (sz : Nat) (h : Frag) : RdT E sz h (.slice none 0 0) [] := (Own.nil 0 sz h).rd
theorem OwnT.blk {α : Type} {E : α → List Value} (T : TypeId) {sz : Nat} (hE : EncOk E sz) (b : Nat) (l : List α) (cs : Array Value) (n : Nat) (hc : (l.flatMap E).toArray = cs) (hn : l.length = n) (hm : n ≤ maxLen) : OwnT E T sz (blk b (.cells cs T (0, 0))) (.slice (some ⟨b, 0, none⟩) n n) l := by
  subst hc hn
  exact Own.blk T sz b l.length (l.flatMap E) (hE.lens l) (List.all_eq_true.2 (hE.ones l)) hm
/-- The piece of nothing, for a slice that is nil. -/
def none_ : Frag := fun _ => none
/-- A place in a row that can be read: the cells from there on. -/
def Elem (h : Frag) (p : Value) (us : List Value) : Prop := ∃ b off cur T z, p = .pointer (some ⟨b, off, none⟩) ∧ h b = some (.cells cur T z) ∧ ∀ j u, us[j]? = some u → cur[off + j]? = some u
section
variable {A : World} {n0 : Nat} {env env' : Env} {l l' X : List Frag} {q : Act → World → Prop} {P : Program} {Q : Exit → Act → World → Prop} {ops : Array Oper} {os rest : List Oper} {o : Oper}
theorem kl_apd {α : Type} {E : α → List Value} {xs ys xs' : List α} {T TS U : TypeId} {sz bytes : Nat} {i : TypeInfo} {z : Value} {h : Frag} {v y : Value} {s x : Operand} (hE : EncOk E sz) (ho : o.op = .call { callee := .builtin .append, args := #[s, x], argTypes := #[TS, U] })
    (he : ElemTy P TS T sz bytes i z) (hg : wantE ops env o = some true) (hd : inB n0 o.dst = true) (hs : evalE env s = some v) (hx : evalE env x = some y) (hu : noInt P U = true) (hap : apd bytes xs ys = some xs') (hO : OwnT E T sz h v xs) (hsrc : ∀ w, Sat (h :: l) w → Src P sz w y ys.length (ys.flatMap E))
    (hk : ∀ h' a' c', OwnT E T sz h' (.slice a' xs'.length c') xs' → K A n0 (putE env o.dst (.slice a' xs'.length c')) (h' :: l) (wpList P ops Q rest)) : K A n0 env (h :: l) (wpList P ops Q (o :: rest)) := by
  obtain ⟨hb, rfl⟩ := apd_spec hap
  refine kl_append ho he hg hd hs hx hu hO hsrc (hE.lens ys) (hE.ones ys) hb fun h' v' hO' => ?_
  have hO2 : OwnT E T sz h' v' (xs ++ ys) := by
    unfold OwnT
    rw [List.length_append, List.flatMap_append]
    exact hO'
  obtain ⟨a', c', rfl⟩ := hO2.val
  exact hk h' a' c' hO2
/-- The temporary row of an append of elements. -/
theorem src_blk {α : Type} {E : α → List Value} {sz : Nat} (hE : EncOk E sz) (ys : List α) {T : TypeId} {b n : Nat} {cs : Array Value} (hc : (ys.flatMap E).toArray = cs) (hn : ys.length = n) (hm : n ≤ maxLen) (j : Nat) (hj : l[j]? = some (blk b (.cells cs T (0, 0)))) (w : World) (hw : Sat l w) :
    Src P sz w (.slice (some ⟨b, 0, none⟩) n n) ys.length (ys.flatMap E) := by
  have := (OwnT.blk T hE b ys cs n hc hn hm).rd
  exact Rd.src this hw (List.mem_of_getElem? hj)
theorem src_rd {α : Type} {E : α → List Value} {sz : Nat} {ys : List α} {h2 : Frag} {v : Value} (hr : RdT E sz h2 v ys) (hm : h2 ∈ l) (w : World) (hw : Sat l w) : Src P sz w v ys.length (ys.flatMap E) := Rd.src hr hw hm
def encI (k : IntKind) (x : Int) : List Value := [.int k x]
theorem encI_ok (k : IntKind) : EncOk (encI k) 1 := ⟨fun _ => rfl, fun _ => rfl⟩
def encS (x : ByteArray) : List Value := [.string x]
theorem encS_ok : EncOk encS 1 := ⟨fun _ => rfl, fun _ => rfl⟩
def encB (x : Bool) : List Value := [.bool x]
theorem encB_ok : EncOk encB 1 := ⟨fun _ => rfl, fun _ => rfl⟩
theorem flatMap_encI (k : IntKind) (l : List Int) : l.flatMap (encI k) = l.map (Value.int k) := by
  induction l with
  | nil => rfl
  | cons x l ih => rw [List.flatMap_cons, ih]; rfl
theorem src_strT (s : ByteArray) (w : World) : Src P 1 w (.string s) (bsI s).length ((bsI s).flatMap (encI .u8)) := by
  rw [flatMap_encI, show (bsI s).length = s.size by simp [bsI]]
  exact src_str s w
/-- '[]byte(s)'. -/
theorem kl_bytes {s : ByteArray} {S T U : TypeId} {x : Operand} (ho : o.op = .convert S T x) (hg : wantE ops env o = some true) (hd : inB n0 o.dst = true) (hx : evalE env x = some (.string s)) (h1 : P.underlying S = some .string) (h2 : P.underlying T = some (.slice U)) (h3 : P.underlying U = some (.int .u8)) (hs : s.size ≤ maxLen)
    (hk : ∀ h' a' c', RdT (encI .u8) 1 h' (.slice a' (bsI s).length c') (bsI s) → K A n0 (putE env o.dst (.slice a' (bsI s).length c')) (h' :: l) (wpList P ops Q rest)) : K A n0 env l (wpList P ops Q (o :: rest)) := by
  refine kl_op hg fun a w ha hw => ?_
  have hr := run_bytes_of_string (P := P) w S T U s h1 h2 h3
  unfold Oper.wp execOp
  simp only [ho, ha.eval hx, Sem.run_bind, hr, Result.andThen_ok, Sem.run_pure]
  have hlen : (bsI s).length = s.size := by simp [bsI]
  rw [← hlen]
  refine hk _ _ _ ?_ _ _ (ha.putE _ hd) (hw.drew.new _)
  unfold RdT
  rw [flatMap_encI, hlen]
  have hge := grownCap_ge w s.size 0 U
  refine ⟨by simp [bsI], fun u hu => ?_, .inr ⟨w.heap.size, 0, _, _, U, _, rfl, if_pos rfl, hge, grownCap_le_maxLen w _ _ _ hs, fun j u hj => ?_⟩⟩
  · obtain ⟨n, _, rfl⟩ := List.mem_map.1 hu
    rfl
  · have hlt : j < s.data.size := by
      have := (List.getElem?_eq_some_iff.1 hj).1
      simpa [bsI] using this
    rw [Nat.zero_add]
    simp only [bytesRow]
    rw [Array.getElem?_append_left (by simpa using hlt)]
    simp only [bsI, List.map_map, List.getElem?_map] at hj
    rw [Array.getElem?_map]
    simpa using hj
/-- 'string(b)'. -/
theorem kl_string {h : Frag} {v : Value} {xs : List Int} {S T U : TypeId} {x : Operand} (ho : o.op = .convert S T x) (hg : wantE ops env o = some true) (hd : inB n0 o.dst = true) (hx : evalE env x = some v) (h1 : P.underlying S = some (.slice U)) (h2 : P.underlying T = some .string) (h3 : P.underlying U = some (.int .u8))
    (hR : RdT (encI .u8) 1 h v xs) (hm : h ∈ l) (hk : K A n0 (putE env o.dst (.string (strOfNums xs))) l (wpList P ops Q rest)) : K A n0 env l (wpList P ops Q (o :: rest)) := by
  refine kl_op hg fun a w ha hw => ?_
  have hr : (convert S T v).run P w = .ok (.string (strOfNums xs)) w := by
    unfold RdT at hR
    rw [flatMap_encI] at hR
    obtain ⟨_, _, hc⟩ := hR
    rcases hc with ⟨rfl, h0⟩ | ⟨b, off, cap, cur, E, z, rfl, hb, _, _, hc⟩
    · have : xs = [] := List.eq_nil_of_length_eq_zero h0
      subst this
      rw [run_convert_bytes_nil w S U h1 h3 0 0 T h2]
      rfl
    · exact run_convert_bytes_arg w S U h1 h3 b off xs.length cap xs rfl (fun i hi => by
        rw [cell_in hw.sat hm hb]
        exact hc i _ (by simp [List.getD, List.getElem?_eq_getElem hi])) T h2
  unfold Oper.wp execOp
  simp only [ho, ha.eval hx, Sem.run_bind, hr, Result.andThen_ok, Sem.run_pure]
  exact hk _ _ (ha.putE _ hd) hw
/-- 'make([]T, n)'. -/
def mkd {α : Type} (b : Nat) (z : α) (n : Int) : Option (List α) := cond (decide (0 ≤ n ∧ b * n ≤ 140737488355328)) (some (List.replicate n.toNat z)) none
theorem madeCells_rep {α : Type} {E : α → List Value} {sz : Nat} (hE : EncOk E sz) (zz : α) (n : Nat) : madeCells (E zz).toArray (n * sz) = ((List.replicate n zz).flatMap E).toArray := by
  apply Array.ext
  · simp [size_madeCells, hE.len, List.length_flatMap]
  · intro i h1 h2
    rw [size_madeCells] at h1
    have hp : 0 < sz := by
      rcases Nat.eq_zero_or_pos sz with h | h
      · subst h; simp at h1
      · exact h
    have hq : i / sz < n := (Nat.div_lt_iff_lt_mul hp).2 h1
    have ha := hE.at_ (List.replicate n zz) (i / sz) zz (by simp [hq])
    have hmod : i % sz < sz := Nat.mod_lt _ hp
    have hi : i / sz * sz + i % sz = i := by rw [Nat.mul_comm]; exact Nat.div_add_mod i sz
    have hg : ((List.replicate n zz).flatMap E)[i]? = (E zz)[i % sz]? := by
      rw [← ha, List.getElem?_take, if_pos hmod, List.getElem?_drop, hi]
    have h3 : (E zz)[i % sz]? = some ((E zz)[i % sz]'(by rw [hE.len]; exact hmod)) := List.getElem?_eq_getElem _
    rw [h3] at hg
    have h4 := (List.getElem?_eq_some_iff.1 hg).2
    simp only [List.getElem_toArray]
    rw [h4]
    simp only [madeCells, Array.getElem_map, Array.getElem_range, List.size_toArray, hE.len]
    rw [Array.getElem!_eq_getD, Array.getD_eq_getD_getElem?]
    simp [h3]
theorem kl_make {α : Type} {E : α → List Value} {xs : List α} {n : Int} {T TS : TypeId} {sz bytes : Nat} {i : TypeInfo} {z : Value} (zz : α) {kl kc : IntKind} {x y : Operand} (hE : EncOk E sz) (hz : z.cells = (E zz).toArray) (ho : o.op = .makeSlice TS x y) (he : ElemTy P TS T sz bytes i z) (hg : wantE ops env o = some true)
    (hd : inB n0 o.dst = true) (hx : evalE env x = some (.int kl n)) (hy : evalE env y = some (.int kc n)) (hmk : mkd bytes zz n = some xs) (hk : ∀ h' a' c', OwnT E T sz h' (.slice a' xs.length c') xs → K A n0 (putE env o.dst (.slice a' xs.length c')) (h' :: l) (wpList P ops Q rest)) : K A n0 env l (wpList P ops Q (o :: rest)) := by
  refine kl_op hg fun a w ha hw => ?_
  obtain ⟨hb, hxs⟩ := condN hmk
  cases hxs
  obtain ⟨h0, h1⟩ := of_decide_eq_true hb
  have hp := he.pos
  have hnb : n ≤ bytes * n := by
    have h2 : (1 : Int) ≤ bytes := by omega
    have := Int.mul_le_mul_of_nonneg_right h2 h0
    omega
  have hr := run_make (P := P) w TS T i z he.slice he.info he.zero kl kc n n h0 (Int.le_refl _) (by rw [he.bytes]; omega) (by omega)
  unfold Oper.wp execOp
  simp only [ho, ha.eval hx, ha.eval hy, Sem.run_bind, hr, Result.andThen_ok, Sem.run_pure]
  have hO : OwnT E T sz (blk w.heap.size (.cells (madeCells z.cells (n.toNat * i.size)) T (0, 0))) (.slice (some ⟨w.heap.size, 0, none⟩) n.toNat n.toNat) (List.replicate n.toNat zz) := by
    rw [he.size, hz, madeCells_rep hE]
    exact OwnT.blk T hE _ _ _ n.toNat rfl (by simp) (by unfold maxLen; omega)
  have e : (Value.slice (some ⟨w.heap.size, 0, none⟩) n.toNat n.toNat) = .slice (some ⟨w.heap.size, 0, none⟩) (List.replicate n.toNat zz).length n.toNat := by rw [List.length_replicate]
  rw [e] at hO ⊢
  exact hk _ _ _ hO _ _ (ha.putE _ hd) (hw.new _)
/-- '&xs[i]': an element's place. -/
theorem kl_elem {α : Type} {E : α → List Value} {xs : List α} {a : α} {ix : Int} {kd : IntKind} {h : Frag} {v : Value} {T TS : TypeId} {sz : Nat} {x y : Operand} (hE : EncOk E sz) (ho : o.op = .indexAddr TS x y) (hg : wantE ops env o = some true) (hd : inB n0 o.dst = true) (hx : evalE env x = some v) (hy : evalE env y = some (.int kd ix))
    (h1 : P.underlying TS = some (.slice T)) (h2 : (P.info? T).map (·.size) = some sz) (hi : lIdx xs ix = some a) (hR : RdT E sz h v xs) (hk : ∀ p, Elem h p (E a) → K A n0 (putE env o.dst p) l (wpList P ops Q rest)) : K A n0 env l (wpList P ops Q (o :: rest)) := by
  refine kl_op hg fun a' w ha hw => ?_
  obtain ⟨hi0, hi1, hi2⟩ := lIdx_spec hi
  obtain ⟨hl, _, hc⟩ := hR
  cases hif : P.info? T with
  | none => rw [hif] at h2; cases h2
  | some i =>
    rw [hif] at h2
    have hsz : i.size = sz := Option.some.inj h2
    rcases hc with ⟨rfl, h0⟩ | ⟨b, off, cap, cur, T', z, rfl, hb, _, _, hc⟩
    · omega
    · have hr : (Instr.indexAt TS (.slice (some ⟨b, off, none⟩) xs.length cap) (.int kd ix)).run P w = .ok (.pointer (some ⟨b, off + ix.toNat * sz, none⟩)) w := by
        simp [Instr.indexAt, run_underlying h1, asIntOf, hi0, hi1, sizeOf, typeInfo, hif, hsz, addr_add]
      unfold Oper.wp execOp
      simp only [ho, ha.eval hx, ha.eval hy, Sem.run_bind, hr, Result.andThen_ok, Sem.run_pure]
      refine hk _ ⟨b, off + ix.toNat * sz, cur, T', z, rfl, hb, fun j u hj => ?_⟩ _ _ (ha.putE _ hd) hw
      rw [← hE.at_ xs ix.toNat a hi2, List.getElem?_take] at hj
      split at hj
      · rw [List.getElem?_drop] at hj
        rw [Nat.add_assoc]
        exact hc _ u hj
      · cases hj
theorem run_agg {P : Program} {T : TypeId} (w : World) (h : (match P.underlying T with | some (.struct _) => true | some (.array _ _) => true | _ => false) = true) : (isAgg T).run P w = .ok true w := by
  split at h
  · rename_i hd; simp [isAgg, run_underlying hd]
  · rename_i hd; simp [isAgg, run_underlying hd]
  · cases h
theorem run_noagg {P : Program} {T : TypeId} (w : World) (h : (match P.underlying T with | some (.struct _) => true | some (.array _ _) => true | some _ => false | none => true) = false) : (isAgg T).run P w = .ok false w := by
  unfold isAgg
  cases hd : P.underlying T with
  | none => rw [hd] at h; cases h
  | some d => cases d <;> simp_all [run_underlying hd]
theorem Elem.cell {h : Frag} {p : Value} {us : List Value} (he : Elem h p us) {w : World} (hw : Sat l w) (hm : h ∈ l) : ∃ a, p = .pointer (some a) ∧ ∀ j u, us[j]? = some u → w.cell? (a.add j) = some u := by
  obtain ⟨b, off, cur, T, z, rfl, hb, hc⟩ := he
  exact ⟨_, rfl, fun j u hj => by rw [addr_add, cell_in hw hm hb]; exact hc j u hj⟩
/-- A load of one cell there. -/
theorem kl_eload1 {h : Frag} {p u : Value} {us : List Value} {T : TypeId} {x : Operand} (ho : o.op = .load T x) (hg : wantE ops env o = some true) (hd : inB n0 o.dst = true) (hx : evalE env x = some p) (hT : (match P.underlying T with | some (.struct _) => true | some (.array _ _) => true | some _ => false | none => true) = false) (hE : Elem h p (u :: us)) (hm : h ∈ l)
    (hk : K A n0 (putE env o.dst u) l (wpList P ops Q rest)) : K A n0 env l (wpList P ops Q (o :: rest)) := by
  refine kl_op hg fun a w ha hw => ?_
  obtain ⟨ad, rfl, hc⟩ := hE.cell hw.sat hm
  have h0 := hc 0 u rfl
  rw [show ad.add 0 = ad from rfl] at h0
  have hr : (Instr.loadAt T (.pointer (some ad))).run P w = .ok u w := by
    simp [Instr.loadAt, Instr.sureAddr, loadVar, run_noagg w hT, load, Sem.run, h0]
  unfold Oper.wp execOp
  simp only [ho, ha.eval hx, Sem.run_bind, hr, Result.andThen_ok, Sem.run_pure]
  exact hk _ _ (ha.putE _ hd) hw
/-- A load of a struct there. -/
theorem kl_eloadN {h : Frag} {p : Value} {us : List Value} {T : TypeId} {x : Operand} (ho : o.op = .load T x) (hg : wantE ops env o = some true) (hd : inB n0 o.dst = true) (hx : evalE env x = some p) (hT : (match P.underlying T with | some (.struct _) => true | some (.array _ _) => true | _ => false) = true) (hs : (P.info? T).map (·.size) = some us.length) (hE : Elem h p us) (hm : h ∈ l)
    (hk : K A n0 (putE env o.dst (.agg us.toArray)) l (wpList P ops Q rest)) : K A n0 env l (wpList P ops Q (o :: rest)) := by
  refine kl_op hg fun a w ha hw => ?_
  obtain ⟨ad, rfl, hc⟩ := hE.cell hw.sat hm
  cases hif : P.info? T with
  | none => rw [hif] at hs; cases hs
  | some i =>
    rw [hif] at hs
    have hsz : i.size = us.length := Option.some.inj hs
    have hr : (Instr.loadAt T (.pointer (some ad))).run P w = .ok (.agg us.toArray) w := by
      simp [Instr.loadAt, Instr.sureAddr, loadVar, run_agg w hT, sizeOf, typeInfo, hif, hsz, run_loadCells_list w ad us hc]
    unfold Oper.wp execOp
    simp only [ho, ha.eval hx, Sem.run_bind, hr, Result.andThen_ok, Sem.run_pure]
    exact hk _ _ (ha.putE _ hd) hw
/-- '&p.f'. -/
theorem kl_efield {h : Frag} {p : Value} {us : List Value} {T : TypeId} {k off : Nat} {x : Operand} (ho : o.op = .fieldAddr T x k) (hg : wantE ops env o = some true) (hd : inB n0 o.dst = true) (hx : evalE env x = some p)
    (hT : (match P.underlying T with | some (.struct fs) => (match fs[k]? with | some f => (match (P.info? f.type).map (·.size) with | some (s + 1) => some f.offset | _ => none) | none => none) | _ => none) = some off) (hE : Elem h p us) (hk : ∀ p', Elem h p' (us.drop off) → K A n0 (putE env o.dst p') l (wpList P ops Q rest)) : K A n0 env l (wpList P ops Q (o :: rest)) := by
  refine kl_op hg fun a w ha hw => ?_
  obtain ⟨b, of_, cur, T', z, rfl, hb, hc⟩ := hE
  split at hT
  · rename_i fs hfs
    split at hT
    · rename_i f hf
      split at hT
      · rename_i s hs
        cases hT
        cases hif : P.info? f.type with
        | none => rw [hif] at hs; cases hs
        | some i =>
          rw [hif] at hs
          have hsz : i.size = s + 1 := Option.some.inj hs
          have hr : (Instr.fieldAt T (.pointer (some ⟨b, of_, none⟩)) k).run P w = .ok (.pointer (some ⟨b, of_ + f.offset, none⟩)) w := by
            simp [Instr.fieldAt, run_underlying hfs, hf, Instr.sureAddr, fieldPlace, sizeOf, typeInfo, hif, hsz, addr_add]
          unfold Oper.wp execOp
          simp only [ho, ha.eval hx, Sem.run_bind, hr, Result.andThen_ok, Sem.run_pure]
          refine hk _ ⟨b, of_ + f.offset, cur, T', z, rfl, hb, fun j u hj => ?_⟩ _ _ (ha.putE _ hd) hw
          rw [List.getElem?_drop] at hj
          rw [Nat.add_assoc]
          exact hc _ u hj
      · cases hT
    · cases hT
  · cases hT
theorem k_none (h : K A n0 env (none_ :: l) q) : K A n0 env l q := fun a w ha hw => h a w ha ⟨⟨fun _ _ h => (by cases h), fun _ _ _ => .inl rfl, hw.sat⟩, hw.os, hw.tape, hw.output, hw.size⟩
theorem nx_ret {d : Option Nat} {v : Value} {l1 : List Frag} {next : Act → World → Prop} (h : K A n0 (putE env d v) (l1 ++ X) next) : Nx A n0 env d X next Q (.returned v) l1 := h
theorem K.mvN (pre : List Frag) (f : Frag) (post : List Frag) (h : K A n0 env (f :: (pre ++ post)) q) : K A n0 env (pre ++ f :: post) q := h.perm List.perm_middle
end
end Go.Proofs.YtadenjlehhopmaaDoor
