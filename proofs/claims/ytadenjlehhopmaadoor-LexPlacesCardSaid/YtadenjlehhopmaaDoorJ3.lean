/- Slices, in a walk over slots and pieces. -/
import Derived.Test.YtadenjlehhopmaaDoorJ2
namespace Go.Proofs.YtadenjlehhopmaaDoor
set_option linter.unusedSimpArgs false
set_option linter.unusedVariables false
open Go Go.RowKit
/-- The bytes of a string, as numbers. -/
def bsI (s : ByteArray) : List Int := s.data.toList.map fun b => (b.toNat : Int)
/-- A slice whose row is a piece of its own: it may grow. -/
def Own (T : TypeId) (sz : Nat) (h : Frag) (v : Value) (n : Nat) (cs : List Value) : Prop :=
  cs.length = n * sz ∧ (∀ u ∈ cs, u.oneCell' = true) ∧ ((v = .slice none 0 0 ∧ n = 0) ∨
    ∃ g cap cur, v = .slice (some ⟨g, 0, none⟩) n cap ∧ h = blk g (.cells cur T (0, 0)) ∧ n ≤ cap ∧ cap ≤ maxLen ∧ cur.size = cap * sz ∧ cur.toList.take (n * sz) = cs)
/-- A slice that can be read in a piece. -/
def Rd (sz : Nat) (h : Frag) (v : Value) (n : Nat) (cs : List Value) : Prop :=
  cs.length = n * sz ∧ (∀ u ∈ cs, u.oneCell' = true) ∧ ((v = .slice none 0 0 ∧ n = 0) ∨
    ∃ b off cap cur T z, v = .slice (some ⟨b, off, none⟩) n cap ∧ h b = some (.cells cur T z) ∧ n ≤ cap ∧ cap ≤ maxLen ∧ ∀ j u, cs[j]? = some u → cur[off + j]? = some u)
theorem Own.rd {T : TypeId} {sz : Nat} {h : Frag} {v : Value} {n : Nat} {cs : List Value} (ho : Own T sz h v n cs) : Rd sz h v n cs := by
  obtain ⟨h1, h2, h3⟩ := ho
  refine ⟨h1, h2, ?_⟩
  rcases h3 with h3 | ⟨g, cap, cur, rfl, rfl, h4, h5, h6, h7⟩
  · exact .inl h3
  · refine .inr ⟨g, 0, cap, cur, T, (0, 0), rfl, by simp [blk], h4, h5, fun j u hj => ?_⟩
    rw [← h7, List.getElem?_take] at hj
    split at hj
    · simpa using hj
    · cases hj
theorem Own.nil (T : TypeId) (sz : Nat) (h : Frag) : Own T sz h (.slice none 0 0) 0 [] := ⟨by simp, by simp, .inl ⟨rfl, rfl⟩⟩
/-- A row that was just built. -/
theorem Own.blk (T : TypeId) (sz b n : Nat) (cs : List Value) (hl : cs.length = n * sz) (h1 : (cs.all (·.oneCell')) = true) (hm : n ≤ maxLen) : Own T sz (blk b (.cells cs.toArray T (0, 0))) (.slice (some ⟨b, 0, none⟩) n n) n cs :=
  ⟨hl, fun u hu => List.all_eq_true.1 h1 u hu, .inr ⟨b, n, cs.toArray, rfl, rfl, Nat.le_refl _, hm, by simpa using hl, by simp [← hl]⟩⟩
theorem Own.max {T : TypeId} {sz : Nat} {h : Frag} {v : Value} {n : Nat} {cs : List Value} (ho : Own T sz h v n cs) : n ≤ maxLen := by
  rcases ho.2.2 with ⟨_, rfl⟩ | ⟨g, cap, cur, _, _, h4, h5, _⟩
  · exact Nat.zero_le _
  · exact Nat.le_trans h4 h5
structure ElemTy (P : Program) (TS T : TypeId) (sz by_ : Nat) (i : TypeInfo) (z : Value) : Prop where
  slice : P.underlying TS = some (.slice T)
  info : P.info? T = some i
  zero : i.zero = some z
  size : i.size = sz
  bytes : i.bytes = by_
  cells : z.cells.size = sz
  pos : 0 < by_
/-- What an append takes its new cells from. -/
structure Src (P : Program) (sz : Nat) (w : World) (y : Value) (m : Nat) (news : List Value) : Prop where
  len : ∀ w', (Builtin.lenOf y).run P w' = .ok m w'
  now : (Builtin.firstCells sz m y).run P w = .ok news.toArray w
  drew : (Builtin.firstCells sz m y).run P w.drew = .ok news.toArray w.drew
def noInt (P : Program) (U : TypeId) : Bool :=
  match P.underlying U with
  | some (.slice _) => true
  | some .string => true
  | _ => false
theorem noInt_spec {P : Program} {U : TypeId} (h : noInt P U = true) : (∃ e, P.underlying U = some (.slice e)) ∨ P.underlying U = some .string := by
  unfold noInt at h
  split at h
  · rename_i e hd; exact .inl ⟨e, hd⟩
  · rename_i hd; exact .inr hd
  · cases h
section
variable {P : Program} {w : World} {TS U T : TypeId} {sz bytes : Nat} {i : TypeInfo} {z y : Value} {m : Nat} {news : List Value} {ty : TypeId}
theorem run_app_nil0 (he : ElemTy P TS T sz bytes i z) (hu : noInt P U = true) (hs : Src P sz w y 0 []) : (Builtin.append_ #[TS, U] ty #[.slice none 0 0, y]).run P w = .ok (.slice none 0 0) w := by
  have h1 := hs.now
  have h2 := he.size
  rcases noInt_spec hu with ⟨e', hd⟩ | hd <;> simp [Builtin.append_, run_underlying he.slice, run_underlying hd, sizeOf, typeInfo, he.info, h2, hs.len, h1]
theorem run_app_grow (he : ElemTy P TS T sz bytes i z) (hu : noInt P U = true) (hs : Src P sz w y m news) (a : Option Addr) (sLen sCap : Nat) (olds : List Value) (hg : sCap < sLen + m)
    (hold : (Builtin.firstCells sz sLen (.slice a sLen sCap)).run P w.drew = .ok olds.toArray w.drew)
    (h63 : ((sLen + m : Nat) : Int) ≤ 9223372036854775807) (hfit : Builtin.nextslicecap (sLen + m) sCap * bytes ≤ 281474976710656) :
    (Builtin.append_ #[TS, U] ty #[.slice a sLen sCap, y]).run P w =
      .ok (.slice (some ⟨w.heap.size, 0, none⟩) (sLen + m) (grownCap w (sLen + m) sCap T)) (w.drew.alloc (.cells (olds.toArray ++ news.toArray ++ Builtin.zeroCells z.cells (grownCap w (sLen + m) sCap T - (sLen + m))) T)) := by
  have hn : ¬ (sLen + m ≤ sCap) := by omega
  have h63' : ¬ (9223372036854775807 < ((sLen : Int) + (m : Int))) := by omega
  have h48' : ¬ (281474976710656 < Builtin.nextslicecap (sLen + m) sCap * bytes) := by omega
  have hb := he.bytes
  have hsz := he.size
  have hp := he.pos
  have hp' : ¬ bytes = 0 := by omega
  rcases noInt_spec hu with ⟨e', hd⟩ | hd <;>
  · simp [Builtin.append_, run_underlying he.slice, run_underlying hd, sizeOf, typeInfo, zeroValue, he.info, he.zero, hsz, hb, hs.len, hn, h63', h48', hp', Question.forced, hs.drew, hold, newRow, grownCap]
    congr 2
    apply Array.ext'
    simp [List.append_assoc]
theorem run_app_room (he : ElemTy P TS T sz bytes i z) (hu : noInt P U = true) (hs : Src P sz w y m news) (hl : news.length = m * sz) (h1 : ∀ u ∈ news, u.oneCell' = true) (g sLen sCap : Nat) (cur : Array Value) (hg : w.heap[g]? = some (.cells cur T (0, 0)))
    (hroom : sLen + m ≤ sCap) (hfit : sLen * sz + news.length ≤ cur.size) :
    (Builtin.append_ #[TS, U] ty #[.slice (some ⟨g, 0, none⟩) sLen sCap, y]).run P w =
      .ok (.slice (some ⟨g, 0, none⟩) (sLen + m) sCap) (w.setRow g (cur.toList.take (sLen * sz) ++ news ++ cur.toList.drop (sLen * sz + news.length)).toArray) := by
  have hst := run_storeCells_at P g (sLen * sz) T news 0 cur w hg (by simpa using hfit) h1
  simp only [Nat.add_zero] at hst
  have hsz := he.size
  rcases noInt_spec hu with ⟨e', hd⟩ | hd <;> simp [Builtin.append_, run_underlying he.slice, run_underlying hd, sizeOf, typeInfo, he.info, hsz, hs.len, hroom, hs.now, Addr.add_lit, hst]
end
section
variable {A : World} {n0 : Nat} {env env' : Env} {l l' X : List Frag} {q : Act → World → Prop} {P : Program} {Q : Exit → Act → World → Prop} {ops : Array Oper} {os rest : List Oper} {o : Oper}
theorem St.setRow {w : World} {g : Nat} {cur : Array Value} {T : TypeId} (h : St A (blk g (.cells cur T (0, 0)) :: l) w) (cs : Array Value) : St A (blk g (.cells cs T (0, 0)) :: l) (w.setRow g cs) := by
  have hg : w.heap[g]? = some (.cells cur T (0, 0)) := h.sat.1 g _ (by simp [blk])
  refine ⟨⟨fun k o hk => ?_, fun f hf k => ?_, h.sat.2.2.keep fun f hf k o hk => ?_⟩, h.os, h.tape, h.output, ?_⟩
  · unfold blk at hk
    split at hk
    · rename_i e; subst e; cases hk; exact setRow_heap w k cur cs T _ hg
    · cases hk
  · rcases h.sat.2.1 f hf k with h' | h'
    · unfold blk at h' ⊢
      split at h'
      · cases h'
      · rename_i e'; rw [if_neg e']; exact .inl rfl
    · exact .inr h'
  · refine setRow_other w g k cs fun e' => ?_
    subst e'
    rcases h.sat.2.1 f hf k with h' | h'
    · simp [blk] at h'
    · rw [h'] at hk; cases hk
  · have := h.size; simp [World.setRow]; omega
theorem cell_in {w : World} {f : Frag} {l : List Frag} (h : Sat l w) (hf : f ∈ l) {b : Nat} {cur : Array Value} {T : TypeId} {z : Nat × Nat} (hb : f b = some (.cells cur T z)) (i : Nat) : w.cell? ⟨b, i, none⟩ = cur[i]? := by
  have := h.on f hf b _ hb
  simp [World.cell?, this]
theorem addr_add (b off j : Nat) : (⟨b, off, none⟩ : Addr).add j = ⟨b, off + j, none⟩ := by unfold Addr.add; split <;> simp_all
/-- A slice that can be read: what an append takes. -/
theorem Rd.src {sz : Nat} {h : Frag} {v : Value} {m : Nat} {news : List Value} (hr : Rd sz h v m news) {w : World} (hw : Sat l w) (hm : h ∈ l) : Src P sz w v m news := by
  obtain ⟨h1, h2, h3⟩ := hr
  rcases h3 with ⟨rfl, rfl⟩ | ⟨b, off, cap, cur, T, z, rfl, hb, _, _, hc⟩
  · have : news = [] := List.eq_nil_of_length_eq_zero (by simpa using h1)
    subst this
    exact ⟨fun _ => rfl, rfl, rfl⟩
  · have hcell : ∀ j u, news[j]? = some u → w.cell? ((⟨b, off, none⟩ : Addr).add j) = some u := fun j u hj => by rw [addr_add, cell_in hw hm hb]; exact hc j u hj
    exact ⟨fun _ => rfl, run_firstCells_some w sz m _ _ _ _ h1 hcell, run_firstCells_some w.drew sz m _ _ _ _ h1 (by simpa using hcell)⟩
/-- A string: what an append of bytes takes. -/
theorem src_str (s : ByteArray) (w : World) : Src P 1 w (.string s) s.size ((bsI s).map (Value.int .u8)) := by
  have : ((s.extract 0 s.size).data.map fun b => Value.int .u8 b.toNat) = ((bsI s).map (Value.int .u8)).toArray := by
    apply Array.ext'
    simp [bsI]
  exact ⟨fun _ => rfl, by simp only [Builtin.firstCells, this]; rfl, by simp only [Builtin.firstCells, this]; rfl⟩
theorem kl_append {T TS U : TypeId} {sz bytes : Nat} {i : TypeInfo} {z : Value} {h : Frag} {v y : Value} {n m : Nat} {cs news : List Value} {s x : Operand} (ho : o.op = .call { callee := .builtin .append, args := #[s, x], argTypes := #[TS, U] })
    (he : ElemTy P TS T sz bytes i z) (hg : wantE ops env o = some true) (hd : inB n0 o.dst = true) (hs : evalE env s = some v) (hx : evalE env x = some y) (hu : noInt P U = true) (hO : Own T sz h v n cs) (hsrc : ∀ w, Sat (h :: l) w → Src P sz w y m news)
    (hl : news.length = m * sz) (h1 : ∀ u ∈ news, u.oneCell' = true) (hb : (n + m) * bytes ≤ 140737488355328)
    (hk : ∀ h' v', Own T sz h' v' (n + m) (cs ++ news) → K A n0 (putE env o.dst v') (h' :: l) (wpList P ops Q rest)) : K A n0 env (h :: l) (wpList P ops Q (o :: rest)) := by
  refine kl_op hg fun a w ha hw => ?_
  have hsr := hsrc w hw.sat
  have hlen : (cs ++ news).length = (n + m) * sz := by rw [List.length_append, hO.1, hl, Nat.add_mul]
  have hones : ∀ u ∈ cs ++ news, u.oneCell' = true := fun u hu => (List.mem_append.1 hu).elim (hO.2.1 u) (h1 u)
  have hpos := he.pos
  have hnm : n + m ≤ 140737488355328 := Nat.le_trans (Nat.le_mul_of_pos_right _ hpos) hb
  have hmax : n + m ≤ maxLen := by unfold maxLen; omega
  have hex : ∃ v' w', (Builtin.append_ #[TS, U] o.type #[v, y]).run P w = .ok v' w' ∧ ∃ h', Own T sz h' v' (n + m) (cs ++ news) ∧ St A (h' :: l) w' := by
    have grown : ∀ (old : Nat), old < n + m →
        Own T sz (blk w.heap.size (.cells (cs.toArray ++ news.toArray ++ Builtin.zeroCells z.cells (grownCap w (n + m) old T - (n + m))) T (0, 0))) (.slice (some ⟨w.heap.size, 0, none⟩) (n + m) (grownCap w (n + m) old T)) (n + m) (cs ++ news) ∧
        St A (blk w.heap.size (.cells (cs.toArray ++ news.toArray ++ Builtin.zeroCells z.cells (grownCap w (n + m) old T - (n + m))) T (0, 0)) :: l) (w.drew.alloc (.cells (cs.toArray ++ news.toArray ++ Builtin.zeroCells z.cells (grownCap w (n + m) old T - (n + m))) T)) := by
      intro old hold
      have hge := grownCap_ge w (n + m) old T
      have hcm : grownCap w (n + m) old T ≤ maxLen := grownCap_le_maxLen w (n + m) old T hmax
      refine ⟨⟨hlen, hones, .inr ⟨w.heap.size, _, _, rfl, rfl, hge, hcm, ?_, ?_⟩⟩, hw.tail.drew.new _⟩
      · simp only [Array.size_append, List.size_toArray, size_zeroCells, he.cells, hO.1, hl, ← Nat.add_mul]
        congr 1
        omega
      · simp only [Array.toList_append, List.append_assoc]
        rw [← List.append_assoc, ← hlen]
        exact List.take_left
    rcases hO.2.2 with ⟨rfl, rfl⟩ | ⟨g, cap, cur, rfl, rfl, h4, h5, h6, h7⟩
    · have hcs : cs = [] := List.eq_nil_of_length_eq_zero (by simpa using hO.1)
      subst hcs
      by_cases hm : m = 0
      · subst hm
        have hn : news = [] := List.eq_nil_of_length_eq_zero (by simpa using hl)
        subst hn
        exact ⟨_, w, run_app_nil0 he hu hsr, h, Own.nil T sz h, hw⟩
      · have hr := run_app_grow (ty := o.type) he hu hsr none 0 0 [] (by omega) rfl (by omega) (growslice_fits (by omega) hb)
        have hgr := grown 0 (by omega)
        simp only [Nat.zero_add, List.nil_append] at hr hgr ⊢
        exact ⟨_, _, hr, _, hgr.1, hgr.2⟩
    · by_cases hroom : n + m ≤ cap
      · have hfit : n * sz + news.length ≤ cur.size := by rw [hl, h6, ← Nat.add_mul]; exact Nat.mul_le_mul_right _ hroom
        have hgc : w.heap[g]? = some (.cells cur T (0, 0)) := hw.sat.1 g _ (by simp [blk])
        refine ⟨_, _, run_app_room he hu hsr hl h1 g n cap cur hgc hroom hfit, _, ⟨hlen, hones, .inr ⟨g, cap, _, rfl, rfl, hroom, h5, ?_, ?_⟩⟩, hw.setRow _⟩
        · simp only [List.size_toArray, List.length_append, List.length_take, List.length_drop, Array.length_toList]
          omega
        · rw [h7, ← hlen]
          exact List.take_left
      · have hold : (Builtin.firstCells sz n (.slice (some ⟨g, 0, none⟩) n cap)).run P w.drew = .ok cs.toArray w.drew :=
          ((Own.rd ⟨hO.1, hO.2.1, .inr ⟨g, cap, cur, rfl, rfl, h4, h5, h6, h7⟩⟩ : Rd sz _ _ n cs).src (l := blk g (.cells cur T (0, 0)) :: l) hw.sat (List.mem_cons_self ..)).drew
        have hr := run_app_grow (ty := o.type) he hu hsr (some ⟨g, 0, none⟩) n cap cs (by omega) hold (by omega) (growslice_fits (by omega) hb)
        have hgr := grown cap (by omega)
        exact ⟨_, _, hr, _, hgr.1, hgr.2⟩
  obtain ⟨v', w', hr, h', hO', hw'⟩ := hex
  unfold Oper.wp execOp
  simp only [ho, resolve, invoke, builtin, Sem.run_bind, Sem.run_pure, Result.andThen_ok, List.map_toArray, List.map_cons, List.map_nil, ha.eval hs, ha.eval hx, hr]
  exact hk h' v' hO' _ _ (ha.putE v' hd) hw'
end
end Go.Proofs.YtadenjlehhopmaaDoor
