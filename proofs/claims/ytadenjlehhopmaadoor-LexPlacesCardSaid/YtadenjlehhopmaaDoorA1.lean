/- Blocks known whole; the scanner as a block and a row of its own. -/
import Derived.Test.YtadenjlehhopmaaDoorA0
import Derived.Test.YtadenjlehhopmaaDoorL0
import Derived.Test.YtadenjlehhopmaaDoorProg
namespace Go.Proofs.YtadenjlehhopmaaDoor
set_option linter.unusedSimpArgs false
set_option linter.unusedVariables false
open Go Go.RowKit Lx
section
variable {w w' : World} {b i : Nat} {c : Array Value} {e : TypeId} {v : Value}
theorem blk_lt {o : Obj} (h : w.heap[b]? = some o) : b < w.heap.size := (Array.getElem?_eq_some_iff.1 h).1
theorem blk_cell {z : Nat × Nat} (h : w.heap[b]? = some (.cells c e z)) (i : Nat) : w.cell? ⟨b, i, none⟩ = c[i]? := by simp [World.cell?, h]
theorem blk_free (h : w.heap[b]? = some (.cells c e (0, 0))) (i : Nat) : w.frozen? ⟨b, i, none⟩ = false := by simp [World.frozen?, h]
theorem blk_set {z : Nat × Nat} (h : w.heap[b]? = some (.cells c e z)) (i : Nat) (v : Value) : (w.setCell ⟨b, i, none⟩ v).heap[b]? = some (.cells (c.setIfInBounds i v) e z) := by
  simp [World.setCell, Array.getElem?_modify, h]
theorem blk_set_ne {o : Obj} {a : Addr} (h : w.heap[b]? = some o) (hne : a.block ≠ b) (v : Value) : (w.setCell a v).heap[b]? = some o := by
  rw [Below.heap_setCell w a v b (fun e => hne e.symm)]; exact h
theorem blk_alloc {o o' : Obj} (h : w.heap[b]? = some o) : (w.alloc o').heap[b]? = some o := by
  rw [Below.heap_alloc w o' b (blk_lt h)]; exact h
theorem blk_drew {o : Obj} (h : w.heap[b]? = some o) : w.drew.heap[b]? = some o := h
theorem blk_new (w : World) (o : Obj) : (w.alloc o).heap[w.heap.size]? = some o := heap_alloc_new w o
theorem blk_below {B : Nat} {o : Obj} (hb : Below B w w') (hlt : b < B) (h : w.heap[b]? = some o) : w'.heap[b]? = some o := by rw [hb.block b hlt]; exact h
theorem blk_grown {o : Obj} {row : Option Nat} (hg : w.grownBy w' row) (hne : row ≠ some b) (h : w.heap[b]? = some o) : w'.heap[b]? = some o := by
  rw [hg.block b (blk_lt h) (fun e => hne e.symm)]; exact h
/-- The cells of a new block, as an append wants them. -/
theorem new_cells (w : World) (vs : List Value) (e : TypeId) (n : Nat) (h : w.heap.size = n) : ∀ j u, vs[j]? = some u → (w.alloc (.cells vs.toArray e)).drew.cell? ((⟨n, 0, none⟩ : Addr).add j) = some u := by
  intro j u hu
  subst h
  have hadd : (⟨w.heap.size, 0, none⟩ : Addr).add j = ⟨w.heap.size, j, none⟩ := by unfold Addr.add; split <;> simp_all
  rw [hadd]
  simp [hu]
theorem new_cells' (w : World) (vs : List Value) (e : TypeId) : ∀ j u, vs[j]? = some u → (w.alloc (.cells vs.toArray e)).cell? ((⟨w.heap.size, 0, none⟩ : Addr).add j) = some u := by
  intro j u hu
  have hadd : (⟨w.heap.size, 0, none⟩ : Addr).add j = ⟨w.heap.size, j, none⟩ := by unfold Addr.add; split <;> simp_all
  rw [hadd]
  simp [hu]
/-- An owned row with an element has a block of its own, apart from a block of another type. -/
theorem owns_shape {w : World} {B : Nat} {e e' : TypeId} {size n sb : Nat} {v : Value} {xs : List Value} {c : Array Value} {z : Nat × Nat} (h : w.ownsRow B e size v (n + 1) xs) (hs : w.heap[sb]? = some (.cells c e' z)) (hne : e ≠ e') :
    ∃ g cap, v = .slice (some ⟨g, 0, none⟩) (n + 1) cap ∧ B ≤ g ∧ g ≠ sb := by
  rcases h.2 with ⟨_, h⟩ | ⟨g, cap, cur, hv, hg, hh, _⟩
  · omega
  · refine ⟨g, cap, hv, hg, fun h => hne ?_⟩
    subst h
    rw [hs] at hh
    cases hh
    rfl
end

/-- A token's four cells. -/
def tokCells (t : Tok) : List Value := [.int .i64 t.kind, .string (str t.text), .int .i64 t.n, .int .i64 t.at_]
def tokRow (l : List Tok) : List Value := l.flatMap tokCells
theorem tokRow_length (l : List Tok) : (tokRow l).length = l.length * 4 := by
  induction l with
  | nil => rfl
  | cons t l ih =>
    show (tokCells t ++ tokRow l).length = _
    rw [List.length_append, ih]
    show 4 + _ = (l.length + 1) * 4
    omega
theorem tokRow_snoc (l : List Tok) (t : Tok) : tokRow (l ++ [t]) = tokRow l ++ tokCells t := by simp [tokRow]

/-- The scanner at block sb, its list in a row of its own from B on. -/
def Sc (B sb : Nat) (src : ByteArray) (at_ : Nat) (l : List Tok) (w : World) : Prop :=
  ∃ lv, w.heap[sb]? = some (.cells #[.string src, .int .i64 at_, lv] 48 (0, 0)) ∧ w.ownsRow B 36 4 lv l.length (tokRow l) ∧ lv.ownBlock ≠ some sb ∧ B ≤ sb

section
variable {B sb at_ : Nat} {src : ByteArray} {l : List Tok} {w w' : World}
theorem Sc.keep (h : Sc B sb src at_ l w) (hk : ∀ k, B ≤ k → k < w.heap.size → w'.heap[k]? = w.heap[k]?) : Sc B sb src at_ l w' := by
  obtain ⟨lv, h1, h2, h3, h4⟩ := h
  refine ⟨lv, by rw [hk sb h4 (blk_lt h1)]; exact h1, ⟨h2.1, ?_⟩, h3, h4⟩
  rcases h2.2 with h | ⟨g, cap, cur, hv, hg, hh, r⟩
  · exact .inl h
  · exact .inr ⟨g, cap, cur, hv, hg, by rw [hk g hg (blk_lt hh)]; exact hh, r⟩
theorem Sc.alloc (h : Sc B sb src at_ l w) (o : Obj) : Sc B sb src at_ l (w.alloc o) := h.keep fun k _ hk => Below.heap_alloc w o k hk
theorem Sc.drew (h : Sc B sb src at_ l w) : Sc B sb src at_ l w.drew := h.keep fun _ _ _ => rfl
theorem Sc.below {C : Nat} (h : Sc B sb src at_ l w) (hC : ∀ k, B ≤ k → k < w.heap.size → k < C) (hb : Below C w w') : Sc B sb src at_ l w' := h.keep fun k h1 h2 => hb.block k (hC k h1 h2)
theorem Sc.later (h : Sc B sb src at_ l w) (hb : Below w.heap.size w w') : Sc B sb src at_ l w' := h.keep fun k _ hk => hb.block k hk
theorem Sc.lt (h : Sc B sb src at_ l w) : sb < w.heap.size := by
  obtain ⟨lv, h1, _⟩ := h
  exact blk_lt h1
theorem Sc.base (h : Sc B sb src at_ l w) : B ≤ sb := by
  obtain ⟨lv, _, _, _, h4⟩ := h
  exact h4
/-- What a walk reads of it. -/
theorem Sc.reads (h : Sc B sb src at_ l w) : sb < w.heap.size ∧ w.cell? ⟨sb, 0, none⟩ = some (.string src) ∧ w.cell? ⟨sb, 1, none⟩ = some (.int .i64 at_) := by
  obtain ⟨lv, h1, _⟩ := h
  exact ⟨blk_lt h1, by rw [blk_cell h1]; rfl, by rw [blk_cell h1]; rfl⟩
/-- The place is written. -/
theorem Sc.move (h : Sc B sb src at_ l w) (at' : Nat) : Sc B sb src at' l (w.setCell ⟨sb, 1, none⟩ (.int .i64 at')) := by
  obtain ⟨lv, h1, h2, h3, h4⟩ := h
  refine ⟨lv, by rw [blk_set h1]; rfl, ⟨h2.1, ?_⟩, h3, h4⟩
  rcases h2.2 with h | ⟨g, cap, cur, hv, hg, hh, r⟩
  · exact .inl h
  · refine .inr ⟨g, cap, cur, hv, hg, blk_set_ne hh (fun e => ?_) _, r⟩
    rw [hv] at h3
    exact h3 (by simp only [Value.ownBlock]; exact congrArg some e.symm)
theorem Sc.free (h : Sc B sb src at_ l w) (i : Nat) : w.frozen? ⟨sb, i, none⟩ = false := by
  obtain ⟨lv, h1, _⟩ := h
  exact blk_free h1 i
end
theorem infoTok : (Tryd.prog.info? 36).map (fun i => (i.zero, i.size, i.bytes)) = some (some (.agg #[.int .i64 0, .string ByteArray.empty, .int .i64 0, .int .i64 0]), 4, 40) := by kernel_rfl
end Go.Proofs.YtadenjlehhopmaaDoor
