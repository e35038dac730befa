/- Lists of tokens, read; 'fixed'. -/
import Derived.Test.YtadenjlehhopmaaDoorC1
namespace Go.Proofs.YtadenjlehhopmaaDoor
set_option linter.unusedSimpArgs false
set_option linter.unusedVariables false
open Go Go.RowKit Lx
/-- A list that 'Scan' answers, as a caller reads it. -/
structure Row (B : Nat) (lv : Value) (l : List Tok) (w : World) (g cap : Nat) : Prop where
  val : lv = .slice (some ⟨g, 0, none⟩) l.length cap
  base : B ≤ g
  lt : g < w.heap.size
  le : l.length ≤ cap
  max : cap ≤ maxLen
  cell : ∀ i t, l[i]? = some t → w.cell? ⟨g, i * 4, none⟩ = some (.int .i64 t.kind) ∧ w.cell? ⟨g, i * 4 + 1, none⟩ = some (.string (str t.text)) ∧ w.cell? ⟨g, i * 4 + 2, none⟩ = some (.int .i64 t.n) ∧ w.cell? ⟨g, i * 4 + 3, none⟩ = some (.int .i64 t.at_)
  free : ∀ i, w.frozen? ⟨g, i, none⟩ = false
theorem tokRow_at : ∀ (l : List Tok) (i : Nat) (t : Tok), l[i]? = some t → (tokRow l)[i * 4]? = some (.int .i64 t.kind) ∧ (tokRow l)[i * 4 + 1]? = some (.string (str t.text)) ∧ (tokRow l)[i * 4 + 2]? = some (.int .i64 t.n) ∧ (tokRow l)[i * 4 + 3]? = some (.int .i64 t.at_)
  | [], i, t, h => by simp at h
  | a :: l, 0, t, h => by
    simp only [List.getElem?_cons_zero, Option.some.injEq] at h
    subst h
    exact ⟨rfl, rfl, rfl, rfl⟩
  | a :: l, i + 1, t, h => by
    have ih := tokRow_at l i t (by simpa using h)
    have e : ∀ k, (tokRow (a :: l))[(i + 1) * 4 + k]? = (tokRow l)[i * 4 + k]? := fun k => by
      show (tokCells a ++ tokRow l)[(i + 1) * 4 + k]? = _
      rw [List.getElem?_append_right (by show 4 ≤ _; omega)]
      congr 1
      show (i + 1) * 4 + k - 4 = _
      omega
    exact ⟨by have := e 0; rw [Nat.add_zero, Nat.add_zero] at this; rw [this]; exact ih.1, by rw [e 1]; exact ih.2.1, by rw [e 2]; exact ih.2.2.1, by rw [e 3]; exact ih.2.2.2⟩
theorem row_of {B : Nat} {lv : Value} {l : List Tok} {w : World} (h : w.ownsRow B 36 4 lv l.length (tokRow l)) (hl : l ≠ []) : ∃ g cap, Row B lv l w g cap := by
  rcases h.2 with ⟨_, h0⟩ | ⟨g, cap, cur, hv, hg, hh, h1, h2, h3, h4⟩
  · exact absurd (List.eq_nil_of_length_eq_zero h0) hl
  · refine ⟨g, cap, hv, hg, blk_lt hh, h1, h2, fun i t hi => ?_, blk_free hh⟩
    obtain ⟨a0, a1, a2, a3⟩ := tokRow_at l i t hi
    have hil : i < l.length := by
      rcases Nat.lt_or_ge i l.length with h | h
      · exact h
      · rw [List.getElem?_eq_none h] at hi; cases hi
    have key : ∀ k v, k < 4 → (tokRow l)[i * 4 + k]? = some v → w.cell? ⟨g, i * 4 + k, none⟩ = some v := fun k v hk hv => by
      rw [← h4, List.getElem?_take, if_pos (by omega)] at hv
      rw [blk_cell hh]
      rw [Array.getElem?_toList] at hv
      exact hv
    exact ⟨key 0 _ (by omega) a0, key 1 _ (by omega) a1, key 2 _ (by omega) a2, key 3 _ (by omega) a3⟩
theorem Row.below {B C : Nat} {lv : Value} {l : List Tok} {w w' : World} {g cap : Nat} (h : Row B lv l w g cap) (hb : Below C w w') (hC : w.heap.size ≤ C) : Row B lv l w' g cap := by
  have hlt := h.lt
  refine ⟨h.val, h.base, by have := hb.size; omega, h.le, h.max, fun i t hi => ?_, fun i => ?_⟩
  · obtain ⟨a0, a1, a2, a3⟩ := h.cell i t hi
    exact ⟨by rw [hb.cell (by show g < C; omega)]; exact a0, by rw [hb.cell (by show g < C; omega)]; exact a1, by rw [hb.cell (by show g < C; omega)]; exact a2, by rw [hb.cell (by show g < C; omega)]; exact a3⟩
  · rw [hb.frozen (by show g < C; omega)]; exact h.free i
theorem str_list (l : Bs) : (str l).toList = l := by rw [Lib.toList_data]; exact bs_str l
def fixA : Bs := [120, 61, 49, 48, 32, 45, 45, 99, 10, 46, 46, 39, 97, 92, 54, 53, 92, 120, 52, 50, 92, 117, 123, 50, 48, 65, 67, 125, 39]
def fixL : List Tok := [⟨1, [120], 0, 0⟩, ⟨5, [61], 0, 1⟩, ⟨3, [49, 48], 10, 2⟩, ⟨5, [46, 46], 0, 9⟩, ⟨4, [97, 65, 66, 226, 130, 172], 0, 11⟩, ⟨6, [], 0, 29⟩]
def fixB : Bs := [97, 126, 98]
deriving instance DecidableEq for Sum
theorem fixA_scan : scanF fixA = .inr fixL := by decide +kernel
theorem fixB_scan : scanF fixB = .inl (4, 1) := by decide +kernel
set_option maxHeartbeats 4000000 in
set_option maxRecDepth 100000 in
theorem fixed_any (w : World) (hg : Gl w) : Calls Tryd.prog 12 #[] w fun e w' => e = .returned (.bool true) ∧ Below w.heap.size w w' := by
  have hA := scan_any (str fixA) w hg
  rw [bs_str, fixA_scan] at hA
  have HA := Lib.hid hA
  have HG := Lib.hid hg
  clear hA hg
  go_enter Tryd.func12, Tryd.ntmps12
  go_wp2_with fail
  refine HA.out.mono ?_
  rintro e w1 ⟨lv, rfl, hrow, hb1⟩
  obtain ⟨g, cap, hr⟩ := row_of hrow (by simp [fixL])
  have HR := Lib.hid hr
  have HB1 := Lib.hid hb1
  have hB := scan_any (str fixB) (w1.alloc (.cells #[.int .i64 0, .int .i64 0] 25)) ((HG.out.below hb1 HG.out.size).below ((Below.refl w1.heap.size w1).alloc (Nat.le_refl _) _) (by have := HG.out.size; have := hb1.size; omega))
  rw [bs_str, fixB_scan] at hB
  have HB := Lib.hid hB
  have hv : lv = .slice (some ⟨g, 0, none⟩) 6 cap := hr.val
  subst hv
  clear hrow hr hb1 hB
  go_wp2_with fail
  refine HB.out.mono ?_
  rintro e w2 ⟨rfl, hb2⟩
  have hr2 := (HR.out.below ((Below.refl w1.heap.size w1).alloc (Nat.le_refl _) (.cells #[.int .i64 0, .int .i64 0] 25)) (Nat.le_refl _)).below hb2 (Nat.le_refl _)
  have hglt := hr2.lt
  have hcm := hr2.max
  have hc6 : 6 ≤ cap := hr2.le
  have f0 : w2.cell? ⟨w1.heap.size, 0, none⟩ = some (.int .i64 0) := by rw [hb2.cell (by simp)]; simp
  have f1 : w2.cell? ⟨w1.heap.size, 1, none⟩ = some (.int .i64 0) := by rw [hb2.cell (by simp)]; simp
  obtain ⟨-, -, a2, -⟩ := hr2.cell 2 _ rfl
  obtain ⟨-, b1, -, -⟩ := hr2.cell 4 _ rfl
  obtain ⟨d0, d1, d2, d3⟩ := hr2.cell 5 _ rfl
  have hls : w1.heap.size < w2.heap.size := by have := hb2.size; simp at this; omega
  have HB2 := Lib.hid (((HB1.out.alloc (by have := HB1.out.size; omega) (.cells #[.int .i64 0, .int .i64 0] 25)).trans (hb2.mono (by have := HB1.out.size; simp; omega))))
  have hs1 := str_list [97, 65, 66, 226, 130, 172]
  have hs2 := str_list []
  clear hr2 hb2
  go_wp2_with fail
  go_ret
  exact ⟨rfl, HB2.out.alloc (by have := HB2.out.size; omega) _⟩
end Go.Proofs.YtadenjlehhopmaaDoor
