/- 'fail', 'unfit', 'add'. -/
import Derived.Test.YtadenjlehhopmaaDoorA1
namespace Go.Proofs.YtadenjlehhopmaaDoor
set_option linter.unusedSimpArgs false
set_option linter.unusedVariables false
open Go Go.RowKit Lx
/-- What the scanner gives up with. -/
abbrev failEnd (c a : Int) : Ending := .panicked [{ v := .iface 45 (.agg #[.int .i64 c, .int .i64 a]), recovered := false }]
set_option maxHeartbeats 400000 in
theorem fail_any (c n : Int) (w : World) :
    Calls Tryd.prog 62 #[.int .i64 c, .int .i64 n] w fun e w' => e = failEnd c n ∧ w = w' := by
  go_enter Tryd.func62, Tryd.ntmps62
  go_wp2
  exact ⟨rfl, rfl, rfl⟩
set_option maxHeartbeats 400000 in
theorem unfit_any (p : Value) (n : Int) (w : World) :
    Calls Tryd.prog 81 #[p, .int .i64 n] w fun e w' => e = failEnd 4 n ∧ w = w' := by
  go_enter Tryd.func81, Tryd.ntmps81
  go_wp2_with ((go_at_call 62; refine (fail_any _ _ _).mono ?_; rintro e w' ⟨rfl, rfl⟩))
  exact ⟨rfl, rfl, rfl⟩
set_option maxHeartbeats 1000000 in
theorem add_any (B sb at_ : Nat) (src : ByteArray) (l : List Tok) (n : Nat) (k x m : Int) (t : ByteArray) (w : World)
    (h : Sc B sb src at_ l w) (hB : B ≤ w.heap.size) (hl : l.length ≤ 100000) (hat : at_ + n ≤ 1000000) :
    Calls Tryd.prog 23 #[.pointer (some ⟨sb, 0, none⟩), .agg #[.int .i64 k, .string t, .int .i64 x, .int .i64 m], .int .i64 n] w
      fun e w' => e = .returned (.tuple #[]) ∧ Sc B sb src (at_ + n) (l ++ [⟨k, bs t, x, at_⟩]) w' ∧ Below B w w' := by
  obtain ⟨lv, hblk, hown, hne, hsb⟩ := h
  have hb := blk_lt hblk
  have c0 : w.cell? ⟨sb, 0, none⟩ = some (.string src) := by rw [blk_cell hblk]; rfl
  have c1 : w.cell? ⟨sb, 1, none⟩ = some (.int .i64 at_) := by rw [blk_cell hblk]; rfl
  have c2 : w.cell? ⟨sb, 2, none⟩ = some lv := by rw [blk_cell hblk]; rfl
  have HB := Lib.hid hblk; clear hblk
  obtain ⟨i0, hi, hz0, hz1, hz2⟩ := info_parts infoTok
  go_enter Tryd.func23, Tryd.ntmps23
  go_wp2
  refine wp_region_plan [(0, 0), (1, 0), (2, 0), (3, 0), (4, 3), (5, 3), (6, 1)] (fun w' => w'.cell? ⟨sb, 2, none⟩ = some lv ∧ w'.cell? ⟨w.heap.size, 0, none⟩ = some (.int .i64 k) ∧ w'.cell? ⟨w.heap.size, 1, none⟩ = some (.string t) ∧ w'.cell? ⟨w.heap.size, 2, none⟩ = some (.int .i64 x) ∧ w'.cell? ⟨w.heap.size, 3, none⟩ = some (.int .i64 at_)) (by kernel_rfl) (by kernel_rfl) (fun _ _ d _ _ h => by cases d <;> exact h) (by refine ⟨?_, ?_, ?_, ?_, ?_⟩ <;> go_simp) ?_
  simp only [planOps, List.filterMap_cons, List.filterMap_nil, List.getElem?_toArray, List.getElem?_cons_zero, List.getElem?_cons_succ, Option.map_some, List.drop_succ_cons, List.drop_zero, List.length_cons, List.length_nil]
  iterate 4 (refine plan_pure (by rfl) (fun wq => by go_simp; with_reducible rfl) ?_; simp only [Act.put, List.setIfInBounds_toArray, List.set_cons_zero, List.set_cons_succ])
  iterate 2 (refine plan_load (by rfl) (fun wq hq => by obtain ⟨hq0, hq1, hq2, hq3, hq4⟩ := hq; go_simp; with_reducible rfl) ?_; simp only [Act.put, List.setIfInBounds_toArray, List.set_cons_zero, List.set_cons_succ])
  refine plan_turn ?_ ?_
  · rfl
  intro K hK
  go_wp2
  refine ⟨by refine ⟨?_, ?_, ?_, ?_, ?_⟩ <;> go_simp, ?_⟩
  refine plan_done ?_
  refine wpList_append_own _ rfl _ _ 22 rfl B 36 i0 _ 4 40 Tryd.underlying22 hi hz0 hz1 hz2 rfl (by decide) lv l.length (tokRow l) rfl ((hown.alloc _).alloc _) ⟨w.heap.size + 1, 0, none⟩ 1 1 [.int .i64 k, .string t, .int .i64 x, .int .i64 at_] rfl rfl ?_ ?_ ?_ ?_ ?_ ?_
  · exact new_cells (w.alloc _) _ _ _ (by simp)
  · simp [Value.oneCell']
  · unfold maxLen; omega
  · omega
  · simp; omega
  intro v1 w1 hown1 hgr1 _
  have HB1 := Lib.hid (blk_grown hgr1 hne (blk_drew (blk_alloc (blk_alloc HB.out))))
  have d1 : w1.cell? ⟨sb, 1, none⟩ = some (.int .i64 at_) := by rw [blk_cell HB1.out]; rfl
  have d2 : w1.cell? ⟨sb, 2, none⟩ = some lv := by rw [blk_cell HB1.out]; rfl
  have e1 := blk_free HB1.out 1
  have e2 := blk_free HB1.out 2
  obtain ⟨g1, cap1, hv1, hg1, hne1⟩ := owns_shape hown1 HB1.out (by decide)
  have hown1 : w1.ownsRow B 36 4 (.slice (some ⟨g1, 0, none⟩) (l.length + 1) cap1) (l.length + 1) (tokRow l ++ [.int .i64 k, .string t, .int .i64 x, .int .i64 at_]) := by rw [← hv1]; exact hown1
  rw [hv1]
  have HO := Lib.hid hown1
  have HG := Lib.hid hgr1
  have HV := Lib.hid hv1
  clear hown1 hgr1 c0 c1 c2 hi hz0 hz1 hz2 hv1
  go_wp2
  go_end0
  have hb2 : Below B w w1 := ((((Below.refl B w).alloc hB _).alloc (by simp; omega) _).drew).grown HG.out (by simp; omega) (fun k hk => (hown.lt k hk).1)
  refine ⟨rfl, ?_, ?_⟩
  · refine ⟨.slice (some ⟨g1, 0, none⟩) (l.length + 1) cap1, ?_, ?_, by simp only [Value.ownBlock]; exact fun h => hne1 (Option.some.inj h), hsb⟩
    · rw [blk_set (blk_set HB1.out 2 _) 1 _]; simp
    · rw [List.length_append, List.length_singleton, tokRow_snoc]
      have e : tokCells ⟨k, bs t, x, at_⟩ = [.int .i64 k, .string t, .int .i64 x, .int .i64 at_] := by simp [tokCells, str_bs]
      rw [e]
      refine ⟨HO.out.1, ?_⟩
      rcases HO.out.2 with ⟨h, _⟩ | ⟨g, cap, cur, hv, hg, hh, r⟩
      · cases h
      · cases hv
        exact .inr ⟨g1, cap1, cur, rfl, hg, blk_set_ne (blk_set_ne hh (fun h => hne1 h.symm) _) (fun h => hne1 h.symm) _, r⟩
  · exact (hb2.setCell hsb _).setCell hsb _
end Go.Proofs.YtadenjlehhopmaaDoor
