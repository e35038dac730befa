/- 'Scan': its deferred closure. -/
import Derived.Test.YtadenjlehhopmaaDoorB9
namespace Go.Proofs.YtadenjlehhopmaaDoor
set_option linter.unusedSimpArgs false
set_option linter.unusedVariables false
open Go Go.RowKit Lx
set_option maxRecDepth 100000 in
set_option maxHeartbeats 2000000 in
/-- The deferred closure: of a frame that panics with a 'failed'. -/
theorem scan_panicking (p q : Nat) (x : Value) (y1 y2 : Int) (c a : Int) (w : World) (hp : w.cell? ⟨p, 0, none⟩ = some x) (hq0 : w.cell? ⟨q, 0, none⟩ = some (.int .i64 y1)) (hq1 : w.cell? ⟨q, 1, none⟩ = some (.int .i64 y2))
    (fp : w.frozen? ⟨p, 0, none⟩ = false) (fq : w.frozen? ⟨q, 0, none⟩ = false) (fq1 : w.frozen? ⟨q, 1, none⟩ = false) (hpl : p < w.heap.size) (hql : q < w.heap.size) (hne : p < q) :
    CallsD Tryd.prog 21 #[.pointer (some ⟨p, 0, none⟩), .pointer (some ⟨q, 0, none⟩)] (.panicking [{ v := .iface 45 (.agg #[.int .i64 c, .int .i64 a]), recovered := false }]) w fun e u' w' =>
      e = .returned (.tuple #[]) ∧ u' = .panicking [{ v := .iface 45 (.agg #[.int .i64 c, .int .i64 a]), recovered := true }] ∧
      w'.cell? ⟨p, 0, none⟩ = some (.slice none 0 0) ∧ w'.cell? ⟨q, 0, none⟩ = some (.int .i64 c) ∧ w'.cell? ⟨q, 1, none⟩ = some (.int .i64 a) ∧ Below p w w' := by
  refine callsD_of_wpS Tryd.func21 rfl fun c₀ cs hu => ?_
  have hta : ∀ w, (Instr.typeAssert (.iface 45 (.agg #[.int .i64 c, .int .i64 a])) 20 45 true).run Tryd.prog w = .ok (.tuple #[.agg #[.int .i64 c, .int .i64 a], .bool true]) w := fun w => by kernel_rfl
  apply wpS_seq
  apply wpS_region
  simp [wpOpsS, go_sem, recoverD, hu, Tryd.ntmps21, Exit.thenS, Array.replicate_succ]
  refine wpS_of_wp ?_
  go_wp2
  have hpn : ¬ w.heap.size = p := by omega
  have hqn : ¬ w.heap.size = q := by omega
  have hpq : ¬ p = q := by omega
  have hqp : ¬ q = p := by omega
  have hpn' : ¬ p = w.heap.size := by omega
  have hqn' : ¬ q = w.heap.size := by omega
  refine wp_region_plan [(0, 3), (1, 1)] (fun w' => w'.cell? ⟨w.heap.size, 0, none⟩ = some (.int .i64 c) ∧ w'.cell? ⟨w.heap.size, 1, none⟩ = some (.int .i64 a)) (by kernel_rfl) (by kernel_rfl) (fun _ _ d _ _ h => by cases d <;> exact h) (by refine ⟨?_, ?_⟩ <;> go_simp) ?_
  simp only [planOps, List.filterMap_cons, List.filterMap_nil, List.getElem?_toArray, List.getElem?_cons_zero, List.getElem?_cons_succ, Option.map_some, List.drop_succ_cons, List.drop_zero, List.length_cons, List.length_nil]
  iterate 1 (refine plan_load (by rfl) (fun wq hq => by obtain ⟨hq0, hq1⟩ := hq; go_simp; with_reducible rfl) ?_; simp only [Act.put, List.setIfInBounds_toArray, List.set_cons_zero, List.set_cons_succ])
  refine plan_turn ?_ ?_
  · rfl
  intro K hK
  go_wp2
  refine ⟨by refine ⟨?_, ?_⟩ <;> go_simp, ?_⟩
  refine plan_done ?_
  go_wp2
  simp [bodyPostS, results, Tryd.results21]
  refine ⟨?_, ?_, ?_, ?_⟩
  · go_simp
  · go_simp
  · go_simp
  · exact (((((Below.refl p w).setCell (p := ⟨p, 0, none⟩) (Nat.le_refl _) _).setCell (p := ⟨q, 0, none⟩) (Nat.le_of_lt hne) _).setCell (p := ⟨q, 1, none⟩) (Nat.le_of_lt hne) _).alloc (by simp; omega) _).drew
/-- Of a frame that returns. -/
theorem scan_idle (p q : Value) (w : World) :
    CallsD Tryd.prog 21 #[p, q] .returning w fun e u' w' => e = .returned (.tuple #[]) ∧ u' = .returning ∧ w = w' := by
  refine callsD_of_wpS Tryd.func21 rfl fun c₀ cs hu => ?_
  apply wpS_seq
  apply wpS_region
  simp [wpOpsS, go_sem, recoverD, hu, Tryd.ntmps21, Exit.thenS, Array.replicate_succ]
  refine wpS_of_wp ?_
  go_wp2
  cases c₀
  simp_all [bodyPostS, results, Tryd.results21]
end Go.Proofs.YtadenjlehhopmaaDoor
