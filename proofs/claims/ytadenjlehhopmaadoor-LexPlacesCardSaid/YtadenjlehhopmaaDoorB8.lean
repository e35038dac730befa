/- 'number'. -/
import Derived.Test.YtadenjlehhopmaaDoorB7
namespace Go.Proofs.YtadenjlehhopmaaDoor
set_option linter.unusedSimpArgs false
set_option linter.unusedVariables false
open Go Go.RowKit Lx
/-- What 'number' comes to. -/
def NumEnd (m : Nat) (t : Bs) (B sb at_ : Nat) (src : ByteArray) (l : List Tok) (w : World) (e : Ending) (w' : World) : Prop :=
  if (parseF t).2 ≠ 0 then e = failEnd (parseF t).2 at_ ∧ Below B w w'
  else e = .returned (.tuple #[]) ∧ Sc B sb src (at_ + m) (l ++ [⟨3, t, (parseF t).1, at_⟩]) w' ∧ Below B w w'
set_option maxHeartbeats 4000000 in
set_option maxRecDepth 100000 in
theorem number_any (B sb at_ : Nat) (src : ByteArray) (l : List Tok) (w : World) (h : Sc B sb src at_ l w) (hat : at_ ≤ src.size) (hs : src.size ≤ 100000) (hll : l.length ≤ 100000) (hBw : B ≤ w.heap.size) :
    Calls Tryd.prog 46 #[.pointer (some ⟨sb, 0, none⟩)] w (NumEnd (runL partR ((bs src).drop at_)) (((bs src).drop at_).take (runL partR ((bs src).drop at_))) B sb at_ src l w) := by
  have hm := runL_le' partR ((bs src).drop at_)
  rw [List.length_drop, bs_length] at hm
  obtain ⟨hb, c0, c1⟩ := h.reads
  have HRUN := Lib.hid (run_any 61 partR sb at_ src w sort_part hb c0 c1 hat (by omega))
  generalize hM : runL partR ((bs src).drop at_) = m at *
  have HM := Lib.hid hM
  have HSC := Lib.hid h
  clear hM h
  have hz1 : (at_ : Int) ≤ (at_ : Int) + m := by omega
  have hz2 : (at_ : Int) + m ≤ src.size := by omega
  have hz3 : ((at_ : Int) + m).toNat = at_ + m := by omega
  have hz4 : (at_ : Int) + m ≤ 100000 := by omega
  have hz5 := wrap_in ((at_ : Int) + m) (by omega) (by omega)
  go_enter Tryd.func46, Tryd.ntmps46
  go_wp2_with fail
  refine HRUN.out.mono ?_
  rintro e w1 ⟨rfl, hb1⟩
  have HSC1 := Lib.hid (HSC.out.later hb1)
  have HB1 := Lib.hid hb1
  clear c0 c1 hb hb1
  obtain ⟨hb, c0, c1⟩ := HSC1.out.reads
  have hwsz := HB1.out.size
  have HEXT := Lib.hid (show bs (src.extract at_ (at_ + m)) = ((bs src).drop at_).take m by rw [bs_extract, Nat.add_sub_cancel_left])
  have HPA := Lib.hid (fun w => parse_any (src.extract at_ (at_ + m)) w (by have := congrArg List.length HEXT.out; rw [bs_length, List.length_take, List.length_drop, bs_length] at this; omega))
  generalize hPF : parseF (((bs src).drop at_).take m) = PF at *
  have HPF := Lib.hid hPF
  clear hPF
  go_wp2_with fail
  refine wp_region_plan [(0, 0), (1, 0), (2, 0), (3, 3), (4, 0), (5, 0), (6, 0), (7, 3), (8, 0), (9, 0), (10, 0), (11, 3), (12, 0), (13, 0)] (fun w' => w'.cell? ⟨sb, 0, none⟩ = some (.string src) ∧ w'.cell? ⟨sb, 1, none⟩ = some (.int .i64 at_)) (by kernel_rfl) (by kernel_rfl) (fun _ _ d _ _ h => by cases d <;> exact h) (by refine ⟨?_, ?_⟩ <;> go_simp) ?_
  simp only [planOps, List.filterMap_cons, List.filterMap_nil, List.getElem?_toArray, List.getElem?_cons_zero, List.getElem?_cons_succ, Option.map_some, List.drop_succ_cons, List.drop_zero, List.length_cons, List.length_nil]
  iterate 3 (refine plan_pure (by rfl) (fun wq => by go_simp; with_reducible rfl) ?_; simp only [Act.put, List.setIfInBounds_toArray, List.set_cons_zero, List.set_cons_succ])
  iterate 1 (refine plan_load (by rfl) (fun wq hq => by obtain ⟨hq0, hq1⟩ := hq; go_simp; with_reducible rfl) ?_; simp only [Act.put, List.setIfInBounds_toArray, List.set_cons_zero, List.set_cons_succ])
  iterate 3 (refine plan_pure (by rfl) (fun wq => by go_simp; with_reducible rfl) ?_; simp only [Act.put, List.setIfInBounds_toArray, List.set_cons_zero, List.set_cons_succ])
  iterate 1 (refine plan_load (by rfl) (fun wq hq => by obtain ⟨hq0, hq1⟩ := hq; go_simp; with_reducible rfl) ?_; simp only [Act.put, List.setIfInBounds_toArray, List.set_cons_zero, List.set_cons_succ])
  iterate 3 (refine plan_pure (by rfl) (fun wq => by go_simp; with_reducible rfl) ?_; simp only [Act.put, List.setIfInBounds_toArray, List.set_cons_zero, List.set_cons_succ])
  iterate 1 (refine plan_load (by rfl) (fun wq hq => by obtain ⟨hq0, hq1⟩ := hq; go_simp; with_reducible rfl) ?_; simp only [Act.put, List.setIfInBounds_toArray, List.set_cons_zero, List.set_cons_succ])
  iterate 2 (refine plan_pure (by rfl) (fun wq => by go_simp; with_reducible rfl) ?_; simp only [Act.put, List.setIfInBounds_toArray, List.set_cons_zero, List.set_cons_succ])
  refine plan_done ?_
  go_wp2_with fail
  refine (HPA.out _).mono ?_
  rintro e w2 ⟨rfl, hb2⟩
  rw [HEXT.out, HPF.out]
  have HB2 := Lib.hid hb2
  have HSC2 := Lib.hid (HSC1.out.drew.later hb2)
  clear hb2 hb c0 c1
  obtain ⟨hb, c0, c1⟩ := HSC2.out.reads
  by_cases h0 : PF.2 = 0
  · rw [h0]
    have HADD := Lib.hid (add_any B sb at_ src l m 3 PF.1 0 (src.extract at_ (at_ + m)) w2 HSC2.out (by have := HB2.out.size; simp at this; omega) hll (by omega))
    go_wp2_with fail
    refine HADD.out.mono ?_
    rintro e w' ⟨rfl, hsc, hbb⟩
    go_wp2_with fail
    refine bodyPost_ret (results_none rfl _ _ _) rfl ?_
    unfold NumEnd
    rw [HPF.out, if_neg (by simp [h0])]
    rw [HEXT.out] at hsc
    exact ⟨rfl, hsc, ((HB1.out.drew.mono hBw).trans (HB2.out.mono (by simp; omega))).trans hbb⟩
  · have h0' : (PF.2 == 0) = false := by simpa using h0
    go_wp2_with fail
    refine (fail_any _ _ _).mono ?_
    rintro e w' ⟨rfl, rfl⟩
    go_wp2_with fail
    refine ⟨rfl, ?_⟩
    unfold NumEnd
    rw [HPF.out, if_pos h0]
    exact ⟨rfl, (HB1.out.drew.mono hBw).trans (HB2.out.mono (by simp; omega))⟩
end Go.Proofs.YtadenjlehhopmaaDoor
