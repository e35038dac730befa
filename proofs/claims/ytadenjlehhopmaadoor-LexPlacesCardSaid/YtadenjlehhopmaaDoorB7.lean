/- 'name'. -/
import Derived.Test.YtadenjlehhopmaaDoorB6
import Derived.Test.YtadenjlehhopmaaDoorW0
namespace Go.Proofs.YtadenjlehhopmaaDoor
set_option linter.unusedSimpArgs false
set_option linter.unusedVariables false
open Go Go.RowKit Lx
theorem wrap_in (x : Int) (h0 : 0 ≤ x) (h1 : x ≤ 1000000000) : IntKind.i64.wrap x = x := by unfold IntKind.wrap; simp [IntKind.bits, IntKind.signed]; omega
/-- What 'name' comes to. -/
def NameEnd (m : Nat) (t : Bs) (B sb at_ : Nat) (src : ByteArray) (l : List Tok) (w : World) (e : Ending) (w' : World) : Prop :=
  if m > 40 then e = failEnd 14 at_ ∧ Below B w w'
  else e = .returned (.tuple #[]) ∧ Sc B sb src (at_ + m) (l ++ [⟨if isWordF t then 2 else 1, t, 0, at_⟩]) w' ∧ Below B w w'
theorem word_contains (src : ByteArray) (at_ m : Nat) (w : World) (hm : runL partR ((bs src).drop at_) = m) (hle : at_ + m ≤ src.size) (hs : m ≤ 40) (hg : Gl w) :
    Calls Tryd.prog 63 #[.string (str wordBytes), .string (⟨#[32]⟩ ++ src.extract at_ (at_ + m) ++ ⟨#[32]⟩)] w fun e w' => e = .returned (.bool (isWordF (((bs src).drop at_).take m))) ∧ w = w' := by
  obtain ⟨k, hk⟩ := hg.maxLen
  refine (Tryd.strings_Contains (str wordBytes) _ k w (by rw [str_size]; decide) hk).mono ?_
  rintro e w' ⟨rfl, rfl⟩
  have e1 : (str wordBytes).data.toList = wordBytes := bs_str _
  have e2 : (⟨#[32]⟩ ++ src.extract at_ (at_ + m) ++ ⟨#[32]⟩ : ByteArray).data.toList = 32 :: (((bs src).drop at_).take m) ++ [32] := by
    have h := bs_extract src at_ (at_ + m)
    rw [Nat.add_sub_cancel_left] at h
    rw [← h]
    simp [bs]
  refine ⟨?_, rfl⟩
  rw [e1, e2, contains_word]
  rw [← hm]
  exact runL_no32 partR (by decide) (by decide) _ _ (Nat.le_refl _)
set_option maxHeartbeats 4000000 in
set_option maxRecDepth 100000 in
theorem name_any (B sb at_ : Nat) (src : ByteArray) (l : List Tok) (w : World) (h : Sc B sb src at_ l w) (hg : Gl w) (hat : at_ ≤ src.size) (hs : src.size ≤ 100000) (hll : l.length ≤ 100000) (hBw : B ≤ w.heap.size) :
    Calls Tryd.prog 44 #[.pointer (some ⟨sb, 0, none⟩)] w (NameEnd (runL partR ((bs src).drop at_)) (((bs src).drop at_).take (runL partR ((bs src).drop at_))) B sb at_ src l w) := by
  have HMM := Lib.hid (rfl : runL partR ((bs src).drop at_) = runL partR ((bs src).drop at_))
  have HG := Lib.hid hg
  clear hg
  have hm := runL_le' partR ((bs src).drop at_)
  rw [List.length_drop, bs_length] at hm
  obtain ⟨hb, c0, c1⟩ := h.reads
  have HRUN := Lib.hid (run_any 61 partR sb at_ src w sort_part hb c0 c1 hat (by omega))
  generalize hM : runL partR ((bs src).drop at_) = m at *
  have HM := Lib.hid hM
  have HSC := Lib.hid h
  clear hM h
  have hz1 : (at_ : Int) ≤ (at_ : Int) + m := by omega
  have hz2 : (at_ : Int) + m ≤ src.size := by omega
  have hz3 : ((at_ : Int) + m).toNat = at_ + m := by omega
  have hz4 : (at_ : Int) + m ≤ 100000 := by omega
  have hz5 := wrap_in ((at_ : Int) + m) (by omega) (by omega)
  go_enter Tryd.func44, Tryd.ntmps44
  go_wp2_with fail
  refine HRUN.out.mono ?_
  rintro e w1 ⟨rfl, hb1⟩
  have HSC1 := Lib.hid (HSC.out.later hb1)
  have HB1 := Lib.hid hb1
  clear c0 c1 hb hb1
  obtain ⟨hb, c0, c1⟩ := HSC1.out.reads
  go_wp2_with fail
  refine wp_region_plan [(0, 0), (1, 0), (2, 0), (3, 3), (4, 0), (5, 0), (6, 0), (7, 3), (8, 0), (9, 0), (10, 0), (11, 3), (12, 0), (13, 0), (14, 0), (15, 0), (16, 1)] (fun w' => w'.cell? ⟨sb, 0, none⟩ = some (.string src) ∧ w'.cell? ⟨sb, 1, none⟩ = some (.int .i64 at_)) (by kernel_rfl) (by kernel_rfl) (fun _ _ d _ _ h => by cases d <;> exact h) (by refine ⟨?_, ?_⟩ <;> go_simp) ?_
  simp only [planOps, List.filterMap_cons, List.filterMap_nil, List.getElem?_toArray, List.getElem?_cons_zero, List.getElem?_cons_succ, Option.map_some, List.drop_succ_cons, List.drop_zero, List.length_cons, List.length_nil]
  iterate 3 (refine plan_pure (by rfl) (fun wq => by go_simp; with_reducible rfl) ?_; simp only [Act.put, List.setIfInBounds_toArray, List.set_cons_zero, List.set_cons_succ])
  iterate 1 (refine plan_load (by rfl) (fun wq hq => by obtain ⟨hq0, hq1⟩ := hq; go_simp; with_reducible rfl) ?_; simp only [Act.put, List.setIfInBounds_toArray, List.set_cons_zero, List.set_cons_succ])
  iterate 3 (refine plan_pure (by rfl) (fun wq => by go_simp; with_reducible rfl) ?_; simp only [Act.put, List.setIfInBounds_toArray, List.set_cons_zero, List.set_cons_succ])
  iterate 1 (refine plan_load (by rfl) (fun wq hq => by obtain ⟨hq0, hq1⟩ := hq; go_simp; with_reducible rfl) ?_; simp only [Act.put, List.setIfInBounds_toArray, List.set_cons_zero, List.set_cons_succ])
  iterate 3 (refine plan_pure (by rfl) (fun wq => by go_simp; with_reducible rfl) ?_; simp only [Act.put, List.setIfInBounds_toArray, List.set_cons_zero, List.set_cons_succ])
  iterate 1 (refine plan_load (by rfl) (fun wq hq => by obtain ⟨hq0, hq1⟩ := hq; go_simp; with_reducible rfl) ?_; simp only [Act.put, List.setIfInBounds_toArray, List.set_cons_zero, List.set_cons_succ])
  iterate 4 (refine plan_pure (by rfl) (fun wq => by go_simp; with_reducible rfl) ?_; simp only [Act.put, List.setIfInBounds_toArray, List.set_cons_zero, List.set_cons_succ])
  refine plan_turn ?_ ?_
  · rfl
  intro K hK
  go_wp2
  refine ⟨by refine ⟨?_, ?_⟩ <;> go_simp, ?_⟩
  refine plan_done ?_
  by_cases h40 : m > 40
  · have h40z : (40 : Int) < m := by omega
    go_wp2_with fail
    refine (fail_any _ _ _).mono ?_
    rintro e w' ⟨rfl, rfl⟩
    go_wp2_with fail
    refine ⟨rfl, ?_⟩
    show NameEnd m _ B sb at_ src l w _ _
    unfold NameEnd
    rw [if_pos h40]
    exact ⟨rfl, ((HB1.out.mono hBw).alloc (by have := HB1.out.size; omega) _).drew⟩
  · have h40z : ¬ (40 : Int) < m := by omega
    go_wp2_with fail
    have HGW := Lib.hid (HG.out.below HB1.out HG.out.size)
    have HGW2 := Lib.hid ((HGW.out.below ((Below.refl w1.heap.size w1).alloc (Nat.le_refl _) (.cells #[.int .i64 1, .string (src.extract at_ (at_ + m)), .int .i64 0, .int .i64 0] 36)) HGW.out.size).drew)
    refine (word_contains src at_ m _ HM.out (by omega) (by omega) HGW2.out).mono ?_
    rintro e w' ⟨rfl, rfl⟩
    generalize HT : isWordF (((bs src).drop at_).take m) = bw
    have hext : bs (src.extract at_ (at_ + m)) = ((bs src).drop at_).take m := by rw [bs_extract, Nat.add_sub_cancel_left]
    have HEXT := Lib.hid hext
    have hwsz := HB1.out.size
    clear hext
    cases bw
    · have HADD := Lib.hid (add_any B sb at_ src l m 1 0 0 (src.extract at_ (at_ + m)) _ ((HSC1.out.alloc (.cells #[.int .i64 1, .string (src.extract at_ (at_ + m)), .int .i64 0, .int .i64 0] 36)).drew) (by simp; omega) hll (by omega))
      have HT2 := Lib.hid HT
      clear HT
      go_wp2_with fail
      refine HADD.out.mono ?_
      rintro e w' ⟨rfl, hsc, hbb⟩
      go_wp2_with fail
      refine bodyPost_ret (results_none rfl _ _ _) rfl ?_
      unfold NameEnd
      rw [if_neg h40]
      rw [HEXT.out] at hsc
      rw [HT2.out]
      exact ⟨rfl, hsc, (((HB1.out.mono hBw).alloc (by omega) _).drew).trans hbb⟩
    · have HADD := Lib.hid (add_any B sb at_ src l m 2 0 0 (src.extract at_ (at_ + m)) _ ((HSC1.out.alloc (.cells #[.int .i64 2, .string (src.extract at_ (at_ + m)), .int .i64 0, .int .i64 0] 36)).drew) (by simp; omega) hll (by omega))
      have HT2 := Lib.hid HT
      clear HT
      go_wp2_with fail
      refine HADD.out.mono ?_
      rintro e w' ⟨rfl, hsc, hbb⟩
      go_wp2_with fail
      refine bodyPost_ret (results_none rfl _ _ _) rfl ?_
      unfold NameEnd
      rw [if_neg h40]
      rw [HEXT.out] at hsc
      rw [HT2.out]
      exact ⟨rfl, hsc, (((HB1.out.mono hBw).alloc (by omega) _).drew).trans hbb⟩
end Go.Proofs.YtadenjlehhopmaaDoor
