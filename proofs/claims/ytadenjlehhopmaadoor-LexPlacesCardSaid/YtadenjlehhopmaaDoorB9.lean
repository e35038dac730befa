/- 'next'. -/
import Derived.Test.YtadenjlehhopmaaDoorB8
namespace Go.Proofs.YtadenjlehhopmaaDoor
set_option linter.unusedSimpArgs false
set_option linter.unusedVariables false
open Go Go.RowKit Lx
/-- What 'next' comes to, the blanks left behind. -/
def NextEnd (r : Step) (B sb at_ : Nat) (src : ByteArray) (l : List Tok) (w : World) (e : Ending) (w' : World) : Prop :=
  match r with
  | .done => e = .returned (.bool false) ∧ Sc B sb src at_ l w' ∧ Below B w w'
  | .skip n => e = .returned (.bool true) ∧ Sc B sb src (at_ + n) l w' ∧ Below B w w'
  | .tok k t n len => e = .returned (.bool true) ∧ Sc B sb src (at_ + len) (l ++ [⟨k, t, n, at_⟩]) w' ∧ Below B w w'
  | .bad c rel => e = failEnd c (at_ + rel : Nat) ∧ Below B w w'
theorem decL_ascii (l : Bs) (h : (decL l).1 < 128) : (l.getD 0 0).toNat = (decL l).1 := by
  unfold decL at h ⊢
  dsimp only at h ⊢
  by_cases h0 : (l.getD 0 0).toNat < 128
  · rw [if_pos h0]
  · rw [if_neg h0] at h ⊢
    exfalso
    (repeat' split at h) <;> simp_all <;> omega
theorem decodeGo_eq (s : ByteArray) (h : bs s ≠ []) : Lib.decodeGo s = decL (bs s) := by
  unfold Lib.decodeGo
  have : s.size ≠ 0 := by
    intro h0
    rw [← bs_length] at h0
    exact h (List.eq_nil_of_length_eq_zero h0)
  rw [if_neg this, decode_eq, List.drop_zero]
theorem decodeGo_nil (s : ByteArray) (h : bs s = []) : Lib.decodeGo s = (65533, 0) := by
  unfold Lib.decodeGo
  rw [if_pos (by rw [← bs_length, h]; rfl)]
set_option maxHeartbeats 4000000 in
set_option maxRecDepth 100000 in
theorem next_any (B sb at_ : Nat) (src : ByteArray) (l : List Tok) (w : World) (h : Sc B sb src at_ l w) (hg : Gl w) (hat : at_ ≤ src.size) (hs : src.size ≤ 100000) (hll : l.length ≤ 100000) (hBw : B ≤ w.heap.size) (hNB : 9 ≤ B) :
    Calls Tryd.prog 22 #[.pointer (some ⟨sb, 0, none⟩)] w (NextEnd (stepF (((bs src).drop at_).drop (runL blankR ((bs src).drop at_)))) B sb (at_ + runL blankR ((bs src).drop at_)) src l w) := by
  have hm := runL_le' blankR ((bs src).drop at_)
  rw [List.length_drop, bs_length] at hm
  obtain ⟨hb, c0, c1⟩ := h.reads
  have HRUN := Lib.hid (run_any 39 blankR sb at_ src w.drew sort_blank hb c0 c1 hat (by omega))
  rw [List.drop_drop]
  generalize runL blankR ((bs src).drop at_) = m at *
  have hz5 := wrap_in ((at_ : Int) + m) (by omega) (by omega)
  rw [show (at_ : Int) + m = ((at_ + m : Nat) : Int) by omega] at hz5
  obtain ⟨a, ha⟩ : ∃ a, at_ + m = a := ⟨_, rfl⟩
  rw [ha] at hz5
  have hz6 : (at_ : Int) + m = a := by omega
  rw [ha]
  have hza : a ≤ src.size := by omega
  have hza2 : (a : Int) ≤ src.size := by omega
  obtain ⟨R9, hR9⟩ : ∃ R9, stepF ((bs src).drop a) = R9 := ⟨_, rfl⟩
  rw [hR9]
  have HR9 := Lib.hid hR9
  have HSC := Lib.hid h
  have HG := Lib.hid hg
  clear h hg hR9
  go_enter Tryd.func22, Tryd.ntmps22
  go_wp2_with fail
  refine wp_region_plan [(0, 0), (1, 0), (2, 0), (3, 3), (4, 0), (5, 1)] (fun w' => w'.cell? ⟨sb, 1, none⟩ = some (.int .i64 at_)) (by kernel_rfl) (by kernel_rfl) (fun _ _ d _ _ h => by cases d <;> exact h) (by first | exact c1 | exact (hb2.cell (p := ⟨sb, 1, none⟩) hb).trans c1) ?_
  simp only [planOps, List.filterMap_cons, List.filterMap_nil, List.getElem?_toArray, List.getElem?_cons_zero, List.getElem?_cons_succ, Option.map_some, List.drop_succ_cons, List.drop_zero, List.length_cons, List.length_nil]
  iterate 3 (refine plan_pure (by rfl) (fun wq => by go_simp; with_reducible rfl) ?_; simp only [Act.put, List.setIfInBounds_toArray, List.set_cons_zero, List.set_cons_succ])
  iterate 1 (refine plan_load (by rfl) (fun wq hq1 => by go_simp; with_reducible rfl) ?_; simp only [Act.put, List.setIfInBounds_toArray, List.set_cons_zero, List.set_cons_succ])
  iterate 1 (refine plan_pure (by rfl) (fun wq => by go_simp; with_reducible rfl) ?_; simp only [Act.put, List.setIfInBounds_toArray, List.set_cons_zero, List.set_cons_succ])
  refine plan_turn ?_ ?_
  · rfl
  intro K hK
  (go_wp2_with fail; refine HRUN.out.mono ?_; rintro e w1 ⟨rfl, hb2⟩; go_wp2_with fail)
  refine ⟨by first | exact c1 | exact (hb2.cell (p := ⟨sb, 1, none⟩) hb).trans c1, ?_⟩
  refine plan_done ?_
  have HSC1 := Lib.hid (HSC.out.drew.later hb2)
  have HB1 := Lib.hid (((Below.refl w.heap.size w).drew).trans hb2)
  clear hb c0 c1 hb2
  obtain ⟨hb, c0, c1⟩ := HSC1.out.reads
  have hfr := HSC1.out.free 1
  go_wp2_with fail
  have HSC2 := Lib.hid (HSC1.out.move a)
  have HB2 := Lib.hid ((HB1.out.mono hBw).setCell (p := ⟨sb, 1, none⟩) HSC1.out.base (.int .i64 a))
  generalize w1.setCell ⟨sb, 1, none⟩ (.int .i64 a) = w2 at *
  clear hb c0 c1 hfr
  obtain ⟨hb, c0, c1⟩ := HSC2.out.reads
  refine wp_region_plan [(0, 0), (1, 0), (2, 0), (3, 3), (4, 0), (5, 0), (6, 0), (7, 3)] (fun w' => w'.cell? ⟨sb, 0, none⟩ = some (.string src) ∧ w'.cell? ⟨sb, 1, none⟩ = some (.int .i64 a)) (by kernel_rfl) (by kernel_rfl) (fun _ _ d _ _ h => by cases d <;> exact h) (by refine ⟨?_, ?_⟩ <;> go_simp) ?_
  simp only [planOps, List.filterMap_cons, List.filterMap_nil, List.getElem?_toArray, List.getElem?_cons_zero, List.getElem?_cons_succ, Option.map_some, List.drop_succ_cons, List.drop_zero, List.length_cons, List.length_nil]
  iterate 3 (refine plan_pure (by rfl) (fun wq => by go_simp; with_reducible rfl) ?_; simp only [Act.put, List.setIfInBounds_toArray, List.set_cons_zero, List.set_cons_succ])
  iterate 1 (refine plan_load (by rfl) (fun wq hq => by obtain ⟨hq0, hq1⟩ := hq; go_simp; with_reducible rfl) ?_; simp only [Act.put, List.setIfInBounds_toArray, List.set_cons_zero, List.set_cons_succ])
  iterate 3 (refine plan_pure (by rfl) (fun wq => by go_simp; with_reducible rfl) ?_; simp only [Act.put, List.setIfInBounds_toArray, List.set_cons_zero, List.set_cons_succ])
  iterate 1 (refine plan_load (by rfl) (fun wq hq => by obtain ⟨hq0, hq1⟩ := hq; go_simp; with_reducible rfl) ?_; simp only [Act.put, List.setIfInBounds_toArray, List.set_cons_zero, List.set_cons_succ])
  refine plan_done ?_
  go_wp2_with fail
  have HDT := Lib.hid (Tryd.utf8_DecodeRuneInString (src.extract a src.size) w2.drew ((HG.out.below HB2.out hNB).drew).utf)
  have HTL := Lib.hid (bs_tail src a)
  generalize hL : (bs src).drop a = L at *
  generalize hsx : src.extract a src.size = sx at *
  have HL := Lib.hid hL
  clear hL hsx
  cases hLc : L with
  | nil =>
    subst hLc
    have he : sx.toList.isEmpty = true := by
      rw [Lib.toList_data]
      show (bs sx).isEmpty = true
      rw [HTL.out]; rfl
    refine HDT.out.mono ?_
    rintro e w3 ⟨rfl, hb3⟩
    have HB3 := Lib.hid (HB2.out.drew.trans (hb3.mono (by have := HB2.out.size; simp; omega)))
    have HSC3 := Lib.hid (HSC2.out.drew.later hb3)
    clear hb3 hb c0 c1
    go_wp2_with fail
    go_ret
    rw [← HR9.out]
    exact ⟨rfl, HSC3.out, HB3.out⟩
  | cons c t =>
    have hne : ¬ (c :: t = ([] : Bs)) := by simp
    rw [hLc] at HL HTL HR9
    have HDG := Lib.hid (decodeGo_eq sx (by rw [HTL.out]; simp))
    rw [HTL.out] at HDG
    have hrle := decL_le (c :: t)
    generalize hr : (decL (c :: t)).1 = r at *
    have HDEC := Lib.hid hr
    clear hr hLc
    have he := nonempty_of sx c t HTL.out
    have HDT2 := HDT.out
    rw [show (Lib.decodeGo sx).1 = r by rw [HDG.out]; exact HDEC.out] at HDT2
    refine HDT2.mono ?_
    rintro e w3 ⟨rfl, hb3⟩
    have HB3 := Lib.hid (HB2.out.drew.trans (hb3.mono (by have := HB2.out.size; simp; omega)))
    have HSC3 := Lib.hid (HSC2.out.drew.later hb3)
    have hw3 : B ≤ w3.heap.size := by have := HB3.out.size; omega
    have HG3 := Lib.hid (HG.out.below HB3.out hNB)
    clear hb3 hb c0 c1 HDT HDT2 HDG
    obtain ⟨hb, c0, c1⟩ := HSC3.out.reads
    have HPX := Lib.hid (prefix_any sx [45, 45])
    rw [HTL.out] at HPX
    by_cases hpre : ([45, 45] : Bs).isPrefixOf (c :: t) = true
    · rw [hpre] at HPX
      have HPRE := Lib.hid hpre
      clear hpre
      go_wp2_with fail
      refine (HPX.out w3).mono ?_
      rintro e w' ⟨rfl, rfl⟩
      have hn := runL_le' inLineR ((bs src).drop a)
      rw [List.length_drop, bs_length, HL.out] at hn
      have HRL := Lib.hid (run_any 42 inLineR sb a src w3.drew sort_inLine hb c0 c1 hza (by omega))
      rw [HL.out] at HRL
      obtain ⟨n, hn2⟩ : ∃ n, runL inLineR (c :: t) = n := ⟨_, rfl⟩
      rw [hn2] at hn HRL
      have HRN := Lib.hid hn2
      clear hn2
      have hzn := wrap_in ((a : Int) + n) (by omega) (by omega)
      rw [show (a : Int) + n = ((a + n : Nat) : Int) by omega] at hzn
      obtain ⟨an, han⟩ : ∃ an, a + n = an := ⟨_, rfl⟩
      rw [han] at hzn
      have hzn2 : (a : Int) + n = an := by omega
      go_wp2_with fail
      refine wp_region_plan [(0, 0), (1, 0), (2, 0), (3, 3), (4, 0), (5, 1)] (fun w' => w'.cell? ⟨sb, 1, none⟩ = some (.int .i64 a)) (by kernel_rfl) (by kernel_rfl) (fun _ _ d _ _ h => by cases d <;> exact h) (by first | exact c1 | exact (hb4.cell (p := ⟨sb, 1, none⟩) hb).trans c1) ?_
      simp only [planOps, List.filterMap_cons, List.filterMap_nil, List.getElem?_toArray, List.getElem?_cons_zero, List.getElem?_cons_succ, Option.map_some, List.drop_succ_cons, List.drop_zero, List.length_cons, List.length_nil]
      iterate 3 (refine plan_pure (by rfl) (fun wq => by go_simp; with_reducible rfl) ?_; simp only [Act.put, List.setIfInBounds_toArray, List.set_cons_zero, List.set_cons_succ])
      iterate 1 (refine plan_load (by rfl) (fun wq hq1 => by go_simp; with_reducible rfl) ?_; simp only [Act.put, List.setIfInBounds_toArray, List.set_cons_zero, List.set_cons_succ])
      iterate 1 (refine plan_pure (by rfl) (fun wq => by go_simp; with_reducible rfl) ?_; simp only [Act.put, List.setIfInBounds_toArray, List.set_cons_zero, List.set_cons_succ])
      refine plan_turn ?_ ?_
      · rfl
      intro K hK
      (go_wp2_with fail; refine HRL.out.mono ?_; rintro e w4 ⟨rfl, hb4⟩; go_wp2_with fail)
      refine ⟨by first | exact c1 | exact (hb4.cell (p := ⟨sb, 1, none⟩) hb).trans c1, ?_⟩
      refine plan_done ?_
      have HSC4 := Lib.hid (HSC3.out.drew.later hb4)
      have HB4 := Lib.hid (HB3.out.drew.trans (hb4.mono hw3))
      clear hb c0 c1 hb4
      obtain ⟨hb, c0, c1⟩ := HSC4.out.reads
      have hfr := HSC4.out.free 1
      go_wp2_with fail
      go_ret
      have hgg := HR9.out
      unfold stepF at hgg
      rw [HDEC.out, if_neg hne, if_pos HPRE.out, HRN.out] at hgg
      rw [← hgg]
      refine ⟨rfl, ?_, HB4.out.setCell (p := ⟨sb, 1, none⟩) HSC4.out.base (.int .i64 an)⟩
      rw [han]
      exact HSC4.out.move an
    · have hpre' : ([45, 45] : Bs).isPrefixOf (c :: t) = false := Bool.eq_false_iff.2 hpre
      rw [hpre'] at HPX
      have HPRE := Lib.hid hpre
      clear hpre hpre'
      go_wp2_with fail
      refine (HPX.out w3).mono ?_
      rintro e w' ⟨rfl, rfl⟩
      cases hlet : letterR r with
      | true =>
        have HLET := Lib.hid hlet
        have HLC := Lib.hid (sort_letter.2 r w3 hrle)
        rw [hlet] at HLC
        clear hlet
        go_wp2_with fail
        refine HLC.out.mono ?_
        rintro e w' ⟨rfl, rfl⟩
        have HNM := Lib.hid (name_any B sb a src l w3 HSC3.out HG3.out hza hs hll hw3)
        rw [HL.out] at HNM
        by_cases h40 : runL partR (c :: t) > 40
        · have HNM2 := Lib.hid (HNM.out.mono fun e w' h => (by unfold NameEnd at h; rw [if_pos h40] at h; exact h : e = failEnd 14 a ∧ Below B w3 w'))
          go_wp2_with fail
          refine HNM2.out.mono ?_
          rintro e w4 ⟨rfl, hb4⟩
          go_wp2_with fail
          refine ⟨rfl, ?_⟩
          have hgg := HR9.out
          unfold stepF at hgg
          rw [HDEC.out, if_neg hne, if_neg HPRE.out, if_pos HLET.out] at hgg
          dsimp only at hgg
          rw [if_pos h40] at hgg
          rw [← hgg]
          exact ⟨rfl, HB3.out.trans hb4⟩
        · have HNM2 := Lib.hid (HNM.out.mono fun e w' h => (by unfold NameEnd at h; rw [if_neg h40] at h; exact h : e = .returned (.tuple #[]) ∧ Sc B sb src (a + runL partR (c :: t)) (l ++ [⟨if isWordF ((c :: t).take (runL partR (c :: t))) then 2 else 1, (c :: t).take (runL partR (c :: t)), 0, a⟩]) w' ∧ Below B w3 w'))
          go_wp2_with fail
          refine HNM2.out.mono ?_
          rintro e w4 ⟨rfl, hsc4, hb4⟩
          go_wp2_with fail
          go_ret
          have hgg := HR9.out
          unfold stepF at hgg
          rw [HDEC.out, if_neg hne, if_neg HPRE.out, if_pos HLET.out] at hgg
          dsimp only at hgg
          rw [if_neg h40] at hgg
          rw [← hgg]
          exact ⟨rfl, hsc4, HB3.out.trans hb4⟩
      | false =>
        have HLET := Lib.hid (show ¬ letterR r = true by rw [hlet]; simp)
        have HLC := Lib.hid (sort_letter.2 r w3 hrle)
        rw [hlet] at HLC
        clear hlet
        go_wp2_with fail
        refine HLC.out.mono ?_
        rintro e w' ⟨rfl, rfl⟩
        cases hdig : digitR r with
        | true =>
          have HDIG := Lib.hid hdig
          have HDC := Lib.hid (sort_digit.2 r w3 hrle)
          rw [hdig] at HDC
          clear hdig
          go_wp2_with fail
          refine HDC.out.mono ?_
          rintro e w' ⟨rfl, rfl⟩
          have HNM := Lib.hid (number_any B sb a src l w3 HSC3.out hza hs hll hw3)
          rw [HL.out] at HNM
          by_cases h40 : (parseF ((c :: t).take (runL partR (c :: t)))).2 ≠ 0
          · have HNM2 := Lib.hid (HNM.out.mono fun e w' h => (by unfold NumEnd at h; rw [if_pos h40] at h; exact h : e = failEnd (parseF ((c :: t).take (runL partR (c :: t)))).2 a ∧ Below B w3 w'))
            go_wp2_with fail
            refine HNM2.out.mono ?_
            rintro e w4 ⟨rfl, hb4⟩
            go_wp2_with fail
            refine ⟨rfl, ?_⟩
            have hgg := HR9.out
            unfold stepF at hgg
            rw [HDEC.out, if_neg hne, if_neg HPRE.out, if_neg HLET.out, if_pos HDIG.out] at hgg
            dsimp only at hgg
            rw [if_pos h40] at hgg
            rw [← hgg]
            exact ⟨rfl, HB3.out.trans hb4⟩
          · have HNM2 := Lib.hid (HNM.out.mono fun e w' h => (by unfold NumEnd at h; rw [if_neg h40] at h; exact h : e = .returned (.tuple #[]) ∧ Sc B sb src (a + runL partR (c :: t)) (l ++ [⟨3, (c :: t).take (runL partR (c :: t)), (parseF ((c :: t).take (runL partR (c :: t)))).1, a⟩]) w' ∧ Below B w3 w'))
            go_wp2_with fail
            refine HNM2.out.mono ?_
            rintro e w4 ⟨rfl, hsc4, hb4⟩
            go_wp2_with fail
            go_ret
            have hgg := HR9.out
            unfold stepF at hgg
            rw [HDEC.out, if_neg hne, if_neg HPRE.out, if_neg HLET.out, if_pos HDIG.out] at hgg
            dsimp only at hgg
            rw [if_neg h40] at hgg
            rw [← hgg]
            exact ⟨rfl, hsc4, HB3.out.trans hb4⟩
        | false =>
          have HDIG := Lib.hid (show ¬ digitR r = true by rw [hdig]; simp)
          have HDC := Lib.hid (sort_digit.2 r w3 hrle)
          rw [hdig] at HDC
          clear hdig
          go_wp2_with fail
          refine HDC.out.mono ?_
          rintro e w' ⟨rfl, rfl⟩
          by_cases hq : r = 34 ∨ r = 39
          · have hc : (c :: t).getD 0 0 = c := rfl
            have hcr : c.toNat = r := by
              have := decL_ascii (c :: t) (by rw [HDEC.out]; omega)
              rw [HDEC.out] at this
              exact this
            have HQ := Lib.hid hq
            have hwr : IntKind.u8.wrap (r : Int) = c.toNat := by
              rw [hcr]
              rcases HQ.out with h | h <;> rw [h] <;> rfl
            have hcu : UInt8.ofNat r = c := by rw [← hcr]; simp
            have hlen5 : src.size ≤ 100000 := hs
            have HTX := Lib.hid (text_any B sb a src l c t w3 HSC3.out HL.out hs hll hw3)
            have HCU := Lib.hid hcu
            clear hcu hcr hc
            generalize htx : textG c (c :: t).length t [] 1 = TX at *
            have HTE := Lib.hid htx
            clear htx
            have key : ∀ e w', TextEnd TX B sb a src l w3 e w' → True := fun _ _ _ => trivial
            have hgg := HR9.out
            unfold stepF at hgg
            rw [HDEC.out, if_neg hne, if_neg HPRE.out, if_neg HLET.out, if_neg HDIG.out, if_pos HQ.out, HCU.out] at hgg
            rw [List.tail_cons, HTE.out] at hgg
            have HGG := Lib.hid hgg
            clear hgg key
            rcases hq with hq | hq
            · have hq1 : ((r : Int) == 34) = true := by rw [beq_iff_eq]; omega
              clear hq
              go_wp2_with fail
              refine HTX.out.mono ?_
              cases TX with
              | bad ec er =>
                rintro e w4 ⟨rfl, hb4⟩
                go_wp2_with fail
                refine ⟨rfl, ?_⟩
                rw [← HGG.out]
                exact ⟨rfl, HB3.out.trans hb4⟩
              | ok ev en =>
                rintro e w4 ⟨rfl, hsc4, hb4⟩
                go_wp2_with fail
                go_ret
                rw [← HGG.out]
                exact ⟨rfl, hsc4, HB3.out.trans hb4⟩
            · have hq1 : ((r : Int) == 34) = false := by rw [beq_eq_false_iff_ne]; omega
              have hq2 : ((r : Int) == 39) = true := by rw [beq_iff_eq]; omega
              clear hq
              go_wp2_with fail
              refine HTX.out.mono ?_
              cases TX with
              | bad ec er =>
                rintro e w4 ⟨rfl, hb4⟩
                go_wp2_with fail
                refine ⟨rfl, ?_⟩
                rw [← HGG.out]
                exact ⟨rfl, HB3.out.trans hb4⟩
              | ok ev en =>
                rintro e w4 ⟨rfl, hsc4, hb4⟩
                go_wp2_with fail
                go_ret
                rw [← HGG.out]
                exact ⟨rfl, hsc4, HB3.out.trans hb4⟩
          · have hq1 : ((r : Int) == 34) = false := by rw [beq_eq_false_iff_ne]; omega
            have hq2 : ((r : Int) == 39) = false := by rw [beq_eq_false_iff_ne]; omega
            have HSG := Lib.hid (sign_any B sb a src l w3 HSC3.out HG3.out hza hs hll hw3)
            rw [HL.out] at HSG
            go_wp2_with fail
            refine HSG.out.mono ?_
            have HQ := Lib.hid hq
            cases hsg : signF (c :: t) with
            | none =>
              have HSGE := Lib.hid hsg
              rintro e w4 ⟨rfl, hb4⟩
              clear hsg
              go_wp2_with fail
              refine ⟨rfl, ?_⟩
              have hgg := HR9.out
              unfold stepF at hgg
              rw [HDEC.out, if_neg hne, if_neg HPRE.out, if_neg HLET.out, if_neg HDIG.out, if_neg HQ.out, HSGE.out] at hgg
              rw [← hgg]
              exact ⟨rfl, HB3.out.trans hb4⟩
            | some sg =>
              have HSGE := Lib.hid hsg
              rintro e w4 ⟨rfl, hsc4, hb4⟩
              clear hsg
              go_wp2_with fail
              go_ret
              have hgg := HR9.out
              unfold stepF at hgg
              rw [HDEC.out, if_neg hne, if_neg HPRE.out, if_neg HLET.out, if_neg HDIG.out, if_neg HQ.out, HSGE.out] at hgg
              rw [← hgg]
              exact ⟨rfl, hsc4, HB3.out.trans hb4⟩
end Go.Proofs.YtadenjlehhopmaaDoor
