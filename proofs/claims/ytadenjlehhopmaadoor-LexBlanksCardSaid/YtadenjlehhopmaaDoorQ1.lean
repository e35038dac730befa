/- LexBlanks, walked. -/
import Derived.Test.YtadenjlehhopmaaDoorQ0
import Derived.Test.YtadenjlehhopmaaDoorD2
import Derived.Test.YtadenjlehhopmaaDoorP3
namespace Go.Proofs.YtadenjlehhopmaaDoor
set_option linter.unusedSimpArgs false
set_option linter.unusedVariables false
open Go Go.RowKit Lx
/-- What the list and the fault of 'Scan' are. -/
def ScanIs (R : (Int × Int) ⊕ List Tok) (lv : Value) (c p : Int) (B : Nat) (w' : World) : Prop :=
  match R with
  | .inl (c', p') => lv = .slice none 0 0 ∧ c = c' ∧ p = p'
  | .inr l => c = 0 ∧ p = 0 ∧ w'.ownsRow B 36 4 lv l.length (tokRow l)
theorem scan_out (src : ByteArray) (w : World) (hg : Gl w) : Calls Tryd.prog 10 #[.string src] w fun e w' => ∃ lv c p, e = .returned (.tuple #[lv, .agg #[.int .i64 c, .int .i64 p]]) ∧ Below w.heap.size w w' ∧ ScanIs (scanF (bs src)) lv c p w.heap.size w' := by
  refine (scan_any src w hg).mono fun e w' h => ?_
  cases hR : scanF (bs src) with
  | inl cp =>
    obtain ⟨c, p⟩ := cp
    rw [hR] at h
    exact ⟨_, _, _, h.1, h.2, rfl, rfl, rfl⟩
  | inr l =>
    rw [hR] at h
    obtain ⟨lv, h1, h2, h3⟩ := h
    exact ⟨_, _, _, h1, h3, rfl, rfl, h2⟩
theorem scanF_ne (l : Bs) (c p : Int) (h : scanF l = .inl (c, p)) : c ≠ 0 := by
  unfold scanF at h
  split at h
  · simp only [Sum.inl.injEq, Prod.mk.injEq] at h
    omega
  · exact scan_ne l.length l 0 [] c p (Nat.le_refl _) h
def LawEnd (w : World) (e : Ending) (w' : World) : Prop := e = .returned (.bool true) ∧ Below w.heap.size w w'
set_option maxHeartbeats 20000000 in
set_option maxRecDepth 100000 in
theorem lexBlanks_any (a b : ByteArray) (k : Int) (w : World) (hg : Gl w) :
    Calls Tryd.prog 4 #[.string a, .string b, .int .i64 k] w (LawEnd w) := by
  have HF := Lib.hid (fixed_any w hg)
  have HG := Lib.hid hg
  clear hg
  go_enter Tryd.func4, Tryd.ntmps4
  go_wp2_with fail
  refine HF.out.mono ?_
  rintro e w1 ⟨rfl, hb1⟩
  have HB1 := Lib.hid hb1
  have HSA := Lib.hid (scan_out a w1 (HG.out.below hb1 HG.out.size))
  clear hb1
  go_wp2_with fail
  refine HSA.out.mono ?_
  rintro e w2 ⟨lva, ca, pa, rfl, hb2, hsa⟩
  have HB2 := Lib.hid (HB1.out.trans (hb2.mono HB1.out.size))
  have HSA2 := Lib.hid hsa
  have HSB := Lib.hid (scan_out b (w2.alloc (.cells #[.int .i64 ca, .int .i64 pa] 25)) ((HG.out.below HB2.out HG.out.size).below ((Below.refl w2.heap.size w2).alloc (Nat.le_refl _) _) (by have := HG.out.size; have := HB2.out.size; omega)))
  clear hb2 hsa
  go_wp2_with fail
  refine HSB.out.mono ?_
  rintro e w3 ⟨lvb, cb, pb, rfl, hb3, hsb⟩
  have HSB2 := Lib.hid hsb
  clear hsb
  have f0 : w3.cell? ⟨w2.heap.size, 0, none⟩ = some (.int .i64 ca) := by rw [hb3.cell (by simp)]; simp
  have f1 : w3.cell? ⟨w2.heap.size, 1, none⟩ = some (.int .i64 pa) := by rw [hb3.cell (by simp)]; simp
  have hls : w2.heap.size < w3.heap.size := by have := hb3.size; simp at this; omega
  have HB3 := Lib.hid (((HB2.out.alloc HB2.out.size (.cells #[.int .i64 ca, .int .i64 pa] 25)).trans (hb3.mono (by have := HB2.out.size; simp; omega))))
  have HB34 := Lib.hid ((((Below.refl w2.heap.size w2).alloc (Nat.le_refl _) (.cells #[.int .i64 ca, .int .i64 pa] 25))).trans (hb3.mono (by simp)))
  clear hb3 HSB HSA HF
  have hK : ∃ m : Nat, m < 4 ∧ wrap64 ((IntKind.u64.wrap k).tmod 4) = m := by
    have h0 : 0 ≤ IntKind.u64.wrap k := by unfold IntKind.wrap; simp [IntKind.bits, IntKind.signed]; omega
    refine ⟨((IntKind.u64.wrap k) % 4).toNat, by omega, ?_⟩
    rw [Int.tmod_eq_emod_of_nonneg h0]
    unfold wrap64
    omega
  obtain ⟨m, hm4, hm⟩ := hK
  have hm5 : m = 0 ∨ m = 1 ∨ m = 2 ∨ m = 3 := by omega
  rcases hm5 with rfl | rfl | rfl | rfl
  · cases hRa : scanF (bs a) with
    | inl cp =>
      obtain ⟨ca', pa'⟩ := cp
      have hsa := HSA2.out
      rw [hRa] at hsa
      obtain ⟨-, rfl, -⟩ := hsa
      have hcn := scanF_ne _ _ _ hRa
      have hcz : ¬ ca = 0 := hcn
      clear hRa hcn
      go_wp2_with fail
      go_ret
      exact ⟨rfl, HB3.out.alloc (by have := HB3.out.size; omega) _⟩
    | inr ta =>
      have hsa := HSA2.out
      rw [hRa] at hsa
      obtain ⟨rfl, rfl, hrow⟩ := hsa
      have HRA := Lib.hid hRa
      have HROW := Lib.hid hrow
      clear hRa hrow
      by_cases h9 : a.size > 9000
      · have h9z : (9000 : Int) < a.size := by omega
        go_wp2_with fail
        go_ret
        exact ⟨rfl, HB3.out.alloc (by have := HB3.out.size; omega) _⟩
      have h9z : ¬ (9000 : Int) < a.size := by omega
      by_cases h9b : b.size > 9000
      · have h9bz : (9000 : Int) < b.size := by omega
        go_wp2_with fail
        go_ret
        exact ⟨rfl, HB3.out.alloc (by have := HB3.out.size; omega) _⟩
      have h9bz : ¬ (9000 : Int) < b.size := by omega
      go_wp2_with fail
      refine (comment_any a _ (by omega)).mono ?_
      rintro e w4 ⟨bo, rfl, rfl, hcl⟩
      cases bo
      · have HCL := Lib.hid (hcl rfl)
        clear hcl
        have hG4 := (HG.out.below HB3.out HG.out.size).below ((Below.refl w3.heap.size w3).alloc (Nat.le_refl _) (.cells #[.int .i64 cb, .int .i64 pb] 25)) (by have := HG.out.size; have := HB3.out.size; omega)
        have hra := HRA.out
        rw [scanF_small _ (by rw [bs_length]; omega)] at hra
        obtain ⟨acc, hta, hz⟩ := scan_between (bs a) (bs b) 0 ta HCL.out hra
        have htx : bs (a ++ str (gapG 0) ++ b) = bs a ++ (gapG 0 ++ bs b) := by rw [bs_append, bs_append, bs_str, List.append_assoc]
        have hlenG : (gapG 0).length ≤ 8 := by decide
        have hz2 := (scanF_small (bs a ++ (gapG 0 ++ bs b)) (by simp only [List.length_append, bs_length]; omega)).trans hz
        rw [← htx] at hz2
        rw [← scanF_small (bs b) (by rw [bs_length]; omega)] at hz2
        have hsz := scan_any (a ++ str (gapG 0) ++ b) _ hG4
        cases hRb : scanF (bs b) with
        | inl cp =>
          obtain ⟨cb', pb'⟩ := cp
          have hsb := HSB2.out
          rw [hRb] at hsb
          obtain ⟨rfl, rfl, rfl⟩ := hsb
          have hcn : ¬ cb = 0 := scanF_ne _ _ _ hRb
          have hpl : 0 ≤ pb ∧ pb < b.size := by
            have := hRb
            rw [scanF_small _ (by rw [bs_length]; omega)] at this
            have := scan_place _ _ _ _ _ _ (Nat.le_refl _) this
            rw [bs_length] at this
            omega
          obtain ⟨hpl1, hpl2⟩ := hpl
          rw [hRb] at hz2
          dsimp only at hz2
          rw [hz2] at hsz
          have HSZ := Lib.hid hsz
          have hbl : (bs a).length = a.size := bs_length a
          rw [hbl] at HSZ
          obtain ⟨P, hP⟩ : ∃ P : Int, pb + ((a.size + (gapG 0).length : Nat) : Int) = P := ⟨_, rfl⟩
          rw [hP] at HSZ
          have hPe : pb + (a.size : Int) + 1 = P := by
            have : (gapG 0).length = 1 := rfl
            rw [this] at hP
            omega
          clear hP
          clear hz2 hz hsz htx hta hRb hra HCL HRA HROW hG4 hbl
          go_wp2_with fail
          refine HSZ.out.mono ?_
          rintro e w5 ⟨rfl, hb5⟩
          have g0 : w5.cell? ⟨w3.heap.size, 0, none⟩ = some (.int .i64 cb) := by rw [hb5.cell (by simp)]; simp
          have g1 : w5.cell? ⟨w3.heap.size, 1, none⟩ = some (.int .i64 pb) := by rw [hb5.cell (by simp)]; simp
          have hls5 : w3.heap.size < w5.heap.size := by have := hb5.size; simp at this; omega
          have HB5 := Lib.hid ((HB3.out.alloc (by have := HB3.out.size; omega) (.cells #[.int .i64 cb, .int .i64 pb] 25)).trans (hb5.mono (by have := HB3.out.size; simp; omega)))
          clear hb5 HSZ
          go_wp2_with fail
          go_ret
          exact ⟨rfl, HB5.out.alloc (by have := HB5.out.size; omega) _⟩
        | inr tb =>
          have hsb := HSB2.out
          rw [hRb] at hsb
          obtain ⟨rfl, rfl, hrowb⟩ := hsb
          have hcnt := hRb
          rw [scanF_small _ (by rw [bs_length]; omega)] at hcnt
          obtain ⟨hc1, hc2, hc3⟩ := scan_count _ _ _ _ _ (Nat.le_refl _) hcnt
          have hcnta := hra
          obtain ⟨ha1, ha2, -⟩ := scan_count _ _ _ _ _ (Nat.le_refl _) hcnta
          rw [bs_length] at ha2 hc2 hc3
          simp only [List.length_nil, Nat.zero_add] at ha1 ha2 hc1 hc2 hc3
          obtain ⟨gA, capA, hrA⟩ := row_of HROW.out (by rw [hta]; simp)
          obtain ⟨gB, capB, hrB⟩ := row_of hrowb (by intro h; rw [h] at hc1; simp at hc1)
          have hnta : ta.length = acc.length + 1 := by rw [hta, List.length_append]; rfl
          have hvA := hrA.val
          have hvB := hrB.val
          rw [hnta] at hvA
          subst hvA hvB
          have hneG : (gapG 0).length = 1 := rfl
          rw [hRb] at hz2
          dsimp only at hz2
          rw [hz2, bs_length, hneG] at hsz
          have HSZ := Lib.hid hsz
          have HRA4 := Lib.hid ((hrA.below HB34.out (Nat.le_refl _)).below ((Below.refl w3.heap.size w3).alloc (Nat.le_refl _) (.cells #[.int .i64 0, .int .i64 0] 25)) (Nat.le_refl _))
          have HRB4 := Lib.hid (hrB.below ((Below.refl w3.heap.size w3).alloc (Nat.le_refl _) (.cells #[.int .i64 0, .int .i64 0] 25)) (Nat.le_refl _))
          have HTA := Lib.hid hta
          have HC3 := Lib.hid hc3
          have hmA := hrA.max
          have hlA := hrA.le
          have hmB := hrB.max
          have hlB := hrB.le
          rw [hnta] at hlA
          clear hz2 hz hsz htx hRb hra HCL HRA HROW hG4 hcnt hcnta hrA hrB hrowb hneG hc3
          go_wp2_with fail
          refine HSZ.out.mono ?_
          rintro e w5 ⟨lvz, rfl, hrowz, hb5⟩
          obtain ⟨gZ, capZ, hrZ⟩ := row_of hrowz (by intro h; have := congrArg List.length h; rw [List.length_append, List.length_map] at this; simp only [List.length_nil] at this; omega)
          have hvZ := hrZ.val
          rw [List.length_append, List.length_map] at hvZ
          subst hvZ
          have g0 : w5.cell? ⟨w3.heap.size, 0, none⟩ = some (.int .i64 0) := by rw [hb5.cell (by simp)]; simp
          have g1 : w5.cell? ⟨w3.heap.size, 1, none⟩ = some (.int .i64 0) := by rw [hb5.cell (by simp)]; simp
          have hls5 : w3.heap.size < w5.heap.size := by have := hb5.size; simp at this; omega
          have HB5 := Lib.hid ((HB3.out.alloc (by have := HB3.out.size; omega) (.cells #[.int .i64 0, .int .i64 0] 25)).trans (hb5.mono (by have := HB3.out.size; simp; omega)))
          have HRA5 := Lib.hid ((HRA4.out.below hb5 (Nat.le_refl _)).below ((Below.refl w5.heap.size w5).alloc (Nat.le_refl _) (.cells #[.int .i64 0, .int .i64 0] 25)) (Nat.le_refl _))
          have HRB5 := Lib.hid ((HRB4.out.below hb5 (Nat.le_refl _)).below ((Below.refl w5.heap.size w5).alloc (Nat.le_refl _) (.cells #[.int .i64 0, .int .i64 0] 25)) (Nat.le_refl _))
          have HRZ5 := Lib.hid (hrZ.below ((Below.refl w5.heap.size w5).alloc (Nat.le_refl _) (.cells #[.int .i64 0, .int .i64 0] 25)) (Nat.le_refl _))
          have hmZ := hrZ.max
          have hlZ := hrZ.le
          rw [List.length_append, List.length_map] at hlZ
          clear hb5 HSZ HRA4 HRB4 hrowz hrZ
          have hnb : ¬ tb.length = 0 := by omega
          have hnbz : ((tb.length : Int) == 0) = false := by rw [beq_eq_false_iff_ne]; omega
          have hnaz : ((acc.length : Int) + 1 == 0) = false := by rw [beq_eq_false_iff_ne]; omega
          have hwz : IntKind.i64.wrap ((acc.length : Int) + tb.length) = (acc.length : Int) + tb.length := wrap_in _ (by omega) (by omega)
          go_wp2_with fail
          have HB6 := Lib.hid (HB5.out.alloc (by have := HB5.out.size; omega) (.cells #[.int .i64 0, .int .i64 0] 25))
          generalize w5.alloc (.cells #[.int .i64 0, .int .i64 0] 25) = w6 at *
          clear g0 g1 f0 f1 hls hls5 hwz
          go_loopw [14] (fun v14 wr => ∃ i : Nat, i ≤ acc.length + tb.length ∧ v14 = .int .i64 i ∧ Hid (Below w6.heap.size w6 wr)) (fun v14 _ => acc.length + tb.length - (intOf v14).toNat)
          case atStart => exact ⟨0, by omega, by go_num, Below.refl _ _⟩
          case round =>
            obtain ⟨i, hi, rfl, HBL⟩ := hrel
            have hrz := HRZ5.out.below HBL.out (Nat.le_refl _)
            have hltz := hrz.lt
            by_cases hlt : i < acc.length + tb.length
            · have hltI : (i : Int) < (acc.length : Int) + tb.length := by omega
              by_cases hia : i < acc.length
              · have hiaI : (i : Int) < acc.length := by omega
                have hra := HRA5.out.below HBL.out (Nat.le_refl _)
                have hlta := hra.lt
                obtain ⟨t, ht⟩ : ∃ t, acc[i]? = some t := ⟨_, List.getElem?_eq_getElem hia⟩
                obtain ⟨a0, a1, a2, a3⟩ := hra.cell i t (by rw [HTA.out, List.getElem?_append_left hia]; exact ht)
                obtain ⟨z0, z1, z2, z3⟩ := hrz.cell i t (by rw [List.getElem?_append_left hia]; exact ht)
                have hbox : ∀ k : Nat, True := fun _ => trivial
                have hne1 : ¬ gZ = wr.heap.size := by omega
                have hne2 : ¬ gA = wr.heap.size := by omega
                have hne3 : ¬ wr.heap.size = gZ := by omega
                have hne4 : ¬ wr.heap.size = gA := by omega
                have HT := Lib.hid ht
                clear hra hrz ht hbox
                go_wp2_with fail
                refine wp_region_plan [(0, 0), (1, 0), (2, 0), (3, 3), (4, 3)] (fun w' => w'.cell? ⟨gZ, i * 4, none⟩ = some (.int .i64 t.kind) ∧ w'.cell? ⟨gZ, i * 4 + 1, none⟩ = some (.string (str t.text)) ∧ w'.cell? ⟨gZ, i * 4 + 2, none⟩ = some (.int .i64 t.n) ∧ w'.cell? ⟨gZ, i * 4 + 3, none⟩ = some (.int .i64 t.at_) ∧ w'.cell? ⟨wr.heap.size, 0, none⟩ = some (.int .i64 t.kind) ∧ w'.cell? ⟨wr.heap.size, 1, none⟩ = some (.string (str t.text)) ∧ w'.cell? ⟨wr.heap.size, 2, none⟩ = some (.int .i64 t.n) ∧ w'.cell? ⟨wr.heap.size, 3, none⟩ = some (.int .i64 t.at_)) (by kernel_rfl) (by kernel_rfl) (fun _ _ d _ _ h => by cases d <;> exact h) (by refine ⟨?_, ?_, ?_, ?_, ?_, ?_, ?_, ?_⟩ <;> go_simp) ?_
                simp only [planOps, List.filterMap_cons, List.filterMap_nil, List.getElem?_toArray, List.getElem?_cons_zero, List.getElem?_cons_succ, Option.map_some, List.drop_succ_cons, List.drop_zero, List.length_cons, List.length_nil]
                iterate 3 (refine plan_pure (by rfl) (fun wq => by go_simp; with_reducible rfl) ?_; simp only [Act.put, List.setIfInBounds_toArray, List.set_cons_zero, List.set_cons_succ])
                iterate 2 (refine plan_load (by rfl) (fun wq hq => by obtain ⟨q0, q1, q2, q3, q4, q5, q6, q7⟩ := hq; go_simp; with_reducible rfl) ?_; simp only [Act.put, List.setIfInBounds_toArray, List.set_cons_zero, List.set_cons_succ])
                refine plan_done ?_
                go_wp2_with fail
                go_roundw
                case rel => exact ⟨i + 1, by omega, by go_num, (HBL.out.alloc HBL.out.size _).drew⟩
                case measure => simp [intOf]; omega
              · obtain ⟨j, rfl⟩ : ∃ j, i = acc.length + j := ⟨i - acc.length, by omega⟩
                have hjb : j < tb.length := by omega
                have hjI : (j : Int) < tb.length := by omega
                have hrb := HRB5.out.below HBL.out (Nat.le_refl _)
                have hltb := hrb.lt
                obtain ⟨t, ht⟩ : ∃ t, tb[j]? = some t := ⟨_, List.getElem?_eq_getElem hjb⟩
                have hat := HC3.out t (List.mem_of_getElem? ht)
                have hat2 : (t.at_ : Int) ≤ 9000 := by
                  rcases hat with hat | hat
                  · cases hat
                  · omega
                obtain ⟨b0, b1, b2, b3⟩ := hrb.cell j t ht
                obtain ⟨y0, y1, y2, y3⟩ := hrz.cell (acc.length + j) (shift (a.size + 1) t) (by rw [List.getElem?_append_right (by omega), Nat.add_sub_cancel_left, List.getElem?_map, ht]; rfl)
                have z3 : wr.cell? ⟨gZ, (acc.length + j) * 4 + 3, none⟩ = some (.int .i64 ((t.at_ : Int) + ((a.size : Int) + 1))) := by
                  rw [y3]
                  simp [shift]
                have z0 : wr.cell? ⟨gZ, (acc.length + j) * 4, none⟩ = some (.int .i64 t.kind) := y0
                have z1 : wr.cell? ⟨gZ, (acc.length + j) * 4 + 1, none⟩ = some (.string (str t.text)) := y1
                have z2 : wr.cell? ⟨gZ, (acc.length + j) * 4 + 2, none⟩ = some (.int .i64 t.n) := y2
                have hne1 : ¬ gZ = wr.heap.size := by omega
                have hne2 : ¬ gB = wr.heap.size := by omega
                have hne3 : ¬ wr.heap.size = gZ := by omega
                have hne4 : ¬ wr.heap.size = gB := by omega
                have hj0 : (0 : Int) ≤ (acc.length : Int) + j := by omega
                have hj1 : ((acc.length : Int) + j).toNat = acc.length + j := by omega
                have hjw : (acc.length : Int) + j - (acc.length + 1) + 1 = j := by omega
                clear hrb hrz ht hat y0 y1 y2 y3
                go_wp2_with fail
                refine wp_region_plan [(0, 0), (1, 0), (2, 0), (3, 3), (4, 3)] (fun w' => w'.cell? ⟨gZ, (acc.length + j) * 4, none⟩ = some (.int .i64 t.kind) ∧ w'.cell? ⟨gZ, (acc.length + j) * 4 + 1, none⟩ = some (.string (str t.text)) ∧ w'.cell? ⟨gZ, (acc.length + j) * 4 + 2, none⟩ = some (.int .i64 t.n) ∧ w'.cell? ⟨gZ, (acc.length + j) * 4 + 3, none⟩ = some (.int .i64 ((t.at_ : Int) + ((a.size : Int) + 1))) ∧ w'.cell? ⟨wr.heap.size, 0, none⟩ = some (.int .i64 t.kind) ∧ w'.cell? ⟨wr.heap.size, 1, none⟩ = some (.string (str t.text)) ∧ w'.cell? ⟨wr.heap.size, 2, none⟩ = some (.int .i64 t.n) ∧ w'.cell? ⟨wr.heap.size, 3, none⟩ = some (.int .i64 ((t.at_ : Int) + ((a.size : Int) + 1)))) (by kernel_rfl) (by kernel_rfl) (fun _ _ d _ _ h => by cases d <;> exact h) (by refine ⟨?_, ?_, ?_, ?_, ?_, ?_, ?_, ?_⟩ <;> go_simp) ?_
                simp only [planOps, List.filterMap_cons, List.filterMap_nil, List.getElem?_toArray, List.getElem?_cons_zero, List.getElem?_cons_succ, Option.map_some, List.drop_succ_cons, List.drop_zero, List.length_cons, List.length_nil]
                iterate 3 (refine plan_pure (by rfl) (fun wq => by go_simp; with_reducible rfl) ?_; simp only [Act.put, List.setIfInBounds_toArray, List.set_cons_zero, List.set_cons_succ])
                iterate 2 (refine plan_load (by rfl) (fun wq hq => by obtain ⟨q0, q1, q2, q3, q4, q5, q6, q7⟩ := hq; go_simp; with_reducible rfl) ?_; simp only [Act.put, List.setIfInBounds_toArray, List.set_cons_zero, List.set_cons_succ])
                refine plan_done ?_
                go_wp2_with fail
                go_roundw
                case rel => exact ⟨acc.length + j + 1, by omega, by go_num, (HBL.out.alloc HBL.out.size _).drew⟩
                case measure => simp [intOf]; omega
            · have hltI : ¬ (i : Int) < (acc.length : Int) + tb.length := by omega
              clear hrz
              go_wp2_with fail
              go_ret
              exact ⟨rfl, HB6.out.trans (HBL.out.mono HB6.out.size)⟩
      · clear hcl
        go_wp2_with fail
        go_ret
        exact ⟨rfl, HB3.out.alloc (by have := HB3.out.size; omega) _⟩
  · cases hRa : scanF (bs a) with
    | inl cp =>
      obtain ⟨ca', pa'⟩ := cp
      have hsa := HSA2.out
      rw [hRa] at hsa
      obtain ⟨-, rfl, -⟩ := hsa
      have hcn := scanF_ne _ _ _ hRa
      have hcz : ¬ ca = 0 := hcn
      clear hRa hcn
      go_wp2_with fail
      go_ret
      exact ⟨rfl, HB3.out.alloc (by have := HB3.out.size; omega) _⟩
    | inr ta =>
      have hsa := HSA2.out
      rw [hRa] at hsa
      obtain ⟨rfl, rfl, hrow⟩ := hsa
      have HRA := Lib.hid hRa
      have HROW := Lib.hid hrow
      clear hRa hrow
      by_cases h9 : a.size > 9000
      · have h9z : (9000 : Int) < a.size := by omega
        go_wp2_with fail
        go_ret
        exact ⟨rfl, HB3.out.alloc (by have := HB3.out.size; omega) _⟩
      have h9z : ¬ (9000 : Int) < a.size := by omega
      by_cases h9b : b.size > 9000
      · have h9bz : (9000 : Int) < b.size := by omega
        go_wp2_with fail
        go_ret
        exact ⟨rfl, HB3.out.alloc (by have := HB3.out.size; omega) _⟩
      have h9bz : ¬ (9000 : Int) < b.size := by omega
      go_wp2_with fail
      refine (comment_any a _ (by omega)).mono ?_
      rintro e w4 ⟨bo, rfl, rfl, hcl⟩
      cases bo
      · have HCL := Lib.hid (hcl rfl)
        clear hcl
        have hG4 := (HG.out.below HB3.out HG.out.size).below ((Below.refl w3.heap.size w3).alloc (Nat.le_refl _) (.cells #[.int .i64 cb, .int .i64 pb] 25)) (by have := HG.out.size; have := HB3.out.size; omega)
        have hra := HRA.out
        rw [scanF_small _ (by rw [bs_length]; omega)] at hra
        obtain ⟨acc, hta, hz⟩ := scan_between (bs a) (bs b) 1 ta HCL.out hra
        have htx : bs (a ++ str (gapG 1) ++ b) = bs a ++ (gapG 1 ++ bs b) := by rw [bs_append, bs_append, bs_str, List.append_assoc]
        have hlenG : (gapG 1).length ≤ 8 := by decide
        have hz2 := (scanF_small (bs a ++ (gapG 1 ++ bs b)) (by simp only [List.length_append, bs_length]; omega)).trans hz
        rw [← htx] at hz2
        rw [← scanF_small (bs b) (by rw [bs_length]; omega)] at hz2
        have hsz := scan_any (a ++ str (gapG 1) ++ b) _ hG4
        cases hRb : scanF (bs b) with
        | inl cp =>
          obtain ⟨cb', pb'⟩ := cp
          have hsb := HSB2.out
          rw [hRb] at hsb
          obtain ⟨rfl, rfl, rfl⟩ := hsb
          have hcn : ¬ cb = 0 := scanF_ne _ _ _ hRb
          have hpl : 0 ≤ pb ∧ pb < b.size := by
            have := hRb
            rw [scanF_small _ (by rw [bs_length]; omega)] at this
            have := scan_place _ _ _ _ _ _ (Nat.le_refl _) this
            rw [bs_length] at this
            omega
          obtain ⟨hpl1, hpl2⟩ := hpl
          rw [hRb] at hz2
          dsimp only at hz2
          rw [hz2] at hsz
          have HSZ := Lib.hid hsz
          have hbl : (bs a).length = a.size := bs_length a
          rw [hbl] at HSZ
          obtain ⟨P, hP⟩ : ∃ P : Int, pb + ((a.size + (gapG 1).length : Nat) : Int) = P := ⟨_, rfl⟩
          rw [hP] at HSZ
          have hPe : pb + (a.size : Int) + 4 = P := by
            have : (gapG 1).length = 4 := rfl
            rw [this] at hP
            omega
          clear hP
          clear hz2 hz hsz htx hta hRb hra HCL HRA HROW hG4 hbl
          go_wp2_with fail
          refine HSZ.out.mono ?_
          rintro e w5 ⟨rfl, hb5⟩
          have g0 : w5.cell? ⟨w3.heap.size, 0, none⟩ = some (.int .i64 cb) := by rw [hb5.cell (by simp)]; simp
          have g1 : w5.cell? ⟨w3.heap.size, 1, none⟩ = some (.int .i64 pb) := by rw [hb5.cell (by simp)]; simp
          have hls5 : w3.heap.size < w5.heap.size := by have := hb5.size; simp at this; omega
          have HB5 := Lib.hid ((HB3.out.alloc (by have := HB3.out.size; omega) (.cells #[.int .i64 cb, .int .i64 pb] 25)).trans (hb5.mono (by have := HB3.out.size; simp; omega)))
          clear hb5 HSZ
          go_wp2_with fail
          go_ret
          exact ⟨rfl, HB5.out.alloc (by have := HB5.out.size; omega) _⟩
        | inr tb =>
          have hsb := HSB2.out
          rw [hRb] at hsb
          obtain ⟨rfl, rfl, hrowb⟩ := hsb
          have hcnt := hRb
          rw [scanF_small _ (by rw [bs_length]; omega)] at hcnt
          obtain ⟨hc1, hc2, hc3⟩ := scan_count _ _ _ _ _ (Nat.le_refl _) hcnt
          have hcnta := hra
          obtain ⟨ha1, ha2, -⟩ := scan_count _ _ _ _ _ (Nat.le_refl _) hcnta
          rw [bs_length] at ha2 hc2 hc3
          simp only [List.length_nil, Nat.zero_add] at ha1 ha2 hc1 hc2 hc3
          obtain ⟨gA, capA, hrA⟩ := row_of HROW.out (by rw [hta]; simp)
          obtain ⟨gB, capB, hrB⟩ := row_of hrowb (by intro h; rw [h] at hc1; simp at hc1)
          have hnta : ta.length = acc.length + 1 := by rw [hta, List.length_append]; rfl
          have hvA := hrA.val
          have hvB := hrB.val
          rw [hnta] at hvA
          subst hvA hvB
          have hneG : (gapG 1).length = 4 := rfl
          rw [hRb] at hz2
          dsimp only at hz2
          rw [hz2, bs_length, hneG] at hsz
          have HSZ := Lib.hid hsz
          have HRA4 := Lib.hid ((hrA.below HB34.out (Nat.le_refl _)).below ((Below.refl w3.heap.size w3).alloc (Nat.le_refl _) (.cells #[.int .i64 0, .int .i64 0] 25)) (Nat.le_refl _))
          have HRB4 := Lib.hid (hrB.below ((Below.refl w3.heap.size w3).alloc (Nat.le_refl _) (.cells #[.int .i64 0, .int .i64 0] 25)) (Nat.le_refl _))
          have HTA := Lib.hid hta
          have HC3 := Lib.hid hc3
          have hmA := hrA.max
          have hlA := hrA.le
          have hmB := hrB.max
          have hlB := hrB.le
          rw [hnta] at hlA
          clear hz2 hz hsz htx hRb hra HCL HRA HROW hG4 hcnt hcnta hrA hrB hrowb hneG hc3
          go_wp2_with fail
          refine HSZ.out.mono ?_
          rintro e w5 ⟨lvz, rfl, hrowz, hb5⟩
          obtain ⟨gZ, capZ, hrZ⟩ := row_of hrowz (by intro h; have := congrArg List.length h; rw [List.length_append, List.length_map] at this; simp only [List.length_nil] at this; omega)
          have hvZ := hrZ.val
          rw [List.length_append, List.length_map] at hvZ
          subst hvZ
          have g0 : w5.cell? ⟨w3.heap.size, 0, none⟩ = some (.int .i64 0) := by rw [hb5.cell (by simp)]; simp
          have g1 : w5.cell? ⟨w3.heap.size, 1, none⟩ = some (.int .i64 0) := by rw [hb5.cell (by simp)]; simp
          have hls5 : w3.heap.size < w5.heap.size := by have := hb5.size; simp at this; omega
          have HB5 := Lib.hid ((HB3.out.alloc (by have := HB3.out.size; omega) (.cells #[.int .i64 0, .int .i64 0] 25)).trans (hb5.mono (by have := HB3.out.size; simp; omega)))
          have HRA5 := Lib.hid ((HRA4.out.below hb5 (Nat.le_refl _)).below ((Below.refl w5.heap.size w5).alloc (Nat.le_refl _) (.cells #[.int .i64 0, .int .i64 0] 25)) (Nat.le_refl _))
          have HRB5 := Lib.hid ((HRB4.out.below hb5 (Nat.le_refl _)).below ((Below.refl w5.heap.size w5).alloc (Nat.le_refl _) (.cells #[.int .i64 0, .int .i64 0] 25)) (Nat.le_refl _))
          have HRZ5 := Lib.hid (hrZ.below ((Below.refl w5.heap.size w5).alloc (Nat.le_refl _) (.cells #[.int .i64 0, .int .i64 0] 25)) (Nat.le_refl _))
          have hmZ := hrZ.max
          have hlZ := hrZ.le
          rw [List.length_append, List.length_map] at hlZ
          clear hb5 HSZ HRA4 HRB4 hrowz hrZ
          have hnb : ¬ tb.length = 0 := by omega
          have hnbz : ((tb.length : Int) == 0) = false := by rw [beq_eq_false_iff_ne]; omega
          have hnaz : ((acc.length : Int) + 1 == 0) = false := by rw [beq_eq_false_iff_ne]; omega
          have hwz : IntKind.i64.wrap ((acc.length : Int) + tb.length) = (acc.length : Int) + tb.length := wrap_in _ (by omega) (by omega)
          go_wp2_with fail
          have HB6 := Lib.hid (HB5.out.alloc (by have := HB5.out.size; omega) (.cells #[.int .i64 0, .int .i64 0] 25))
          generalize w5.alloc (.cells #[.int .i64 0, .int .i64 0] 25) = w6 at *
          clear g0 g1 f0 f1 hls hls5 hwz
          go_loopw [14] (fun v14 wr => ∃ i : Nat, i ≤ acc.length + tb.length ∧ v14 = .int .i64 i ∧ Hid (Below w6.heap.size w6 wr)) (fun v14 _ => acc.length + tb.length - (intOf v14).toNat)
          case atStart => exact ⟨0, by omega, by go_num, Below.refl _ _⟩
          case round =>
            obtain ⟨i, hi, rfl, HBL⟩ := hrel
            have hrz := HRZ5.out.below HBL.out (Nat.le_refl _)
            have hltz := hrz.lt
            by_cases hlt : i < acc.length + tb.length
            · have hltI : (i : Int) < (acc.length : Int) + tb.length := by omega
              by_cases hia : i < acc.length
              · have hiaI : (i : Int) < acc.length := by omega
                have hra := HRA5.out.below HBL.out (Nat.le_refl _)
                have hlta := hra.lt
                obtain ⟨t, ht⟩ : ∃ t, acc[i]? = some t := ⟨_, List.getElem?_eq_getElem hia⟩
                obtain ⟨a0, a1, a2, a3⟩ := hra.cell i t (by rw [HTA.out, List.getElem?_append_left hia]; exact ht)
                obtain ⟨z0, z1, z2, z3⟩ := hrz.cell i t (by rw [List.getElem?_append_left hia]; exact ht)
                have hbox : ∀ k : Nat, True := fun _ => trivial
                have hne1 : ¬ gZ = wr.heap.size := by omega
                have hne2 : ¬ gA = wr.heap.size := by omega
                have hne3 : ¬ wr.heap.size = gZ := by omega
                have hne4 : ¬ wr.heap.size = gA := by omega
                have HT := Lib.hid ht
                clear hra hrz ht hbox
                go_wp2_with fail
                refine wp_region_plan [(0, 0), (1, 0), (2, 0), (3, 3), (4, 3)] (fun w' => w'.cell? ⟨gZ, i * 4, none⟩ = some (.int .i64 t.kind) ∧ w'.cell? ⟨gZ, i * 4 + 1, none⟩ = some (.string (str t.text)) ∧ w'.cell? ⟨gZ, i * 4 + 2, none⟩ = some (.int .i64 t.n) ∧ w'.cell? ⟨gZ, i * 4 + 3, none⟩ = some (.int .i64 t.at_) ∧ w'.cell? ⟨wr.heap.size, 0, none⟩ = some (.int .i64 t.kind) ∧ w'.cell? ⟨wr.heap.size, 1, none⟩ = some (.string (str t.text)) ∧ w'.cell? ⟨wr.heap.size, 2, none⟩ = some (.int .i64 t.n) ∧ w'.cell? ⟨wr.heap.size, 3, none⟩ = some (.int .i64 t.at_)) (by kernel_rfl) (by kernel_rfl) (fun _ _ d _ _ h => by cases d <;> exact h) (by refine ⟨?_, ?_, ?_, ?_, ?_, ?_, ?_, ?_⟩ <;> go_simp) ?_
                simp only [planOps, List.filterMap_cons, List.filterMap_nil, List.getElem?_toArray, List.getElem?_cons_zero, List.getElem?_cons_succ, Option.map_some, List.drop_succ_cons, List.drop_zero, List.length_cons, List.length_nil]
                iterate 3 (refine plan_pure (by rfl) (fun wq => by go_simp; with_reducible rfl) ?_; simp only [Act.put, List.setIfInBounds_toArray, List.set_cons_zero, List.set_cons_succ])
                iterate 2 (refine plan_load (by rfl) (fun wq hq => by obtain ⟨q0, q1, q2, q3, q4, q5, q6, q7⟩ := hq; go_simp; with_reducible rfl) ?_; simp only [Act.put, List.setIfInBounds_toArray, List.set_cons_zero, List.set_cons_succ])
                refine plan_done ?_
                go_wp2_with fail
                go_roundw
                case rel => exact ⟨i + 1, by omega, by go_num, (HBL.out.alloc HBL.out.size _).drew⟩
                case measure => simp [intOf]; omega
              · obtain ⟨j, rfl⟩ : ∃ j, i = acc.length + j := ⟨i - acc.length, by omega⟩
                have hjb : j < tb.length := by omega
                have hjI : (j : Int) < tb.length := by omega
                have hrb := HRB5.out.below HBL.out (Nat.le_refl _)
                have hltb := hrb.lt
                obtain ⟨t, ht⟩ : ∃ t, tb[j]? = some t := ⟨_, List.getElem?_eq_getElem hjb⟩
                have hat := HC3.out t (List.mem_of_getElem? ht)
                have hat2 : (t.at_ : Int) ≤ 9000 := by
                  rcases hat with hat | hat
                  · cases hat
                  · omega
                obtain ⟨b0, b1, b2, b3⟩ := hrb.cell j t ht
                obtain ⟨y0, y1, y2, y3⟩ := hrz.cell (acc.length + j) (shift (a.size + 4) t) (by rw [List.getElem?_append_right (by omega), Nat.add_sub_cancel_left, List.getElem?_map, ht]; rfl)
                have z3 : wr.cell? ⟨gZ, (acc.length + j) * 4 + 3, none⟩ = some (.int .i64 ((t.at_ : Int) + ((a.size : Int) + 4))) := by
                  rw [y3]
                  simp [shift]
                have z0 : wr.cell? ⟨gZ, (acc.length + j) * 4, none⟩ = some (.int .i64 t.kind) := y0
                have z1 : wr.cell? ⟨gZ, (acc.length + j) * 4 + 1, none⟩ = some (.string (str t.text)) := y1
                have z2 : wr.cell? ⟨gZ, (acc.length + j) * 4 + 2, none⟩ = some (.int .i64 t.n) := y2
                have hne1 : ¬ gZ = wr.heap.size := by omega
                have hne2 : ¬ gB = wr.heap.size := by omega
                have hne3 : ¬ wr.heap.size = gZ := by omega
                have hne4 : ¬ wr.heap.size = gB := by omega
                have hj0 : (0 : Int) ≤ (acc.length : Int) + j := by omega
                have hj1 : ((acc.length : Int) + j).toNat = acc.length + j := by omega
                have hjw : (acc.length : Int) + j - (acc.length + 1) + 1 = j := by omega
                clear hrb hrz ht hat y0 y1 y2 y3
                go_wp2_with fail
                refine wp_region_plan [(0, 0), (1, 0), (2, 0), (3, 3), (4, 3)] (fun w' => w'.cell? ⟨gZ, (acc.length + j) * 4, none⟩ = some (.int .i64 t.kind) ∧ w'.cell? ⟨gZ, (acc.length + j) * 4 + 1, none⟩ = some (.string (str t.text)) ∧ w'.cell? ⟨gZ, (acc.length + j) * 4 + 2, none⟩ = some (.int .i64 t.n) ∧ w'.cell? ⟨gZ, (acc.length + j) * 4 + 3, none⟩ = some (.int .i64 ((t.at_ : Int) + ((a.size : Int) + 4))) ∧ w'.cell? ⟨wr.heap.size, 0, none⟩ = some (.int .i64 t.kind) ∧ w'.cell? ⟨wr.heap.size, 1, none⟩ = some (.string (str t.text)) ∧ w'.cell? ⟨wr.heap.size, 2, none⟩ = some (.int .i64 t.n) ∧ w'.cell? ⟨wr.heap.size, 3, none⟩ = some (.int .i64 ((t.at_ : Int) + ((a.size : Int) + 4)))) (by kernel_rfl) (by kernel_rfl) (fun _ _ d _ _ h => by cases d <;> exact h) (by refine ⟨?_, ?_, ?_, ?_, ?_, ?_, ?_, ?_⟩ <;> go_simp) ?_
                simp only [planOps, List.filterMap_cons, List.filterMap_nil, List.getElem?_toArray, List.getElem?_cons_zero, List.getElem?_cons_succ, Option.map_some, List.drop_succ_cons, List.drop_zero, List.length_cons, List.length_nil]
                iterate 3 (refine plan_pure (by rfl) (fun wq => by go_simp; with_reducible rfl) ?_; simp only [Act.put, List.setIfInBounds_toArray, List.set_cons_zero, List.set_cons_succ])
                iterate 2 (refine plan_load (by rfl) (fun wq hq => by obtain ⟨q0, q1, q2, q3, q4, q5, q6, q7⟩ := hq; go_simp; with_reducible rfl) ?_; simp only [Act.put, List.setIfInBounds_toArray, List.set_cons_zero, List.set_cons_succ])
                refine plan_done ?_
                go_wp2_with fail
                go_roundw
                case rel => exact ⟨acc.length + j + 1, by omega, by go_num, (HBL.out.alloc HBL.out.size _).drew⟩
                case measure => simp [intOf]; omega
            · have hltI : ¬ (i : Int) < (acc.length : Int) + tb.length := by omega
              clear hrz
              go_wp2_with fail
              go_ret
              exact ⟨rfl, HB6.out.trans (HBL.out.mono HB6.out.size)⟩
      · clear hcl
        go_wp2_with fail
        go_ret
        exact ⟨rfl, HB3.out.alloc (by have := HB3.out.size; omega) _⟩
  · cases hRa : scanF (bs a) with
    | inl cp =>
      obtain ⟨ca', pa'⟩ := cp
      have hsa := HSA2.out
      rw [hRa] at hsa
      obtain ⟨-, rfl, -⟩ := hsa
      have hcn := scanF_ne _ _ _ hRa
      have hcz : ¬ ca = 0 := hcn
      clear hRa hcn
      go_wp2_with fail
      go_ret
      exact ⟨rfl, HB3.out.alloc (by have := HB3.out.size; omega) _⟩
    | inr ta =>
      have hsa := HSA2.out
      rw [hRa] at hsa
      obtain ⟨rfl, rfl, hrow⟩ := hsa
      have HRA := Lib.hid hRa
      have HROW := Lib.hid hrow
      clear hRa hrow
      by_cases h9 : a.size > 9000
      · have h9z : (9000 : Int) < a.size := by omega
        go_wp2_with fail
        go_ret
        exact ⟨rfl, HB3.out.alloc (by have := HB3.out.size; omega) _⟩
      have h9z : ¬ (9000 : Int) < a.size := by omega
      by_cases h9b : b.size > 9000
      · have h9bz : (9000 : Int) < b.size := by omega
        go_wp2_with fail
        go_ret
        exact ⟨rfl, HB3.out.alloc (by have := HB3.out.size; omega) _⟩
      have h9bz : ¬ (9000 : Int) < b.size := by omega
      go_wp2_with fail
      refine (comment_any a _ (by omega)).mono ?_
      rintro e w4 ⟨bo, rfl, rfl, hcl⟩
      cases bo
      · have HCL := Lib.hid (hcl rfl)
        clear hcl
        have hG4 := (HG.out.below HB3.out HG.out.size).below ((Below.refl w3.heap.size w3).alloc (Nat.le_refl _) (.cells #[.int .i64 cb, .int .i64 pb] 25)) (by have := HG.out.size; have := HB3.out.size; omega)
        have hra := HRA.out
        rw [scanF_small _ (by rw [bs_length]; omega)] at hra
        obtain ⟨acc, hta, hz⟩ := scan_between (bs a) (bs b) 2 ta HCL.out hra
        have htx : bs (a ++ str (gapG 2) ++ b) = bs a ++ (gapG 2 ++ bs b) := by rw [bs_append, bs_append, bs_str, List.append_assoc]
        have hlenG : (gapG 2).length ≤ 8 := by decide
        have hz2 := (scanF_small (bs a ++ (gapG 2 ++ bs b)) (by simp only [List.length_append, bs_length]; omega)).trans hz
        rw [← htx] at hz2
        rw [← scanF_small (bs b) (by rw [bs_length]; omega)] at hz2
        have hsz := scan_any (a ++ str (gapG 2) ++ b) _ hG4
        cases hRb : scanF (bs b) with
        | inl cp =>
          obtain ⟨cb', pb'⟩ := cp
          have hsb := HSB2.out
          rw [hRb] at hsb
          obtain ⟨rfl, rfl, rfl⟩ := hsb
          have hcn : ¬ cb = 0 := scanF_ne _ _ _ hRb
          have hpl : 0 ≤ pb ∧ pb < b.size := by
            have := hRb
            rw [scanF_small _ (by rw [bs_length]; omega)] at this
            have := scan_place _ _ _ _ _ _ (Nat.le_refl _) this
            rw [bs_length] at this
            omega
          obtain ⟨hpl1, hpl2⟩ := hpl
          rw [hRb] at hz2
          dsimp only at hz2
          rw [hz2] at hsz
          have HSZ := Lib.hid hsz
          have hbl : (bs a).length = a.size := bs_length a
          rw [hbl] at HSZ
          obtain ⟨P, hP⟩ : ∃ P : Int, pb + ((a.size + (gapG 2).length : Nat) : Int) = P := ⟨_, rfl⟩
          rw [hP] at HSZ
          have hPe : pb + (a.size : Int) + 8 = P := by
            have : (gapG 2).length = 8 := rfl
            rw [this] at hP
            omega
          clear hP
          clear hz2 hz hsz htx hta hRb hra HCL HRA HROW hG4 hbl
          go_wp2_with fail
          refine HSZ.out.mono ?_
          rintro e w5 ⟨rfl, hb5⟩
          have g0 : w5.cell? ⟨w3.heap.size, 0, none⟩ = some (.int .i64 cb) := by rw [hb5.cell (by simp)]; simp
          have g1 : w5.cell? ⟨w3.heap.size, 1, none⟩ = some (.int .i64 pb) := by rw [hb5.cell (by simp)]; simp
          have hls5 : w3.heap.size < w5.heap.size := by have := hb5.size; simp at this; omega
          have HB5 := Lib.hid ((HB3.out.alloc (by have := HB3.out.size; omega) (.cells #[.int .i64 cb, .int .i64 pb] 25)).trans (hb5.mono (by have := HB3.out.size; simp; omega)))
          clear hb5 HSZ
          go_wp2_with fail
          go_ret
          exact ⟨rfl, HB5.out.alloc (by have := HB5.out.size; omega) _⟩
        | inr tb =>
          have hsb := HSB2.out
          rw [hRb] at hsb
          obtain ⟨rfl, rfl, hrowb⟩ := hsb
          have hcnt := hRb
          rw [scanF_small _ (by rw [bs_length]; omega)] at hcnt
          obtain ⟨hc1, hc2, hc3⟩ := scan_count _ _ _ _ _ (Nat.le_refl _) hcnt
          have hcnta := hra
          obtain ⟨ha1, ha2, -⟩ := scan_count _ _ _ _ _ (Nat.le_refl _) hcnta
          rw [bs_length] at ha2 hc2 hc3
          simp only [List.length_nil, Nat.zero_add] at ha1 ha2 hc1 hc2 hc3
          obtain ⟨gA, capA, hrA⟩ := row_of HROW.out (by rw [hta]; simp)
          obtain ⟨gB, capB, hrB⟩ := row_of hrowb (by intro h; rw [h] at hc1; simp at hc1)
          have hnta : ta.length = acc.length + 1 := by rw [hta, List.length_append]; rfl
          have hvA := hrA.val
          have hvB := hrB.val
          rw [hnta] at hvA
          subst hvA hvB
          have hneG : (gapG 2).length = 8 := rfl
          rw [hRb] at hz2
          dsimp only at hz2
          rw [hz2, bs_length, hneG] at hsz
          have HSZ := Lib.hid hsz
          have HRA4 := Lib.hid ((hrA.below HB34.out (Nat.le_refl _)).below ((Below.refl w3.heap.size w3).alloc (Nat.le_refl _) (.cells #[.int .i64 0, .int .i64 0] 25)) (Nat.le_refl _))
          have HRB4 := Lib.hid (hrB.below ((Below.refl w3.heap.size w3).alloc (Nat.le_refl _) (.cells #[.int .i64 0, .int .i64 0] 25)) (Nat.le_refl _))
          have HTA := Lib.hid hta
          have HC3 := Lib.hid hc3
          have hmA := hrA.max
          have hlA := hrA.le
          have hmB := hrB.max
          have hlB := hrB.le
          rw [hnta] at hlA
          clear hz2 hz hsz htx hRb hra HCL HRA HROW hG4 hcnt hcnta hrA hrB hrowb hneG hc3
          go_wp2_with fail
          refine HSZ.out.mono ?_
          rintro e w5 ⟨lvz, rfl, hrowz, hb5⟩
          obtain ⟨gZ, capZ, hrZ⟩ := row_of hrowz (by intro h; have := congrArg List.length h; rw [List.length_append, List.length_map] at this; simp only [List.length_nil] at this; omega)
          have hvZ := hrZ.val
          rw [List.length_append, List.length_map] at hvZ
          subst hvZ
          have g0 : w5.cell? ⟨w3.heap.size, 0, none⟩ = some (.int .i64 0) := by rw [hb5.cell (by simp)]; simp
          have g1 : w5.cell? ⟨w3.heap.size, 1, none⟩ = some (.int .i64 0) := by rw [hb5.cell (by simp)]; simp
          have hls5 : w3.heap.size < w5.heap.size := by have := hb5.size; simp at this; omega
          have HB5 := Lib.hid ((HB3.out.alloc (by have := HB3.out.size; omega) (.cells #[.int .i64 0, .int .i64 0] 25)).trans (hb5.mono (by have := HB3.out.size; simp; omega)))
          have HRA5 := Lib.hid ((HRA4.out.below hb5 (Nat.le_refl _)).below ((Below.refl w5.heap.size w5).alloc (Nat.le_refl _) (.cells #[.int .i64 0, .int .i64 0] 25)) (Nat.le_refl _))
          have HRB5 := Lib.hid ((HRB4.out.below hb5 (Nat.le_refl _)).below ((Below.refl w5.heap.size w5).alloc (Nat.le_refl _) (.cells #[.int .i64 0, .int .i64 0] 25)) (Nat.le_refl _))
          have HRZ5 := Lib.hid (hrZ.below ((Below.refl w5.heap.size w5).alloc (Nat.le_refl _) (.cells #[.int .i64 0, .int .i64 0] 25)) (Nat.le_refl _))
          have hmZ := hrZ.max
          have hlZ := hrZ.le
          rw [List.length_append, List.length_map] at hlZ
          clear hb5 HSZ HRA4 HRB4 hrowz hrZ
          have hnb : ¬ tb.length = 0 := by omega
          have hnbz : ((tb.length : Int) == 0) = false := by rw [beq_eq_false_iff_ne]; omega
          have hnaz : ((acc.length : Int) + 1 == 0) = false := by rw [beq_eq_false_iff_ne]; omega
          have hwz : IntKind.i64.wrap ((acc.length : Int) + tb.length) = (acc.length : Int) + tb.length := wrap_in _ (by omega) (by omega)
          go_wp2_with fail
          have HB6 := Lib.hid (HB5.out.alloc (by have := HB5.out.size; omega) (.cells #[.int .i64 0, .int .i64 0] 25))
          generalize w5.alloc (.cells #[.int .i64 0, .int .i64 0] 25) = w6 at *
          clear g0 g1 f0 f1 hls hls5 hwz
          go_loopw [14] (fun v14 wr => ∃ i : Nat, i ≤ acc.length + tb.length ∧ v14 = .int .i64 i ∧ Hid (Below w6.heap.size w6 wr)) (fun v14 _ => acc.length + tb.length - (intOf v14).toNat)
          case atStart => exact ⟨0, by omega, by go_num, Below.refl _ _⟩
          case round =>
            obtain ⟨i, hi, rfl, HBL⟩ := hrel
            have hrz := HRZ5.out.below HBL.out (Nat.le_refl _)
            have hltz := hrz.lt
            by_cases hlt : i < acc.length + tb.length
            · have hltI : (i : Int) < (acc.length : Int) + tb.length := by omega
              by_cases hia : i < acc.length
              · have hiaI : (i : Int) < acc.length := by omega
                have hra := HRA5.out.below HBL.out (Nat.le_refl _)
                have hlta := hra.lt
                obtain ⟨t, ht⟩ : ∃ t, acc[i]? = some t := ⟨_, List.getElem?_eq_getElem hia⟩
                obtain ⟨a0, a1, a2, a3⟩ := hra.cell i t (by rw [HTA.out, List.getElem?_append_left hia]; exact ht)
                obtain ⟨z0, z1, z2, z3⟩ := hrz.cell i t (by rw [List.getElem?_append_left hia]; exact ht)
                have hbox : ∀ k : Nat, True := fun _ => trivial
                have hne1 : ¬ gZ = wr.heap.size := by omega
                have hne2 : ¬ gA = wr.heap.size := by omega
                have hne3 : ¬ wr.heap.size = gZ := by omega
                have hne4 : ¬ wr.heap.size = gA := by omega
                have HT := Lib.hid ht
                clear hra hrz ht hbox
                go_wp2_with fail
                refine wp_region_plan [(0, 0), (1, 0), (2, 0), (3, 3), (4, 3)] (fun w' => w'.cell? ⟨gZ, i * 4, none⟩ = some (.int .i64 t.kind) ∧ w'.cell? ⟨gZ, i * 4 + 1, none⟩ = some (.string (str t.text)) ∧ w'.cell? ⟨gZ, i * 4 + 2, none⟩ = some (.int .i64 t.n) ∧ w'.cell? ⟨gZ, i * 4 + 3, none⟩ = some (.int .i64 t.at_) ∧ w'.cell? ⟨wr.heap.size, 0, none⟩ = some (.int .i64 t.kind) ∧ w'.cell? ⟨wr.heap.size, 1, none⟩ = some (.string (str t.text)) ∧ w'.cell? ⟨wr.heap.size, 2, none⟩ = some (.int .i64 t.n) ∧ w'.cell? ⟨wr.heap.size, 3, none⟩ = some (.int .i64 t.at_)) (by kernel_rfl) (by kernel_rfl) (fun _ _ d _ _ h => by cases d <;> exact h) (by refine ⟨?_, ?_, ?_, ?_, ?_, ?_, ?_, ?_⟩ <;> go_simp) ?_
                simp only [planOps, List.filterMap_cons, List.filterMap_nil, List.getElem?_toArray, List.getElem?_cons_zero, List.getElem?_cons_succ, Option.map_some, List.drop_succ_cons, List.drop_zero, List.length_cons, List.length_nil]
                iterate 3 (refine plan_pure (by rfl) (fun wq => by go_simp; with_reducible rfl) ?_; simp only [Act.put, List.setIfInBounds_toArray, List.set_cons_zero, List.set_cons_succ])
                iterate 2 (refine plan_load (by rfl) (fun wq hq => by obtain ⟨q0, q1, q2, q3, q4, q5, q6, q7⟩ := hq; go_simp; with_reducible rfl) ?_; simp only [Act.put, List.setIfInBounds_toArray, List.set_cons_zero, List.set_cons_succ])
                refine plan_done ?_
                go_wp2_with fail
                go_roundw
                case rel => exact ⟨i + 1, by omega, by go_num, (HBL.out.alloc HBL.out.size _).drew⟩
                case measure => simp [intOf]; omega
              · obtain ⟨j, rfl⟩ : ∃ j, i = acc.length + j := ⟨i - acc.length, by omega⟩
                have hjb : j < tb.length := by omega
                have hjI : (j : Int) < tb.length := by omega
                have hrb := HRB5.out.below HBL.out (Nat.le_refl _)
                have hltb := hrb.lt
                obtain ⟨t, ht⟩ : ∃ t, tb[j]? = some t := ⟨_, List.getElem?_eq_getElem hjb⟩
                have hat := HC3.out t (List.mem_of_getElem? ht)
                have hat2 : (t.at_ : Int) ≤ 9000 := by
                  rcases hat with hat | hat
                  · cases hat
                  · omega
                obtain ⟨b0, b1, b2, b3⟩ := hrb.cell j t ht
                obtain ⟨y0, y1, y2, y3⟩ := hrz.cell (acc.length + j) (shift (a.size + 8) t) (by rw [List.getElem?_append_right (by omega), Nat.add_sub_cancel_left, List.getElem?_map, ht]; rfl)
                have z3 : wr.cell? ⟨gZ, (acc.length + j) * 4 + 3, none⟩ = some (.int .i64 ((t.at_ : Int) + ((a.size : Int) + 8))) := by
                  rw [y3]
                  simp [shift]
                have z0 : wr.cell? ⟨gZ, (acc.length + j) * 4, none⟩ = some (.int .i64 t.kind) := y0
                have z1 : wr.cell? ⟨gZ, (acc.length + j) * 4 + 1, none⟩ = some (.string (str t.text)) := y1
                have z2 : wr.cell? ⟨gZ, (acc.length + j) * 4 + 2, none⟩ = some (.int .i64 t.n) := y2
                have hne1 : ¬ gZ = wr.heap.size := by omega
                have hne2 : ¬ gB = wr.heap.size := by omega
                have hne3 : ¬ wr.heap.size = gZ := by omega
                have hne4 : ¬ wr.heap.size = gB := by omega
                have hj0 : (0 : Int) ≤ (acc.length : Int) + j := by omega
                have hj1 : ((acc.length : Int) + j).toNat = acc.length + j := by omega
                have hjw : (acc.length : Int) + j - (acc.length + 1) + 1 = j := by omega
                clear hrb hrz ht hat y0 y1 y2 y3
                go_wp2_with fail
                refine wp_region_plan [(0, 0), (1, 0), (2, 0), (3, 3), (4, 3)] (fun w' => w'.cell? ⟨gZ, (acc.length + j) * 4, none⟩ = some (.int .i64 t.kind) ∧ w'.cell? ⟨gZ, (acc.length + j) * 4 + 1, none⟩ = some (.string (str t.text)) ∧ w'.cell? ⟨gZ, (acc.length + j) * 4 + 2, none⟩ = some (.int .i64 t.n) ∧ w'.cell? ⟨gZ, (acc.length + j) * 4 + 3, none⟩ = some (.int .i64 ((t.at_ : Int) + ((a.size : Int) + 8))) ∧ w'.cell? ⟨wr.heap.size, 0, none⟩ = some (.int .i64 t.kind) ∧ w'.cell? ⟨wr.heap.size, 1, none⟩ = some (.string (str t.text)) ∧ w'.cell? ⟨wr.heap.size, 2, none⟩ = some (.int .i64 t.n) ∧ w'.cell? ⟨wr.heap.size, 3, none⟩ = some (.int .i64 ((t.at_ : Int) + ((a.size : Int) + 8)))) (by kernel_rfl) (by kernel_rfl) (fun _ _ d _ _ h => by cases d <;> exact h) (by refine ⟨?_, ?_, ?_, ?_, ?_, ?_, ?_, ?_⟩ <;> go_simp) ?_
                simp only [planOps, List.filterMap_cons, List.filterMap_nil, List.getElem?_toArray, List.getElem?_cons_zero, List.getElem?_cons_succ, Option.map_some, List.drop_succ_cons, List.drop_zero, List.length_cons, List.length_nil]
                iterate 3 (refine plan_pure (by rfl) (fun wq => by go_simp; with_reducible rfl) ?_; simp only [Act.put, List.setIfInBounds_toArray, List.set_cons_zero, List.set_cons_succ])
                iterate 2 (refine plan_load (by rfl) (fun wq hq => by obtain ⟨q0, q1, q2, q3, q4, q5, q6, q7⟩ := hq; go_simp; with_reducible rfl) ?_; simp only [Act.put, List.setIfInBounds_toArray, List.set_cons_zero, List.set_cons_succ])
                refine plan_done ?_
                go_wp2_with fail
                go_roundw
                case rel => exact ⟨acc.length + j + 1, by omega, by go_num, (HBL.out.alloc HBL.out.size _).drew⟩
                case measure => simp [intOf]; omega
            · have hltI : ¬ (i : Int) < (acc.length : Int) + tb.length := by omega
              clear hrz
              go_wp2_with fail
              go_ret
              exact ⟨rfl, HB6.out.trans (HBL.out.mono HB6.out.size)⟩
      · clear hcl
        go_wp2_with fail
        go_ret
        exact ⟨rfl, HB3.out.alloc (by have := HB3.out.size; omega) _⟩
  · cases hRa : scanF (bs a) with
    | inl cp =>
      obtain ⟨ca', pa'⟩ := cp
      have hsa := HSA2.out
      rw [hRa] at hsa
      obtain ⟨-, rfl, -⟩ := hsa
      have hcn := scanF_ne _ _ _ hRa
      have hcz : ¬ ca = 0 := hcn
      clear hRa hcn
      go_wp2_with fail
      go_ret
      exact ⟨rfl, HB3.out.alloc (by have := HB3.out.size; omega) _⟩
    | inr ta =>
      have hsa := HSA2.out
      rw [hRa] at hsa
      obtain ⟨rfl, rfl, hrow⟩ := hsa
      have HRA := Lib.hid hRa
      have HROW := Lib.hid hrow
      clear hRa hrow
      by_cases h9 : a.size > 9000
      · have h9z : (9000 : Int) < a.size := by omega
        go_wp2_with fail
        go_ret
        exact ⟨rfl, HB3.out.alloc (by have := HB3.out.size; omega) _⟩
      have h9z : ¬ (9000 : Int) < a.size := by omega
      by_cases h9b : b.size > 9000
      · have h9bz : (9000 : Int) < b.size := by omega
        go_wp2_with fail
        go_ret
        exact ⟨rfl, HB3.out.alloc (by have := HB3.out.size; omega) _⟩
      have h9bz : ¬ (9000 : Int) < b.size := by omega
      go_wp2_with fail
      refine (comment_any a _ (by omega)).mono ?_
      rintro e w4 ⟨bo, rfl, rfl, hcl⟩
      cases bo
      · have HCL := Lib.hid (hcl rfl)
        clear hcl
        have hG4 := (HG.out.below HB3.out HG.out.size).below ((Below.refl w3.heap.size w3).alloc (Nat.le_refl _) (.cells #[.int .i64 cb, .int .i64 pb] 25)) (by have := HG.out.size; have := HB3.out.size; omega)
        have hra := HRA.out
        rw [scanF_small _ (by rw [bs_length]; omega)] at hra
        obtain ⟨acc, hta, hz⟩ := scan_between (bs a) (bs b) 3 ta HCL.out hra
        have htx : bs (a ++ str (gapG 3) ++ b) = bs a ++ (gapG 3 ++ bs b) := by rw [bs_append, bs_append, bs_str, List.append_assoc]
        have hlenG : (gapG 3).length ≤ 8 := by decide
        have hz2 := (scanF_small (bs a ++ (gapG 3 ++ bs b)) (by simp only [List.length_append, bs_length]; omega)).trans hz
        rw [← htx] at hz2
        rw [← scanF_small (bs b) (by rw [bs_length]; omega)] at hz2
        have hsz := scan_any (a ++ str (gapG 3) ++ b) _ hG4
        cases hRb : scanF (bs b) with
        | inl cp =>
          obtain ⟨cb', pb'⟩ := cp
          have hsb := HSB2.out
          rw [hRb] at hsb
          obtain ⟨rfl, rfl, rfl⟩ := hsb
          have hcn : ¬ cb = 0 := scanF_ne _ _ _ hRb
          have hpl : 0 ≤ pb ∧ pb < b.size := by
            have := hRb
            rw [scanF_small _ (by rw [bs_length]; omega)] at this
            have := scan_place _ _ _ _ _ _ (Nat.le_refl _) this
            rw [bs_length] at this
            omega
          obtain ⟨hpl1, hpl2⟩ := hpl
          rw [hRb] at hz2
          dsimp only at hz2
          rw [hz2] at hsz
          have HSZ := Lib.hid hsz
          have hbl : (bs a).length = a.size := bs_length a
          rw [hbl] at HSZ
          obtain ⟨P, hP⟩ : ∃ P : Int, pb + ((a.size + (gapG 3).length : Nat) : Int) = P := ⟨_, rfl⟩
          rw [hP] at HSZ
          have hPe : pb + (a.size : Int) + 8 = P := by
            have : (gapG 3).length = 8 := rfl
            rw [this] at hP
            omega
          clear hP
          clear hz2 hz hsz htx hta hRb hra HCL HRA HROW hG4 hbl
          go_wp2_with fail
          refine HSZ.out.mono ?_
          rintro e w5 ⟨rfl, hb5⟩
          have g0 : w5.cell? ⟨w3.heap.size, 0, none⟩ = some (.int .i64 cb) := by rw [hb5.cell (by simp)]; simp
          have g1 : w5.cell? ⟨w3.heap.size, 1, none⟩ = some (.int .i64 pb) := by rw [hb5.cell (by simp)]; simp
          have hls5 : w3.heap.size < w5.heap.size := by have := hb5.size; simp at this; omega
          have HB5 := Lib.hid ((HB3.out.alloc (by have := HB3.out.size; omega) (.cells #[.int .i64 cb, .int .i64 pb] 25)).trans (hb5.mono (by have := HB3.out.size; simp; omega)))
          clear hb5 HSZ
          go_wp2_with fail
          go_ret
          exact ⟨rfl, HB5.out.alloc (by have := HB5.out.size; omega) _⟩
        | inr tb =>
          have hsb := HSB2.out
          rw [hRb] at hsb
          obtain ⟨rfl, rfl, hrowb⟩ := hsb
          have hcnt := hRb
          rw [scanF_small _ (by rw [bs_length]; omega)] at hcnt
          obtain ⟨hc1, hc2, hc3⟩ := scan_count _ _ _ _ _ (Nat.le_refl _) hcnt
          have hcnta := hra
          obtain ⟨ha1, ha2, -⟩ := scan_count _ _ _ _ _ (Nat.le_refl _) hcnta
          rw [bs_length] at ha2 hc2 hc3
          simp only [List.length_nil, Nat.zero_add] at ha1 ha2 hc1 hc2 hc3
          obtain ⟨gA, capA, hrA⟩ := row_of HROW.out (by rw [hta]; simp)
          obtain ⟨gB, capB, hrB⟩ := row_of hrowb (by intro h; rw [h] at hc1; simp at hc1)
          have hnta : ta.length = acc.length + 1 := by rw [hta, List.length_append]; rfl
          have hvA := hrA.val
          have hvB := hrB.val
          rw [hnta] at hvA
          subst hvA hvB
          have hneG : (gapG 3).length = 8 := rfl
          rw [hRb] at hz2
          dsimp only at hz2
          rw [hz2, bs_length, hneG] at hsz
          have HSZ := Lib.hid hsz
          have HRA4 := Lib.hid ((hrA.below HB34.out (Nat.le_refl _)).below ((Below.refl w3.heap.size w3).alloc (Nat.le_refl _) (.cells #[.int .i64 0, .int .i64 0] 25)) (Nat.le_refl _))
          have HRB4 := Lib.hid (hrB.below ((Below.refl w3.heap.size w3).alloc (Nat.le_refl _) (.cells #[.int .i64 0, .int .i64 0] 25)) (Nat.le_refl _))
          have HTA := Lib.hid hta
          have HC3 := Lib.hid hc3
          have hmA := hrA.max
          have hlA := hrA.le
          have hmB := hrB.max
          have hlB := hrB.le
          rw [hnta] at hlA
          clear hz2 hz hsz htx hRb hra HCL HRA HROW hG4 hcnt hcnta hrA hrB hrowb hneG hc3
          go_wp2_with fail
          refine HSZ.out.mono ?_
          rintro e w5 ⟨lvz, rfl, hrowz, hb5⟩
          obtain ⟨gZ, capZ, hrZ⟩ := row_of hrowz (by intro h; have := congrArg List.length h; rw [List.length_append, List.length_map] at this; simp only [List.length_nil] at this; omega)
          have hvZ := hrZ.val
          rw [List.length_append, List.length_map] at hvZ
          subst hvZ
          have g0 : w5.cell? ⟨w3.heap.size, 0, none⟩ = some (.int .i64 0) := by rw [hb5.cell (by simp)]; simp
          have g1 : w5.cell? ⟨w3.heap.size, 1, none⟩ = some (.int .i64 0) := by rw [hb5.cell (by simp)]; simp
          have hls5 : w3.heap.size < w5.heap.size := by have := hb5.size; simp at this; omega
          have HB5 := Lib.hid ((HB3.out.alloc (by have := HB3.out.size; omega) (.cells #[.int .i64 0, .int .i64 0] 25)).trans (hb5.mono (by have := HB3.out.size; simp; omega)))
          have HRA5 := Lib.hid ((HRA4.out.below hb5 (Nat.le_refl _)).below ((Below.refl w5.heap.size w5).alloc (Nat.le_refl _) (.cells #[.int .i64 0, .int .i64 0] 25)) (Nat.le_refl _))
          have HRB5 := Lib.hid ((HRB4.out.below hb5 (Nat.le_refl _)).below ((Below.refl w5.heap.size w5).alloc (Nat.le_refl _) (.cells #[.int .i64 0, .int .i64 0] 25)) (Nat.le_refl _))
          have HRZ5 := Lib.hid (hrZ.below ((Below.refl w5.heap.size w5).alloc (Nat.le_refl _) (.cells #[.int .i64 0, .int .i64 0] 25)) (Nat.le_refl _))
          have hmZ := hrZ.max
          have hlZ := hrZ.le
          rw [List.length_append, List.length_map] at hlZ
          clear hb5 HSZ HRA4 HRB4 hrowz hrZ
          have hnb : ¬ tb.length = 0 := by omega
          have hnbz : ((tb.length : Int) == 0) = false := by rw [beq_eq_false_iff_ne]; omega
          have hnaz : ((acc.length : Int) + 1 == 0) = false := by rw [beq_eq_false_iff_ne]; omega
          have hwz : IntKind.i64.wrap ((acc.length : Int) + tb.length) = (acc.length : Int) + tb.length := wrap_in _ (by omega) (by omega)
          go_wp2_with fail
          have HB6 := Lib.hid (HB5.out.alloc (by have := HB5.out.size; omega) (.cells #[.int .i64 0, .int .i64 0] 25))
          generalize w5.alloc (.cells #[.int .i64 0, .int .i64 0] 25) = w6 at *
          clear g0 g1 f0 f1 hls hls5 hwz
          go_loopw [14] (fun v14 wr => ∃ i : Nat, i ≤ acc.length + tb.length ∧ v14 = .int .i64 i ∧ Hid (Below w6.heap.size w6 wr)) (fun v14 _ => acc.length + tb.length - (intOf v14).toNat)
          case atStart => exact ⟨0, by omega, by go_num, Below.refl _ _⟩
          case round =>
            obtain ⟨i, hi, rfl, HBL⟩ := hrel
            have hrz := HRZ5.out.below HBL.out (Nat.le_refl _)
            have hltz := hrz.lt
            by_cases hlt : i < acc.length + tb.length
            · have hltI : (i : Int) < (acc.length : Int) + tb.length := by omega
              by_cases hia : i < acc.length
              · have hiaI : (i : Int) < acc.length := by omega
                have hra := HRA5.out.below HBL.out (Nat.le_refl _)
                have hlta := hra.lt
                obtain ⟨t, ht⟩ : ∃ t, acc[i]? = some t := ⟨_, List.getElem?_eq_getElem hia⟩
                obtain ⟨a0, a1, a2, a3⟩ := hra.cell i t (by rw [HTA.out, List.getElem?_append_left hia]; exact ht)
                obtain ⟨z0, z1, z2, z3⟩ := hrz.cell i t (by rw [List.getElem?_append_left hia]; exact ht)
                have hbox : ∀ k : Nat, True := fun _ => trivial
                have hne1 : ¬ gZ = wr.heap.size := by omega
                have hne2 : ¬ gA = wr.heap.size := by omega
                have hne3 : ¬ wr.heap.size = gZ := by omega
                have hne4 : ¬ wr.heap.size = gA := by omega
                have HT := Lib.hid ht
                clear hra hrz ht hbox
                go_wp2_with fail
                refine wp_region_plan [(0, 0), (1, 0), (2, 0), (3, 3), (4, 3)] (fun w' => w'.cell? ⟨gZ, i * 4, none⟩ = some (.int .i64 t.kind) ∧ w'.cell? ⟨gZ, i * 4 + 1, none⟩ = some (.string (str t.text)) ∧ w'.cell? ⟨gZ, i * 4 + 2, none⟩ = some (.int .i64 t.n) ∧ w'.cell? ⟨gZ, i * 4 + 3, none⟩ = some (.int .i64 t.at_) ∧ w'.cell? ⟨wr.heap.size, 0, none⟩ = some (.int .i64 t.kind) ∧ w'.cell? ⟨wr.heap.size, 1, none⟩ = some (.string (str t.text)) ∧ w'.cell? ⟨wr.heap.size, 2, none⟩ = some (.int .i64 t.n) ∧ w'.cell? ⟨wr.heap.size, 3, none⟩ = some (.int .i64 t.at_)) (by kernel_rfl) (by kernel_rfl) (fun _ _ d _ _ h => by cases d <;> exact h) (by refine ⟨?_, ?_, ?_, ?_, ?_, ?_, ?_, ?_⟩ <;> go_simp) ?_
                simp only [planOps, List.filterMap_cons, List.filterMap_nil, List.getElem?_toArray, List.getElem?_cons_zero, List.getElem?_cons_succ, Option.map_some, List.drop_succ_cons, List.drop_zero, List.length_cons, List.length_nil]
                iterate 3 (refine plan_pure (by rfl) (fun wq => by go_simp; with_reducible rfl) ?_; simp only [Act.put, List.setIfInBounds_toArray, List.set_cons_zero, List.set_cons_succ])
                iterate 2 (refine plan_load (by rfl) (fun wq hq => by obtain ⟨q0, q1, q2, q3, q4, q5, q6, q7⟩ := hq; go_simp; with_reducible rfl) ?_; simp only [Act.put, List.setIfInBounds_toArray, List.set_cons_zero, List.set_cons_succ])
                refine plan_done ?_
                go_wp2_with fail
                go_roundw
                case rel => exact ⟨i + 1, by omega, by go_num, (HBL.out.alloc HBL.out.size _).drew⟩
                case measure => simp [intOf]; omega
              · obtain ⟨j, rfl⟩ : ∃ j, i = acc.length + j := ⟨i - acc.length, by omega⟩
                have hjb : j < tb.length := by omega
                have hjI : (j : Int) < tb.length := by omega
                have hrb := HRB5.out.below HBL.out (Nat.le_refl _)
                have hltb := hrb.lt
                obtain ⟨t, ht⟩ : ∃ t, tb[j]? = some t := ⟨_, List.getElem?_eq_getElem hjb⟩
                have hat := HC3.out t (List.mem_of_getElem? ht)
                have hat2 : (t.at_ : Int) ≤ 9000 := by
                  rcases hat with hat | hat
                  · cases hat
                  · omega
                obtain ⟨b0, b1, b2, b3⟩ := hrb.cell j t ht
                obtain ⟨y0, y1, y2, y3⟩ := hrz.cell (acc.length + j) (shift (a.size + 8) t) (by rw [List.getElem?_append_right (by omega), Nat.add_sub_cancel_left, List.getElem?_map, ht]; rfl)
                have z3 : wr.cell? ⟨gZ, (acc.length + j) * 4 + 3, none⟩ = some (.int .i64 ((t.at_ : Int) + ((a.size : Int) + 8))) := by
                  rw [y3]
                  simp [shift]
                have z0 : wr.cell? ⟨gZ, (acc.length + j) * 4, none⟩ = some (.int .i64 t.kind) := y0
                have z1 : wr.cell? ⟨gZ, (acc.length + j) * 4 + 1, none⟩ = some (.string (str t.text)) := y1
                have z2 : wr.cell? ⟨gZ, (acc.length + j) * 4 + 2, none⟩ = some (.int .i64 t.n) := y2
                have hne1 : ¬ gZ = wr.heap.size := by omega
                have hne2 : ¬ gB = wr.heap.size := by omega
                have hne3 : ¬ wr.heap.size = gZ := by omega
                have hne4 : ¬ wr.heap.size = gB := by omega
                have hj0 : (0 : Int) ≤ (acc.length : Int) + j := by omega
                have hj1 : ((acc.length : Int) + j).toNat = acc.length + j := by omega
                have hjw : (acc.length : Int) + j - (acc.length + 1) + 1 = j := by omega
                clear hrb hrz ht hat y0 y1 y2 y3
                go_wp2_with fail
                refine wp_region_plan [(0, 0), (1, 0), (2, 0), (3, 3), (4, 3)] (fun w' => w'.cell? ⟨gZ, (acc.length + j) * 4, none⟩ = some (.int .i64 t.kind) ∧ w'.cell? ⟨gZ, (acc.length + j) * 4 + 1, none⟩ = some (.string (str t.text)) ∧ w'.cell? ⟨gZ, (acc.length + j) * 4 + 2, none⟩ = some (.int .i64 t.n) ∧ w'.cell? ⟨gZ, (acc.length + j) * 4 + 3, none⟩ = some (.int .i64 ((t.at_ : Int) + ((a.size : Int) + 8))) ∧ w'.cell? ⟨wr.heap.size, 0, none⟩ = some (.int .i64 t.kind) ∧ w'.cell? ⟨wr.heap.size, 1, none⟩ = some (.string (str t.text)) ∧ w'.cell? ⟨wr.heap.size, 2, none⟩ = some (.int .i64 t.n) ∧ w'.cell? ⟨wr.heap.size, 3, none⟩ = some (.int .i64 ((t.at_ : Int) + ((a.size : Int) + 8)))) (by kernel_rfl) (by kernel_rfl) (fun _ _ d _ _ h => by cases d <;> exact h) (by refine ⟨?_, ?_, ?_, ?_, ?_, ?_, ?_, ?_⟩ <;> go_simp) ?_
                simp only [planOps, List.filterMap_cons, List.filterMap_nil, List.getElem?_toArray, List.getElem?_cons_zero, List.getElem?_cons_succ, Option.map_some, List.drop_succ_cons, List.drop_zero, List.length_cons, List.length_nil]
                iterate 3 (refine plan_pure (by rfl) (fun wq => by go_simp; with_reducible rfl) ?_; simp only [Act.put, List.setIfInBounds_toArray, List.set_cons_zero, List.set_cons_succ])
                iterate 2 (refine plan_load (by rfl) (fun wq hq => by obtain ⟨q0, q1, q2, q3, q4, q5, q6, q7⟩ := hq; go_simp; with_reducible rfl) ?_; simp only [Act.put, List.setIfInBounds_toArray, List.set_cons_zero, List.set_cons_succ])
                refine plan_done ?_
                go_wp2_with fail
                go_roundw
                case rel => exact ⟨acc.length + j + 1, by omega, by go_num, (HBL.out.alloc HBL.out.size _).drew⟩
                case measure => simp [intOf]; omega
            · have hltI : ¬ (i : Int) < (acc.length : Int) + tb.length := by omega
              clear hrz
              go_wp2_with fail
              go_ret
              exact ⟨rfl, HB6.out.trans (HBL.out.mono HB6.out.size)⟩
      · clear hcl
        go_wp2_with fail
        go_ret
        exact ⟨rfl, HB3.out.alloc (by have := HB3.out.size; omega) _⟩
end Go.Proofs.YtadenjlehhopmaaDoor
