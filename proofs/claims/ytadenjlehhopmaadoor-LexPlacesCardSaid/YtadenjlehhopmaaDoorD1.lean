/- 'Format' of the reference. -/
import Derived.Test.YtadenjlehhopmaaDoorD0
namespace Go.Proofs.YtadenjlehhopmaaDoor
set_option linter.unusedSimpArgs false
set_option linter.unusedVariables false
open Go Go.RowKit Lx
/-- The decimal digits, the last one first. -/
def decR : Nat → Nat → Bs
  | 0, _ => []
  | f + 1, m => if m = 0 then [] else UInt8.ofNat (48 + m % 10) :: decR f (m / 10)
def decD (n : Nat) : Bs := if n = 0 then [48] else (decR 20 n).reverse
theorem decR_len : ∀ f m, (decR f m).length ≤ f
  | 0, m => by simp [decR]
  | f + 1, m => by
    unfold decR
    split
    · simp
    · have := decR_len f (m / 10)
      simp only [List.length_cons]; omega
/-- k swaps done. -/
def swapAt (l : Bs) (k j : Nat) : UInt8 := if j < k ∨ l.length - 1 - j < k then l.reverse.getD j 0 else l.getD j 0
theorem rev_getD (l : Bs) (j : Nat) (h : j < l.length) : l.reverse.getD j 0 = l.getD (l.length - 1 - j) 0 := by
  rw [List.getD_eq_getElem?_getD, List.getD_eq_getElem?_getD, List.getElem?_reverse h]
theorem swap_lo (l : Bs) (k : Nat) (h : k < l.length / 2) : swapAt l k (l.length - 1 - k) = swapAt l (k + 1) k := by
  unfold swapAt
  rw [if_neg (by omega), if_pos (by omega), rev_getD l k (by omega)]
theorem swap_hi (l : Bs) (k : Nat) (h : k < l.length / 2) : swapAt l k k = swapAt l (k + 1) (l.length - 1 - k) := by
  unfold swapAt
  rw [if_neg (by omega), if_pos (by omega), rev_getD l _ (by omega)]
  congr 1
  omega
theorem swap_ne (l : Bs) (k j : Nat) (h : k < l.length / 2) (hj : j < l.length) (h1 : j ≠ k) (h2 : j ≠ l.length - 1 - k) : swapAt l k j = swapAt l (k + 1) j := by
  unfold swapAt
  by_cases h3 : j < k ∨ l.length - 1 - j < k
  · rw [if_pos h3, if_pos (by omega)]
  · rw [if_neg h3, if_neg (by omega)]
set_option maxHeartbeats 4000000 in
set_option maxRecDepth 100000 in
theorem format_any (n : Nat) (w : World) (hn : n < 9223372036854775808) :
    Calls Tryd.prog 18 #[.int .i64 n] w fun e w' => e = .returned (.string (str (decD n))) ∧ Below w.heap.size w w' := by
  by_cases h0 : n = 0
  · subst h0
    go_enter Tryd.func18, Tryd.ntmps18
    go_wp2_with fail
    go_ret
    exact ⟨rfl, Below.refl _ _⟩
  · obtain ⟨i0, hi, hz0, hz1, hz2⟩ := info_parts infoByte
    have hnz : ((n : Int) == 0) = false := by rw [beq_eq_false_iff_ne]; omega
    have hnn : ¬ (n : Int) < 0 := by omega
    have hdd : decD n = (decR 20 n).reverse := if_neg h0
    rw [hdd]
    have hL := decR_len 20 n
    obtain ⟨L, hLe⟩ : ∃ L, decR 20 n = L := ⟨_, rfl⟩
    have HL := Lib.hid hLe
    rw [hLe] at hL ⊢
    clear hdd hLe
    go_enter Tryd.func18, Tryd.ntmps18
    go_wp2_with fail
    go_loopw [3, 4] (fun v3 v4 wr => ∃ (f m : Nat) (acc : Bs) (sv : Value), sv = v3 ∧ v4 = .int .i64 m ∧ m ≤ n ∧ m < 10 ^ f ∧ acc.length + f ≤ 20 ∧ Hid (acc ++ decR f m = L) ∧ Hid (wr.ownsRow w.heap.size 5 1 sv acc.length (Lib.byteCells acc)) ∧ Hid (Below w.heap.size w wr)) (fun _ v4 _ => (intOf v4).toNat)
    case atStart => exact ⟨20, n, [], _, rfl, by go_num, Nat.le_refl _, by omega, by simp, HL.out, World.ownsRow_nil _ _ _ _, Below.refl _ _⟩
    case round =>
      obtain ⟨f, m, acc, sv, rfl, rfl, hm, hf, hlf, HAC, HOWN, HBL⟩ := hrel
      have hmb : (m : Int) ≤ 9223372036854775807 := by omega
      by_cases hm0 : m = 0
      · subst hm0
        have hacc : acc = L := by
          have := HAC.out
          cases f <;> simp [decR] at this <;> exact this
        subst hacc
        have hne : acc ≠ [] := by
          intro h
          have := HL.out
          rw [h] at this
          unfold decR at this
          rw [if_neg h0] at this
          cases this
        have hlen : 1 ≤ acc.length := by cases acc with | nil => exact absurd rfl hne | cons => simp
        obtain ⟨g, cap, cur, hv, hg, hh, hc1, hc2, hc3, hc4⟩ : ∃ g cap cur, sv = .slice (some ⟨g, 0, none⟩) acc.length cap ∧ w.heap.size ≤ g ∧ wr.heap[g]? = some (.cells cur 5 (0, 0)) ∧ acc.length ≤ cap ∧ cap ≤ maxLen ∧ cur.size = cap * 1 ∧ cur.toList.take (acc.length * 1) = Lib.byteCells acc := by
          rcases HOWN.out.2 with ⟨_, h⟩ | h
          · omega
          · exact h
        subst hv
        have HCELL : Hid (∀ j, j < acc.length → wr.cell? ⟨g, j, none⟩ = some (.int .u8 (swapAt acc 0 j).toNat)) := fun j hj => by
          rw [blk_cell hh]
          have h1 := congrArg (fun l => l[j]?) hc4
          simp only [List.getElem?_take, Nat.mul_one, if_pos hj, Array.getElem?_toList] at h1
          rw [h1]
          simp [Lib.byteCells, swapAt, hj]
        have hfr := blk_free hh
        have hglt := blk_lt hh
        have HFR := Lib.hid hfr
        clear hc3 hc4 hh hfr HOWN
        go_wp2_with fail
        go_loopw [6] (fun v6 wr2 => ∃ k : Nat, v6 = .int .i64 k ∧ k ≤ acc.length / 2 ∧ Hid (∀ j, j < acc.length → wr2.cell? ⟨g, j, none⟩ = some (.int .u8 (swapAt acc k j).toNat)) ∧ Hid (∀ j, wr2.frozen? ⟨g, j, none⟩ = false) ∧ Hid (Below w.heap.size w wr2)) (fun v6 _ => acc.length - (intOf v6).toNat)
        case atStart => exact ⟨0, by go_num, by omega, HCELL, HFR, HBL⟩
        case round =>
          obtain ⟨k, rfl, hk, HC, HF, HBK⟩ := hrel
          by_cases hlt : k < acc.length / 2
          · have hkz : (k : Int) < (acc.length : Int) / 2 := by omega
            have hcA := HC.out k (by omega)
            have hcB := HC.out (acc.length - 1 - k) (by omega)
            have hfA := HF.out k
            have hfB := HF.out (acc.length - 1 - k)
            have hw1 : IntKind.i64.wrap ((acc.length : Int) - 1) = ((acc.length - 1 : Nat) : Int) := by unfold IntKind.wrap; simp [IntKind.bits, IntKind.signed]; omega
            have hw2 : IntKind.i64.wrap (((acc.length - 1 : Nat) : Int) - k) = ((acc.length - 1 - k : Nat) : Int) := by unfold IntKind.wrap; simp [IntKind.bits, IntKind.signed]; omega
            obtain ⟨M1, hM1⟩ : ∃ M1, acc.length - 1 = M1 := ⟨_, rfl⟩
            rw [hM1] at hw1 hw2 hcB hfB
            obtain ⟨M2, hM2⟩ : ∃ M2, M1 - k = M2 := ⟨_, rfl⟩
            rw [hM2] at hw2 hcB hfB
            have hb1 : (M2 : Int) < acc.length := by omega
            have hb2 : (k : Int) < acc.length := by omega
            have hb3 : M2 < acc.length := by omega
            have hb4 : k < acc.length := by omega
            have hb5 : ¬ k = M2 := by omega
            have hb6 : ¬ M2 = k := by omega
            go_wp2_with fail
            refine wp_region_plan [(0, 0), (1, 0), (2, 0), (3, 0), (4, 0), (5, 0), (6, 0), (7, 0), (8, 0), (9, 0), (10, 0), (11, 0), (12, 0), (13, 0), (14, 0), (15, 3), (16, 0), (17, 0), (18, 0), (19, 3)] (fun w' => w'.cell? ⟨g, k, none⟩ = some (.int .u8 (swapAt acc k k).toNat) ∧ w'.cell? ⟨g, M2, none⟩ = some (.int .u8 (swapAt acc k M2).toNat)) (by kernel_rfl) (by kernel_rfl) (fun _ _ d _ _ h => by cases d <;> exact h) (by refine ⟨?_, ?_⟩ <;> go_simp) ?_
            simp only [planOps, List.filterMap_cons, List.filterMap_nil, List.getElem?_toArray, List.getElem?_cons_zero, List.getElem?_cons_succ, Option.map_some, List.drop_succ_cons, List.drop_zero, List.length_cons, List.length_nil]
            iterate 15 (refine plan_pure (by rfl) (fun wq => by go_simp; with_reducible rfl) ?_; simp only [Act.put, List.setIfInBounds_toArray, List.set_cons_zero, List.set_cons_succ])
            iterate 1 (refine plan_load (by rfl) (fun wq hq => by obtain ⟨hq0, hq1⟩ := hq; go_simp; with_reducible rfl) ?_; simp only [Act.put, List.setIfInBounds_toArray, List.set_cons_zero, List.set_cons_succ])
            iterate 3 (refine plan_pure (by rfl) (fun wq => by go_simp; with_reducible rfl) ?_; simp only [Act.put, List.setIfInBounds_toArray, List.set_cons_zero, List.set_cons_succ])
            iterate 1 (refine plan_load (by rfl) (fun wq hq => by obtain ⟨hq0, hq1⟩ := hq; go_simp; with_reducible rfl) ?_; simp only [Act.put, List.setIfInBounds_toArray, List.set_cons_zero, List.set_cons_succ])
            refine plan_done ?_
            go_wp2_with fail
            go_roundw
            case rel =>
              refine ⟨k + 1, by go_num, by omega, fun j hj => ?_, fun j => ?_, ?_⟩
              · have hsw : ∀ a b c d : UInt8, True := fun _ _ _ _ => trivial
                have hj1 := HC.out j hj
                by_cases ej : j = k
                · subst ej
                  go_simp
                  rw [show M2 = acc.length - 1 - j by omega, swap_lo acc j hlt]
                · by_cases ej2 : j = M2
                  · subst ej2
                    go_simp
                    rw [show j = acc.length - 1 - k by omega, swap_hi acc k hlt]
                  · go_simp
                    rw [swap_ne acc k j hlt hj ej (by omega)]
              · have := HF.out j
                go_simp
              · exact (((HBK.out.drew).setCell (p := ⟨g, k, none⟩) hg _).setCell (p := ⟨g, M2, none⟩) hg _)
            case measure => simp [intOf]; omega
          · have hkz : ¬ (k : Int) < (acc.length : Int) / 2 := by omega
            have hconv := run_convert_bytes_back (P := Tryd.prog) wr 44 9 5 ⟨g, 0, none⟩ cap acc.reverse Tryd.underlying44 Tryd.underlying5 Tryd.underlying9 (fun j hj => by
              have hj' : j < acc.length := by simpa using hj
              have hadd : (⟨g, 0, none⟩ : Addr).add j = ⟨g, j, none⟩ := by unfold Addr.add; split <;> simp_all
              rw [hadd, HC.out j hj']
              have hsw : swapAt acc k j = acc.reverse[j] := by
                unfold swapAt
                split
                · rw [List.getD_eq_getElem?_getD, List.getElem?_eq_getElem hj]; rfl
                · have hjj : j = acc.length - 1 - j := by omega
                  rw [List.getD_eq_getElem?_getD, List.getElem?_eq_getElem hj', List.getElem_reverse]
                  simp only [Option.getD_some]
                  congr 1
              rw [hsw])
            rw [List.length_reverse] at hconv
            go_wp2_with fail
            go_ret
            exact ⟨rfl, HBK.out⟩
      · have hmz : ((m : Int) == 0) = false := by rw [beq_eq_false_iff_ne]; omega
        obtain ⟨f, rfl⟩ : ∃ q, f = q + 1 := by
          cases f with
          | zero => simp at hf; omega
          | succ q => exact ⟨q, rfl⟩
        have hcv : ((UInt8.ofNat (48 + m % 10)).toNat : Int) = 48 + (m : Int) % 10 := by
          rw [UInt8.toNat_ofNat']
          omega
        have hdc : decR (f + 1) m = UInt8.ofNat (48 + m % 10) :: decR f (m / 10) := if_neg hm0
        have hm10 : m / 10 < 10 ^ f := by
          rw [Nat.pow_succ] at hf
          omega
        have HDC := Lib.hid hdc
        have HCV := Lib.hid hcv
        have hwsz := HBL.out.size
        clear hdc hcv
        go_wp2_with (
          (at_builtin
           refine wpList_append_own _ rfl _ _ 44 rfl w.heap.size 5 i0 _ 1 1 Tryd.underlying44 hi hz0 hz1 hz2 rfl (by decide) sv _ _ rfl (HOWN.out.alloc _) ⟨wr.heap.size, 0, none⟩ 1 1 [.int .u8 (48 + (m : Int) % 10)] rfl rfl ?_ ?_ ?_ ?_ ?_ ?_
           · exact new_cells' wr _ _
           · simp [Value.oneCell']
           · unfold maxLen; omega
           · omega
           · simp; omega
           intro v2 w2 hown2 hgr2 _
           have HB2 := Lib.hid ((HBL.out.alloc hwsz (.cells #[.int .u8 (48 + (m : Int) % 10)] 5)).grown hgr2 (by simp; omega) (fun k hk => (HOWN.out.lt k hk).1))
           have HO := Lib.hid hown2
           clear hown2 hgr2))
        go_roundw
        case rel =>
          refine ⟨f, m / 10, acc ++ [UInt8.ofNat (48 + m % 10)], v2, rfl, by go_num, by omega, hm10, by rw [List.length_append, List.length_singleton]; omega, ?_, ?_, HB2⟩
          · unfold Hid
            have h := HAC.out
            rw [HDC.out] at h
            rw [List.append_assoc]
            exact h
          · have h := HO.out
            have e : Lib.byteCells (acc ++ [UInt8.ofNat (48 + m % 10)]) = Lib.byteCells acc ++ [.int .u8 (48 + (m : Int) % 10)] := by
              rw [← HCV.out]
              simp [Lib.byteCells]
            rw [e, List.length_append, List.length_singleton]
            exact h
        case measure => simp [intOf]; omega
end Go.Proofs.YtadenjlehhopmaaDoor
