/- strings.Builder: copyCheck, WriteByte, WriteString. -/
import Derived.Test.YtadenjlehhopmaaDoorA9
namespace Go.Proofs.YtadenjlehhopmaaDoor
set_option linter.unusedSimpArgs false
set_option linter.unusedVariables false
open Go Go.RowKit Lx
theorem sizeBuilder : (Tryd.prog.info? 60).map (·.size) = some 2 := by kernel_rfl
theorem liesBuilder : liesAt Tryd.prog Tryd.prog.depth 60 (2 / Tryd.prog.cellsOf 60) 0 60 1 = true := by kernel_rfl
theorem infoByte : (Tryd.prog.info? 5).map (fun i => (i.zero, i.size, i.bytes)) = some (some (.int .u8 0), 1, 1) := by kernel_rfl
set_option maxHeartbeats 1000000 in
set_option maxRecDepth 100000 in
theorem check_used (b : Nat) (w : World) (h0 : w.cell? ⟨b, 0, none⟩ = some (.pointer (some ⟨b, 0, none⟩))) :
    Calls Tryd.prog 51 #[.pointer (some ⟨b, 0, none⟩)] w fun e w' => e = .returned (.tuple #[]) ∧ w = w' := by
  obtain ⟨j, hj, _⟩ := Option.map_eq_some_iff.1 sizeBuilder
  go_enter Tryd.func51, Tryd.ntmps51
  go_wp2
  rw [Lib.run_neq_ptr_same w _ Tryd.underlying58 hj]
  go_wp2
  go_end0
  exact ⟨rfl, rfl⟩
set_option maxHeartbeats 1000000 in
set_option maxRecDepth 100000 in
theorem check_fresh (b : Nat) (w : World) (h0 : w.cell? ⟨b, 0, none⟩ = some (.pointer none)) (hsh : w.shape? b = some (60, 2)) (hfz : w.frozen? ⟨b, 0, none⟩ = false) :
    Calls Tryd.prog 51 #[.pointer (some ⟨b, 0, none⟩)] w fun e w' => e = .returned (.tuple #[]) ∧ w.setCell ⟨b, 0, none⟩ (.pointer (some ⟨b, 0, none⟩)) = w' := by
  obtain ⟨j, hj, hjs⟩ := Option.map_eq_some_iff.1 sizeBuilder
  go_enter Tryd.func51, Tryd.ntmps51
  go_wp2
  rw [Lib.run_to_unsafe w ⟨b, 0, none⟩ Tryd.underlying58 Tryd.underlying97 hj (by rw [hjs]; decide) hsh (Nat.zero_lt_succ 1)]
  simp only [Result.andThen]
  rw [Oper.upon_value]
  go_wp2
  rw [run_callFunc_extern Tryd.func71 (by kernel_rfl) (by kernel_rfl) (by kernel_rfl) (e := Extern.AbiNoEscape.same) (by kernel_rfl)]
  rw [Lib.run_noEscape]
  simp only [Result.andThen]
  rw [Oper.upon_value]
  go_wp2
  rw [Lib.run_from_unsafe w ⟨b, 0, none⟩ Tryd.underlying97 Tryd.underlying58 hj hsh liesBuilder]
  simp only [Result.andThen]
  rw [Oper.upon_value]
  go_wp2
  go_end0
  exact ⟨rfl, rfl⟩
/-- A builder of the call's own, at block b. -/
abbrev Bd (B b : Nat) (l : Bs) (w : World) : Prop := Lib.IsBuilder 60 5 B b (Lib.byteCells l) w
theorem byteCells_len (l : Bs) : (Lib.byteCells l).length = l.length := by simp [Lib.byteCells]
/-- Behind copyCheck. -/
def Used (B b : Nat) (l : Bs) (w : World) : Prop := Lib.BuilderAt 60 5 B b (.pointer (some ⟨b, 0, none⟩)) (Lib.byteCells l) w
theorem check_any (B b : Nat) (l : Bs) (w : World) (h : Bd B b l w) :
    Calls Tryd.prog 51 #[.pointer (some ⟨b, 0, none⟩)] w fun e w' => e = .returned (.tuple #[]) ∧ Used B b l w' ∧ Below B w w' ∧ w'.heap.size = w.heap.size := by
  rcases h with h | h
  · obtain ⟨hB, v, hb, ho, hne⟩ := h
    refine (check_fresh b w (by rw [blk_cell hb]; rfl) (by simp [World.shape?, hb]) (blk_free hb 0)).mono ?_
    rintro e w' ⟨rfl, rfl⟩
    refine ⟨rfl, ⟨hB, v, by rw [blk_set hb]; rfl, ⟨ho.1, ?_⟩, hne⟩, (Below.refl B w).setCell hB _, by simp⟩
    rcases ho.2 with h | ⟨g, cap, cur, hv, hg, hh, r⟩
    · exact .inl h
    · refine .inr ⟨g, cap, cur, hv, hg, blk_set_ne hh (fun e => ?_) _, r⟩
      subst hv
      exact hne (congrArg some e.symm)
  · have h' := h
    obtain ⟨hB, v, hb, ho, hne⟩ := h
    refine (check_used b w (by rw [blk_cell hb]; rfl)).mono ?_
    rintro e w' ⟨rfl, rfl⟩
    exact ⟨rfl, h', Below.refl _ _, rfl⟩
set_option maxHeartbeats 1000000 in
set_option maxRecDepth 100000 in
theorem wbyte_any (B b : Nat) (l : Bs) (c : UInt8) (w : World) (h : Bd B b l w) (hlen : l.length ≤ 1000000) (hBw : B ≤ w.heap.size) :
    Calls Tryd.prog 31 #[.pointer (some ⟨b, 0, none⟩), .int .u8 c.toNat] w fun e w' => e = .returned .nilIface ∧ Bd B b (l ++ [c]) w' ∧ Below B w w' := by
  have HC := Lib.hid (check_any B b l w h)
  clear h
  obtain ⟨i0, hi, hz0, hz1, hz2⟩ := info_parts infoByte
  go_enter Tryd.func31, Tryd.ntmps31
  go_wp2_with fail
  refine HC.out.mono ?_
  rintro e w1 ⟨rfl, hu, hb1, hsz⟩
  obtain ⟨hB, v, hblk, hown, hne⟩ := hu
  have hlt := blk_lt hblk
  have c1 : w1.cell? ⟨b, 1, none⟩ = some v := by rw [blk_cell hblk]; rfl
  have HB := Lib.hid hblk
  have HB1 := Lib.hid hb1
  have hB1 : B ≤ w1.heap.size := by have := hb1.size; omega
  have HSZ := Lib.hid hsz
  clear hblk hb1 hsz
  go_wp2_with (
    (at_builtin
     refine wpList_append_own _ rfl _ _ 44 rfl B 5 i0 _ 1 1 Tryd.underlying44 hi hz0 hz1 hz2 rfl (by decide) v _ _ rfl (hown.alloc _) ⟨w1.heap.size, 0, none⟩ 1 1 [.int .u8 c.toNat] rfl rfl ?_ ?_ ?_ ?_ ?_ ?_
     · exact new_cells' w1 _ _
     · simp [Value.oneCell']
     · rw [byteCells_len]; unfold maxLen; omega
     · rw [byteCells_len]; omega
     · simp; omega
     intro v2 w2 hown2 hgr2 _
     have HB2 := Lib.hid (blk_grown hgr2 hne (blk_alloc HB.out))
     rw [byteCells_len] at hown2
     obtain ⟨g2, cap2, hv2, hg2, hne2⟩ := owns_shape hown2 HB2.out (by decide)
     rw [hv2]
     have d1 : w2.cell? ⟨b, 1, none⟩ = some v := by rw [blk_cell HB2.out]; rfl
     have e1 := blk_free HB2.out 1
     have HO := Lib.hid hown2
     have HG := Lib.hid hgr2
     have HV := Lib.hid hv2
     clear hown2 hgr2 hv2 c1))
  go_ret
  have hb2 := ((Below.refl B w1).alloc hB1 _).grown HG.out (by simp; omega) (fun k hk => (hown.lt k hk).1)
  refine ⟨rfl, .inr ⟨hB, .slice (some ⟨g2, 0, none⟩) (l.length + 1) cap2, ?_, ?_, fun h => hne2 (Option.some.inj h)⟩, HB1.out.trans (hb2.setCell hB _)⟩
  · rw [blk_set HB2.out 1 _]; simp
  · have ho := HO.out
    rw [HV.out] at ho
    have e : Lib.byteCells (l ++ [c]) = Lib.byteCells l ++ [.int .u8 c.toNat] := by simp [Lib.byteCells]
    rw [byteCells_len, List.length_append, List.length_singleton, e]
    refine ⟨ho.1, ?_⟩
    rcases ho.2 with ⟨h, _⟩ | ⟨g, cap, cur, hv, hg, hh, r⟩
    · cases h
    · cases hv
      exact .inr ⟨g2, cap2, cur, rfl, hg, blk_set_ne hh (fun h => hne2 h.symm) _, r⟩
set_option maxHeartbeats 1000000 in
set_option maxRecDepth 100000 in
theorem wstring_any (B b : Nat) (l : Bs) (s : ByteArray) (w : World) (h : Bd B b l w) (hlen : l.length ≤ 1000000000) (hs : s.size ≤ 1000000000) (hBw : B ≤ w.heap.size) :
    Calls Tryd.prog 33 #[.pointer (some ⟨b, 0, none⟩), .string s] w fun e w' => e = .returned (.tuple #[.int .i64 s.size, .nilIface]) ∧ Bd B b (l ++ bs s) w' ∧ Below B w w' := by
  have HC := Lib.hid (check_any B b l w h)
  clear h
  obtain ⟨i0, hi, hz0, hz1, hz2⟩ := info_parts infoByte
  go_enter Tryd.func33, Tryd.ntmps33
  go_wp2_with fail
  refine HC.out.mono ?_
  rintro e w1 ⟨rfl, hu, hb1, hsz⟩
  obtain ⟨hB, v, hblk, hown, hne⟩ := hu
  have hlt := blk_lt hblk
  have c1 : w1.cell? ⟨b, 1, none⟩ = some v := by rw [blk_cell hblk]; rfl
  have HB := Lib.hid hblk
  have HB1 := Lib.hid hb1
  have hB1 : B ≤ w1.heap.size := by have := hb1.size; omega
  have HSZ := Lib.hid hsz
  clear hblk hb1 hsz
  go_wp2_with (
    (at_builtin
     refine Lib.wpList_append_own_string _ rfl _ _ 44 9 rfl B 5 i0 Tryd.underlying44 Tryd.underlying9 hi hz0 hz1 hz2 _ _ _ rfl hown s rfl ?_ ?_ ?_ ?_
     · rw [byteCells_len]; unfold maxLen; omega
     · rw [byteCells_len]; omega
     · exact hB1
     intro v2 w2 hown2 hgr2 _
     have HB2 := Lib.hid (blk_grown hgr2 hne HB.out)
     rw [byteCells_len] at hown2
     obtain ⟨ao, n2, cap2, hv2, hne2⟩ : ∃ ao n' cap, v2 = .slice ao n' cap ∧ v2.ownBlock ≠ some b := by
       rcases hown2.2 with ⟨hv, _⟩ | ⟨g, cap, cur, hv, hg, hh, _⟩
       · exact ⟨_, _, _, hv, by rw [hv]; simp [Value.ownBlock]⟩
       · refine ⟨_, _, _, hv, ?_⟩
         rw [hv]
         intro h
         have hgb : g = b := Option.some.inj h
         subst hgb
         have := HB2.out
         rw [hh] at this
         cases this
     rw [hv2]
     have d1 : w2.cell? ⟨b, 1, none⟩ = some v := by rw [blk_cell HB2.out]; rfl
     have e1 := blk_free HB2.out 1
     have HO := Lib.hid hown2
     have HG := Lib.hid hgr2
     have HV := Lib.hid hv2
     have HNE := Lib.hid hne2
     clear hown2 hgr2 hv2 c1 hne2))
  go_ret2
  have hb2 := (Below.refl B w1).grown HG.out hB1 (fun k hk => (hown.lt k hk).1)
  have hne2 := HNE.out
  rw [HV.out] at hne2
  refine ⟨rfl, .inr ⟨hB, .slice ao n2 cap2, ?_, ?_, hne2⟩, HB1.out.trans (hb2.setCell hB _)⟩
  · rw [blk_set HB2.out 1 _]; simp
  · have ho := HO.out
    rw [HV.out] at ho
    have e : Lib.byteCells (l ++ bs s) = Lib.byteCells l ++ Lib.strCells s := by simp [Lib.byteCells, Lib.strCells, bs]
    rw [byteCells_len, List.length_append, bs_length, e]
    refine ⟨ho.1, ?_⟩
    rcases ho.2 with h | ⟨g, cap, cur, hv, hg, hh, r⟩
    · exact .inl h
    · refine .inr ⟨g, cap, cur, hv, hg, blk_set_ne hh (fun h => ?_) _, r⟩
      rw [hv] at hne2
      exact hne2 (congrArg some h.symm)
theorem blen_any (B b : Nat) (l : Bs) (w : World) (h : Bd B b l w) :
    Calls Tryd.prog 57 #[.pointer (some ⟨b, 0, none⟩)] w fun e w' => e = .returned (.int .i64 l.length) ∧ w = w' := by
  obtain ⟨p, hB, v, hblk, hown, hne⟩ : ∃ p, B ≤ b ∧ ∃ v, w.heap[b]? = some (.cells #[p, v] 60) ∧ w.ownsRow B 5 1 v (Lib.byteCells l).length (Lib.byteCells l) ∧ v.ownBlock ≠ some b := by
    rcases h with ⟨h1, v, h2⟩ | ⟨h1, v, h2⟩
    · exact ⟨_, h1, v, h2⟩
    · exact ⟨_, h1, v, h2⟩
  obtain ⟨ao, cap, hv⟩ : ∃ ao cap, v = .slice ao l.length cap := by
    rcases hown.2 with ⟨hv, h0⟩ | ⟨g, cap, cur, hv, _⟩
    · rw [byteCells_len] at h0; rw [h0]; exact ⟨_, _, hv⟩
    · rw [byteCells_len] at hv; exact ⟨_, _, hv⟩
  have c1 : w.cell? ⟨b, 1, none⟩ = some (.slice ao l.length cap) := by rw [blk_cell hblk, ← hv]; rfl
  clear hblk hown hne hv h
  go_enter Tryd.func57, Tryd.ntmps57
  go_wp2
  go_ret
  exact ⟨rfl, rfl⟩
end Go.Proofs.YtadenjlehhopmaaDoor
