/- 'sign'; what the library's tables hold. -/
import Derived.Test.YtadenjlehhopmaaDoorB5
namespace Go.Proofs.YtadenjlehhopmaaDoor
set_option linter.unusedSimpArgs false
set_option linter.unusedVariables false
open Go Go.RowKit Lx
/-- The variables of the library that the scanner's road reads. -/
structure Gl (w : World) : Prop where
  utf : Lib.Utf8Tabs 0 1 w
  space : Lib.TabIs Tryd.prog w "strings.asciiSpace" .u8 Lib.asciiSpaceTab
  maxLen : ∃ m, w.cell? ⟨4, 0, none⟩ = some (.int .i64 m)
  size : 9 ≤ w.heap.size
theorem spaceAt : Tryd.prog.globalNamed "strings.asciiSpace" = some 2 := by kernel_rfl
theorem Gl.below {B : Nat} {w w' : World} (h : Gl w) (hb : Below B w w') (hB : 9 ≤ B) : Gl w' := by
  obtain ⟨h1, h2, ⟨m, h3⟩, h4⟩ := h
  refine ⟨⟨fun c hc => ?_, fun i hi => ⟨?_, ?_⟩⟩, ?_, ⟨m, ?_⟩, by have := hb.size; omega⟩
  · rw [hb.cell (p := ⟨0, c, none⟩) (show 0 < B by omega)]; exact h1.1 c hc
  · rw [hb.cell (p := ⟨1, 2 * i, none⟩) (show 1 < B by omega)]; exact (h1.2 i hi).1
  · rw [hb.cell (p := ⟨1, 2 * i + 1, none⟩) (show 1 < B by omega)]; exact (h1.2 i hi).2
  · unfold Lib.TabIs World.var? at h2 ⊢
    rw [spaceAt] at h2 ⊢
    simp only [Option.bind_some] at h2 ⊢
    rw [hb.block 2 (by omega)]
    exact h2
  · rw [hb.cell (p := ⟨4, 0, none⟩) (show 4 < B by omega)]; exact h3
theorem Gl.drew {w : World} (h : Gl w) : Gl w.drew := ⟨h.utf, h.space, h.maxLen, h.size⟩
def signBytes : Bs := [61, 61, 32, 126, 61, 32, 60, 61, 32, 62, 61, 32, 47, 47, 32, 46, 46, 32, 43, 32, 45, 32, 42, 32, 37, 32, 60, 32, 62, 32, 61, 32, 35, 32, 40, 32, 41, 32, 123, 32, 125, 32, 91, 32, 93, 32, 59, 32, 44, 32, 46]
theorem fields_signs : Lib.fields signBytes = signList := by decide +kernel
theorem fields_any (w : World) (h : Gl w) : Calls Tryd.prog 67 #[.string (str signBytes)] w fun e w' =>
    e = .returned (.slice (some ⟨w.heap.size, 0, none⟩) 23 23) ∧ w.alloc (.cells (signList.map fun l => Value.string (str l)).toArray 9) = w' := by
  have h1 := Tryd.strings_Fields (str signBytes) w (by rw [str_size]; decide) (by
    intro j b hj
    have hb : b ∈ signBytes := by
      have : (str signBytes).data.toList = signBytes := bs_str signBytes
      rw [this] at hj
      exact List.mem_of_getElem? hj
    revert b
    have : ∀ b ∈ signBytes, b.toNat < 128 := by decide
    intro b _ hb
    exact this b hb) h.space
  have e : (str signBytes).data.toList = signBytes := bs_str signBytes
  rw [e, fields_signs] at h1
  exact h1.mono fun _ _ ⟨a, b⟩ => ⟨a, b.symm⟩
/-- What 'sign' comes to. -/
def SignEnd (r : Option Bs) (B sb at_ : Nat) (src : ByteArray) (l : List Tok) (w : World) (e : Ending) (w' : World) : Prop :=
  match r with
  | none => e = failEnd 4 at_ ∧ Below B w w'
  | some s => e = .returned (.tuple #[]) ∧ Sc B sb src (at_ + s.length) (l ++ [⟨5, s, 0, at_⟩]) w' ∧ Below B w w'
set_option maxHeartbeats 4000000 in
set_option maxRecDepth 100000 in
theorem sign_any (B sb at_ : Nat) (src : ByteArray) (l : List Tok) (w : World) (h : Sc B sb src at_ l w) (hg : Gl w) (hat : at_ ≤ src.size) (hs : src.size ≤ 100000) (hll : l.length ≤ 100000) (hBw : B ≤ w.heap.size) :
    Calls Tryd.prog 48 #[.pointer (some ⟨sb, 0, none⟩)] w (SignEnd (signF ((bs src).drop at_)) B sb at_ src l w) := by
  obtain ⟨R9, hR9⟩ : ∃ R9, signF ((bs src).drop at_) = R9 := ⟨_, rfl⟩
  rw [hR9]
  have HR9 := Lib.hid hR9
  have HF := Lib.hid (fields_any w hg)
  have HSC := Lib.hid h
  have hatz : (at_ : Int) ≤ src.size := by omega
  have hatz2 : (at_ : Int) ≤ 100000 := by omega
  clear hR9 h hg
  go_enter Tryd.func48, Tryd.ntmps48
  go_wp2_with fail
  refine HF.out.mono ?_
  rintro e w' ⟨rfl, rfl⟩
  go_wp2_with fail
  have HB0 := Lib.hid ((Below.refl w.heap.size w).alloc (Nat.le_refl _) (.cells (signList.map fun l => Value.string (str l)).toArray 9))
  have HBLK := Lib.hid (blk_new w (.cells (signList.map fun l => Value.string (str l)).toArray 9))
  generalize w.alloc (.cells (signList.map fun l => Value.string (str l)).toArray 9) = w1 at *
  go_loopw [6] (fun iv wr => ∃ k : Nat, k ≤ 23 ∧ iv = .int .i64 k ∧ Hid ((signList.drop k).find? (fun s => s.isPrefixOf ((bs src).drop at_)) = R9) ∧ Hid (Below (w.heap.size + 1) w1 wr)) (fun iv _ => 23 - (intOf iv).toNat)
  case atStart => exact ⟨0, by omega, rfl, HR9.out, Below.refl _ _⟩
  case round =>
    obtain ⟨k, hk, rfl, HG, HBL⟩ := hrel
    have hw1 := HB0.out.size
    have HB9 := Lib.hid (HB0.out.trans (HBL.out.mono (Nat.le_succ _)))
    have HSC2 := Lib.hid (HSC.out.later HB9.out)
    obtain ⟨hb, c0, c1⟩ := HSC2.out.reads
    by_cases hlt : k < 23
    · have hkz : (k : Int) < 23 := by omega
      obtain ⟨s, hsk⟩ : ∃ s, signList[k]? = some s := ⟨_, List.getElem?_eq_getElem (show k < signList.length from hlt)⟩
      have hcell : wr.cell? ⟨w.heap.size, k, none⟩ = some (.string (str s)) := by
        rw [blk_cell (blk_below HBL.out (by omega) HBLK.out)]
        simp [hsk]
      have hdrop : signList.drop k = s :: signList.drop (k + 1) := by
        rw [List.drop_eq_getElem_cons (show k < signList.length from hlt)]
        congr 1
        rw [List.getElem?_eq_getElem (show k < signList.length from hlt)] at hsk
        exact Option.some.inj hsk
      have HD := Lib.hid hdrop
      have hslen : s.length ≤ 2 := by
        have : ∀ x ∈ signList, x.length ≤ 2 := by decide
        exact this s (List.mem_of_getElem? hsk)
      have HSK := Lib.hid hsk
      clear hdrop hsk
      go_wp2_with fail
      refine wp_region_plan [(0, 0), (1, 0), (2, 0), (3, 3), (4, 0), (5, 0), (6, 0), (7, 3), (8, 0), (9, 0)] (fun w' => w'.cell? ⟨sb, 0, none⟩ = some (.string src) ∧ w'.cell? ⟨sb, 1, none⟩ = some (.int .i64 at_)) (by kernel_rfl) (by kernel_rfl) (fun _ _ d _ _ h => by cases d <;> exact h) (by refine ⟨?_, ?_⟩ <;> go_simp) ?_
      simp only [planOps, List.filterMap_cons, List.filterMap_nil, List.getElem?_toArray, List.getElem?_cons_zero, List.getElem?_cons_succ, Option.map_some, List.drop_succ_cons, List.drop_zero, List.length_cons, List.length_nil]
      iterate 3 (refine plan_pure (by rfl) (fun wq => by go_simp; with_reducible rfl) ?_; simp only [Act.put, List.setIfInBounds_toArray, List.set_cons_zero, List.set_cons_succ])
      iterate 1 (refine plan_load (by rfl) (fun wq hq => by obtain ⟨hq0, hq1⟩ := hq; go_simp; with_reducible rfl) ?_; simp only [Act.put, List.setIfInBounds_toArray, List.set_cons_zero, List.set_cons_succ])
      iterate 3 (refine plan_pure (by rfl) (fun wq => by go_simp; with_reducible rfl) ?_; simp only [Act.put, List.setIfInBounds_toArray, List.set_cons_zero, List.set_cons_succ])
      iterate 1 (refine plan_load (by rfl) (fun wq hq => by obtain ⟨hq0, hq1⟩ := hq; go_simp; with_reducible rfl) ?_; simp only [Act.put, List.setIfInBounds_toArray, List.set_cons_zero, List.set_cons_succ])
      iterate 2 (refine plan_pure (by rfl) (fun wq => by go_simp; with_reducible rfl) ?_; simp only [Act.put, List.setIfInBounds_toArray, List.set_cons_zero, List.set_cons_succ])
      refine plan_done ?_
      go_wp2_with fail
      have hpf := prefix_any (src.extract at_ src.size) s wr.drew
      rw [bs_tail] at hpf
      refine hpf.mono ?_
      rintro e w' ⟨rfl, rfl⟩
      cases hp : s.isPrefixOf ((bs src).drop at_) with
      | true =>
        have HP := Lib.hid hp
        clear hp hpf
        have HADD := Lib.hid (fun hB' => add_any B sb at_ src l s.length 5 0 0 (str s) wr.drew HSC2.out.drew hB' hll (by omega))
        have hsz : ((str s).size : Int) = s.length := by rw [str_size]
        go_wp2_with fail
        refine (HADD.out (by have := HB9.out.size; simp; omega)).mono ?_
        rintro e w3 ⟨rfl, hsc3, hb3⟩
        go_wp2_with fail
        refine bodyPost_ret (results_none rfl _ _ _) rfl ?_
        have hg := HG.out
        rw [HD.out, List.find?_cons, HP.out] at hg
        rw [← hg]
        rw [bs_str] at hsc3
        exact ⟨rfl, hsc3, (HB9.out.drew.mono hBw).trans hb3⟩
      | false =>
        have HP := Lib.hid hp
        clear hp hpf
        go_wp2_with fail
        go_roundw
        case rel =>
          refine ⟨k + 1, by omega, by go_num, ?_, HBL.out.drew⟩
          have hg := HG.out
          rw [HD.out, List.find?_cons, HP.out] at hg
          exact hg
        case measure => simp [intOf]; omega
    · have hkz : ¬ (k : Int) < 23 := by omega
      go_wp2_with fail
      refine (fail_any _ _ _).mono ?_
      rintro e w' ⟨rfl, rfl⟩
      go_wp2_with fail
      refine ⟨rfl, ?_⟩
      have hg := HG.out
      rw [List.drop_of_length_le (show signList.length ≤ k by show 23 ≤ k; omega)] at hg
      rw [← hg]
      exact ⟨rfl, HB9.out.mono hBw⟩
end Go.Proofs.YtadenjlehhopmaaDoor
