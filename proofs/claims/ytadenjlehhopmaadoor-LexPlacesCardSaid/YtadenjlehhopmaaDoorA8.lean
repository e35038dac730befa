/- Numerals: 'size' at every text; the deferred closure of 'read'; 'read'; 'Parse'. -/
import Derived.Test.YtadenjlehhopmaaDoorA7
namespace Go.Proofs.YtadenjlehhopmaaDoor
set_option linter.unusedSimpArgs false
set_option linter.unusedVariables false
open Go Go.RowKit Lx
theorem cut_any (s : ByteArray) (p : Bs) (w : World) : Calls Tryd.prog 100 #[.string s, .string (str p)] w fun e w' =>
    e = .returned (.tuple #[.string (str (if p.isPrefixOf (bs s) then (bs s).drop p.length else bs s)), .bool (p.isPrefixOf (bs s))]) ∧ w = w' :=
  (Tryd.strings_CutPrefix s (str p) w).mono fun _ _ ⟨h1, h2⟩ => ⟨by rw [h1]; simp [str, bs, Lib.trimPrefix, Lib.hasPrefix], h2.symm⟩
/-- What 'size' answers. -/
def sizeS (l : Bs) : Option Nat :=
  let rest := if hexHead l then l.drop 2 else l
  if rest = [] then none else sizeL (hexHead l) 0 rest
theorem size_any (s : ByteArray) (w : World) (hs : s.size ≤ 1000000) : Calls Tryd.prog 89 #[.string s] w (SizeEnd (sizeS (bs s)) (hexHead (bs s)) w) := by
  have h0 := fun w => cut_any s [48, 120] w
  have h1 := fun w => cut_any s [48, 88] w
  have hl := bs_length s
  have hstr : ∀ l : Bs, l.length ≤ 1000000 → (str l).size ≤ 1000000 := fun l h => by rw [str_size]; exact h
  by_cases p0 : [48, 120].isPrefixOf (bs s) = true
  · have hh : hexHead (bs s) = true := by simp [hexHead, p0]
    simp only [p0, if_true] at h0
    unfold sizeS
    rw [hh]
    simp only [if_true]
    by_cases hn : (bs s).drop 2 = []
    · rw [if_pos hn]
      have hn' : (str ((bs s).drop [48, 120].length)).toList.isEmpty = true := by rw [Lib.toList_data]; show ((str ((bs s).drop 2)).data.toList).isEmpty = true; rw [hn]; rfl
      have H0 := Lib.hid h0
      generalize str ((bs s).drop [48, 120].length) = A at *
      clear h0 h1 hh p0 hl hstr hn
      go_enter Tryd.func89, Tryd.ntmps89
      go_wp2_with fail
      refine (H0.out _).mono ?_
      rintro e w' ⟨rfl, rfl⟩
      go_wp2_with fail
      exact ⟨rfl, rfl, Below.refl _ _⟩
    · rw [if_neg hn]
      have := size_hex s (str ((bs s).drop 2)) w hs (hstr _ (by rw [List.length_drop]; omega)) (by rw [bs_str]; exact hn) h0
      rw [bs_str] at this
      exact this
  · have p0' : [48, 120].isPrefixOf (bs s) = false := Bool.eq_false_iff.2 p0
    simp only [p0', Bool.false_eq_true, if_false] at h0
    by_cases p1 : [48, 88].isPrefixOf (bs s) = true
    · have hh : hexHead (bs s) = true := by simp [hexHead, p1]
      simp only [p1, if_true] at h1
      unfold sizeS
      rw [hh]
      simp only [if_true]
      by_cases hn : (bs s).drop 2 = []
      · rw [if_pos hn]
        have hn' : (str ((bs s).drop [48, 88].length)).toList.isEmpty = true := by rw [Lib.toList_data]; show ((str ((bs s).drop 2)).data.toList).isEmpty = true; rw [hn]; rfl
        have H0 := Lib.hid h0
        have H1 := Lib.hid h1
        generalize str ((bs s).drop [48, 88].length) = A at *
        generalize str (bs s) = A0 at *
        clear h0 h1 hh p0 p0' p1 hl hstr hn
        go_enter Tryd.func89, Tryd.ntmps89
        go_wp2_with fail
        refine (H0.out _).mono ?_
        rintro e w' ⟨rfl, rfl⟩
        go_wp2_with fail
        refine (H1.out _).mono ?_
        rintro e w' ⟨rfl, rfl⟩
        go_wp2_with fail
        exact ⟨rfl, rfl, Below.refl _ _⟩
      · rw [if_neg hn]
        have := size_hex2 s (str (bs s)) (str ((bs s).drop 2)) w hs (hstr _ (by rw [List.length_drop]; omega)) (by rw [bs_str]; exact hn) h0 h1
        rw [bs_str] at this
        exact this
    · have p1' : [48, 88].isPrefixOf (bs s) = false := Bool.eq_false_iff.2 p1
      simp only [p1', Bool.false_eq_true, if_false] at h1
      have hh : hexHead (bs s) = false := by simp [hexHead, p0', p1']
      unfold sizeS
      rw [hh]
      simp only [Bool.false_eq_true, if_false]
      by_cases hn : bs s = []
      · rw [if_pos hn]
        have hn' : (str (bs s)).toList.isEmpty = true := by rw [Lib.toList_data]; show ((str (bs s)).data.toList).isEmpty = true; rw [hn]; rfl
        have H0 := Lib.hid h0
        have H1 := Lib.hid h1
        generalize str (bs s) = A0 at *
        clear h0 h1 hh p0 p0' p1 p1' hl hstr hn
        go_enter Tryd.func89, Tryd.ntmps89
        go_wp2_with fail
        refine (H0.out _).mono ?_
        rintro e w' ⟨rfl, rfl⟩
        go_wp2_with fail
        refine (H1.out _).mono ?_
        rintro e w' ⟨rfl, rfl⟩
        go_wp2_with fail
        exact ⟨rfl, rfl, Below.refl _ _⟩
      · rw [if_neg hn]
        have := size_dec s (str (bs s)) (str (bs s)) w hs (hstr _ (by omega)) (by rw [bs_str]; exact hn) h0 h1
        rw [bs_str] at this
        exact this
/-- The deferred closure: of a frame that panics with a 'bad'. -/
theorem catch_panicking (p q : Nat) (x y c : Int) (w : World) (hp : w.cell? ⟨p, 0, none⟩ = some (.int .i64 x)) (hq : w.cell? ⟨q, 0, none⟩ = some (.int .i64 y)) (fp : w.frozen? ⟨p, 0, none⟩ = false) (fq : w.frozen? ⟨q, 0, none⟩ = false) (hne : ¬ p = q) :
    CallsD Tryd.prog 88 #[.pointer (some ⟨p, 0, none⟩), .pointer (some ⟨q, 0, none⟩)] (.panicking [{ v := .iface 114 (.agg #[.int .i64 c]), recovered := false }]) w fun e u' w' =>
      e = .returned (.tuple #[]) ∧ u' = .panicking [{ v := .iface 114 (.agg #[.int .i64 c]), recovered := true }] ∧ ((w.setCell ⟨p, 0, none⟩ (.int .i64 0)).setCell ⟨q, 0, none⟩ (.int .i64 c)).drew = w' := by
  refine callsD_of_wpS Tryd.func88 rfl fun c₀ cs hu => ?_
  have hta : ∀ w, (Instr.typeAssert (.iface 114 (.agg #[.int .i64 c])) 20 114 false).run Tryd.prog w = .ok (.agg #[.int .i64 c]) w := fun w => by kernel_rfl
  have hfa : ∀ w, (Instr.field 114 (.agg #[.int .i64 c]) 0).run Tryd.prog w = .ok (.int .i64 c) w := fun w => by kernel_rfl
  apply wpS_seq
  apply wpS_region
  simp [wpOpsS, go_sem, recoverD, hu, Tryd.ntmps88, Exit.thenS, Array.replicate_succ]
  refine wpS_of_wp ?_
  go_wp2
  refine wp_region_plan [(0, 0), (1, 0), (2, 0)] (fun _ => True) (by kernel_rfl) (by kernel_rfl) (fun _ _ d _ _ h => by cases d <;> exact h) (by trivial) ?_
  simp only [planOps, List.filterMap_cons, List.filterMap_nil, List.getElem?_toArray, List.getElem?_cons_zero, List.getElem?_cons_succ, Option.map_some, List.drop_succ_cons, List.drop_zero, List.length_cons, List.length_nil]
  iterate 3 (refine plan_pure (by rfl) (fun wq => by go_simp; with_reducible rfl) ?_; simp only [Act.put, List.setIfInBounds_toArray, List.set_cons_zero, List.set_cons_succ])
  refine plan_done ?_
  go_wp2
  simp [bodyPostS, results, Tryd.results88]
/-- Of a frame that returns. -/
theorem catch_idle (p q : Value) (w : World) :
    CallsD Tryd.prog 88 #[p, q] .returning w fun e u' w' => e = .returned (.tuple #[]) ∧ u' = .returning ∧ w = w' := by
  refine callsD_of_wpS Tryd.func88 rfl fun c₀ cs hu => ?_
  apply wpS_seq
  apply wpS_region
  simp [wpOpsS, go_sem, recoverD, hu, Tryd.ntmps88, Exit.thenS, Array.replicate_succ]
  refine wpS_of_wp ?_
  go_wp2
  cases c₀
  simp_all [bodyPostS, results, Tryd.results88]
end Go.Proofs.YtadenjlehhopmaaDoor
