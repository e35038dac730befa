/- Numerals: 'read', 'Parse'. -/
import Derived.Test.YtadenjlehhopmaaDoorA8
namespace Go.Proofs.YtadenjlehhopmaaDoor
set_option linter.unusedSimpArgs false
set_option linter.unusedVariables false
open Go Go.RowKit Lx
theorem leaves_free (w : World) (b : Nat) (v : Value) (e : TypeId) (h : w.heap[b]? = some (.cells #[v] e)) : w.cell? ⟨b, 0, none⟩ = some v ∧ w.frozen? ⟨b, 0, none⟩ = false :=
  ⟨by rw [blk_cell h]; rfl, blk_free h 0⟩
set_option maxHeartbeats 1000000 in
theorem read_none (s : ByteArray) (neg : Bool) (w : World) (hs : s.size ≤ 1000000) (hn : sizeS (bs s) = none) :
    Calls Tryd.prog 78 #[.string s, .bool neg] w fun e w' => e = .returned (.tuple #[.int .i64 0, .int .i64 4]) ∧ Below w.heap.size w w' := by
  have hsz := fun w => size_any s w hs
  rw [hn] at hsz
  have HS := Lib.hid hsz
  clear hsz
  have hmf : ∀ (fn : Fn) (first cap : Array Value) (w : World), (Instr.makeFunc fn first cap).run Tryd.prog w = .ok (.func fn first cap) w := fun _ _ _ _ => rfl
  go_enter_defers Tryd.func78, Tryd.ntmps78
  go_wp2_with fail
  refine (HS.out _).mono ?_
  rintro e w1 ⟨he, hb1⟩
  simp only [] at he
  subst he
  have hbn := blk_below hb1 (by simp; omega) (blk_alloc (blk_new w (.cells #[.int .i64 0] 3)))
  have hbe := blk_below hb1 (by simp) (blk_new (w.alloc (.cells #[.int .i64 0] 3)) (.cells #[.int .i64 0] 23))
  simp only [World.size_alloc] at hbe
  have hB := hb1.mono (B' := w.heap.size) (by simp; omega)
  have HB := Lib.hid ((((Below.refl w.heap.size w).alloc (Nat.le_refl _) _).alloc (by simp) _).trans hB)
  obtain ⟨cn, fn⟩ := leaves_free w1 _ _ _ hbn
  obtain ⟨ce, fe⟩ := leaves_free w1 _ _ _ hbe
  clear hb1 hB hbn hbe
  go_wp2_with fail
  refine leaves_cons (f := 88) (args := #[.pointer (some ⟨w.heap.size, 0, none⟩), .pointer (some ⟨w.heap.size + 1, 0, none⟩)]) (by simp) (by simp [go_sem]) ?_
  refine (catch_panicking w.heap.size (w.heap.size + 1) 0 0 _ w1 cn ce fn fe (by omega)).mono ?_
  rintro e u' w'' ⟨rfl, rfl, rfl⟩
  have hne : ¬ w.heap.size + 1 = w.heap.size := by omega
  have hn0 : ((w1.setCell ⟨w.heap.size, 0, none⟩ (.int .i64 0)).setCell ⟨w.heap.size + 1, 0, none⟩ (.int .i64 4)).drew.cell? ⟨w.heap.size, 0, none⟩ = some (.int .i64 0) := by
    rw [World.cell?_drew, World.cell?_setCell_other _ _ _ _ (by simp), World.cell?_setCell_same _ _ _ cn]
  have hn1 : ((w1.setCell ⟨w.heap.size, 0, none⟩ (.int .i64 0)).setCell ⟨w.heap.size + 1, 0, none⟩ (.int .i64 4)).drew.cell? ⟨w.heap.size + 1, 0, none⟩ = some (.int .i64 4) := by
    rw [World.cell?_drew]
    exact World.cell?_setCell_same _ _ _ ((World.cell?_setCell_other _ _ _ _ (by simp)).trans ce)
  have HBf := ((HB.out.setCell (p := ⟨w.heap.size, 0, none⟩) (Nat.le_refl _) (.int .i64 0)).setCell (p := ⟨w.heap.size + 1, 0, none⟩) (by simp) (.int .i64 4)).drew
  generalize ((w1.setCell ⟨w.heap.size, 0, none⟩ (.int .i64 0)).setCell ⟨w.heap.size + 1, 0, none⟩ (.int .i64 4)).drew = w9 at *
  simp [Leaves, settle, results, Tryd.results78, go_sem, hn0, hn1]
  exact HBf
theorem sizeG_lt (hex : Bool) : ∀ (f n : Nat) (l : Bs) (u : Nat), n < 18446744073709551616 → sizeG hex f n l = some u → u < 18446744073709551616
  | 0, n, l, u, hn, h => by simp only [sizeG, Option.some.injEq] at h; omega
  | f + 1, n, [], u, hn, h => by simp only [sizeG, Option.some.injEq] at h; omega
  | f + 1, n, b :: t, u, hn, h => by
    simp only [sizeG] at h
    split at h
    · cases h
    · split at h
      · cases h
      · refine sizeG_lt hex f _ _ u ?_ h
        split <;> omega
theorem sizeS_lt {l : Bs} {u : Nat} (h : sizeS l = some u) : u < 18446744073709551616 := by
  unfold sizeS at h
  simp only [] at h
  generalize (if hexHead l then l.drop 2 else l) = rest at h
  by_cases hr : rest = []
  · rw [if_pos hr] at h; cases h
  · rw [if_neg hr] at h
    exact sizeG_lt _ _ 0 _ _ (by omega) h
theorem parseF_eq (l : Bs) : parseF l = match sizeS l with | none => (0, 4) | some u => if !hexHead l && decide (u > 9223372036854775807) then (0, 14) else (sint u, 0) := by
  unfold parseF sizeS
  simp only []
  generalize (if hexHead l then l.drop 2 else l) = rest
  by_cases h : rest = []
  · simp [h]
  · simp only [h, if_false]
    cases sizeL (hexHead l) 0 rest <;> rfl
theorem sint_wrap (u : Nat) (h : u < 18446744073709551616) : wrap64 (u : Int) = sint u := by
  unfold wrap64 sint
  split <;> omega
theorem sint_bd (u : Nat) (h : u < 18446744073709551616) : -9223372036854775808 ≤ sint u ∧ sint u ≤ 9223372036854775807 := by
  unfold sint
  split <;> omega
set_option maxHeartbeats 1000000 in
theorem read_big (s : ByteArray) (w : World) (u : Nat) (hs : s.size ≤ 1000000) (hn : sizeS (bs s) = some u) (hx : hexHead (bs s) = false) (hu : 9223372036854775807 < u) :
    Calls Tryd.prog 78 #[.string s, .bool false] w fun e w' => e = .returned (.tuple #[.int .i64 0, .int .i64 14]) ∧ Below w.heap.size w w' := by
  have hsz := fun w => size_any s w hs
  rw [hn, hx] at hsz
  have HS := Lib.hid hsz
  have huz : (9223372036854775807 : Int) < u := by omega
  clear hsz hn hx hu
  have hmf : ∀ (fn : Fn) (first cap : Array Value) (w : World), (Instr.makeFunc fn first cap).run Tryd.prog w = .ok (.func fn first cap) w := fun _ _ _ _ => rfl
  go_enter_defers Tryd.func78, Tryd.ntmps78
  go_wp2_with fail
  refine (HS.out _).mono ?_
  rintro e w1 ⟨he, hb1⟩
  simp only [] at he
  subst he
  have hbn := blk_below hb1 (by simp; omega) (blk_alloc (blk_new w (.cells #[.int .i64 0] 3)))
  have hbe := blk_below hb1 (by simp) (blk_new (w.alloc (.cells #[.int .i64 0] 3)) (.cells #[.int .i64 0] 23))
  simp only [World.size_alloc] at hbe
  have hB := hb1.mono (B' := w.heap.size) (by simp; omega)
  have HB := Lib.hid ((((Below.refl w.heap.size w).alloc (Nat.le_refl _) _).alloc (by simp) _).trans hB)
  obtain ⟨cn, fn⟩ := leaves_free w1 _ _ _ hbn
  obtain ⟨ce, fe⟩ := leaves_free w1 _ _ _ hbe
  clear hb1 hB hbn hbe
  go_wp2_with fail
  refine leaves_cons (f := 88) (args := #[.pointer (some ⟨w.heap.size, 0, none⟩), .pointer (some ⟨w.heap.size + 1, 0, none⟩)]) (by simp) (by simp [go_sem]) ?_
  refine (catch_panicking w.heap.size (w.heap.size + 1) 0 0 _ w1 cn ce fn fe (by omega)).mono ?_
  rintro e u' w'' ⟨rfl, rfl, rfl⟩
  have hne : ¬ w.heap.size + 1 = w.heap.size := by omega
  have hn0 : ((w1.setCell ⟨w.heap.size, 0, none⟩ (.int .i64 0)).setCell ⟨w.heap.size + 1, 0, none⟩ (.int .i64 14)).drew.cell? ⟨w.heap.size, 0, none⟩ = some (.int .i64 0) := by
    rw [World.cell?_drew, World.cell?_setCell_other _ _ _ _ (by simp), World.cell?_setCell_same _ _ _ cn]
  have hn1 : ((w1.setCell ⟨w.heap.size, 0, none⟩ (.int .i64 0)).setCell ⟨w.heap.size + 1, 0, none⟩ (.int .i64 14)).drew.cell? ⟨w.heap.size + 1, 0, none⟩ = some (.int .i64 14) := by
    rw [World.cell?_drew]
    exact World.cell?_setCell_same _ _ _ ((World.cell?_setCell_other _ _ _ _ (by simp)).trans ce)
  have HBf := ((HB.out.setCell (p := ⟨w.heap.size, 0, none⟩) (Nat.le_refl _) (.int .i64 0)).setCell (p := ⟨w.heap.size + 1, 0, none⟩) (by simp) (.int .i64 14)).drew
  generalize ((w1.setCell ⟨w.heap.size, 0, none⟩ (.int .i64 0)).setCell ⟨w.heap.size + 1, 0, none⟩ (.int .i64 14)).drew = w9 at *
  simp [Leaves, settle, results, Tryd.results78, go_sem, hn0, hn1]
  exact HBf
set_option maxHeartbeats 1000000 in
theorem read_some (s : ByteArray) (w : World) (u : Nat) (hs : s.size ≤ 1000000) (hn : sizeS (bs s) = some u) (hu : hexHead (bs s) = true ∨ u ≤ 9223372036854775807) :
    Calls Tryd.prog 78 #[.string s, .bool false] w fun e w' => e = .returned (.tuple #[.int .i64 (sint u), .int .i64 0]) ∧ Below w.heap.size w w' := by
  have hsz := fun w => size_any s w hs
  have hult := sizeS_lt hn
  rw [hn] at hsz
  obtain ⟨X, hX⟩ : ∃ X, sint u = X := ⟨_, rfl⟩
  rw [hX]
  have hcv : ∀ w, (convert 34 3 (.int .u64 u)).run Tryd.prog w = .ok (.int .i64 X) w := fun w => by
    rw [← hX, ← sint_wrap u hult]; simp [go_sem, IntKind.wrap_i64, wrap64]
  have HH : Hid (hexHead (bs s) = true ∨ u ≤ 9223372036854775807) := hu
  have HS := Lib.hid hsz
  clear hsz hu hn
  generalize hexHead (bs s) = hx at *
  have hult' := Lib.hid hult
  clear hult hX
  have hmf : ∀ (fn : Fn) (first cap : Array Value) (w : World), (Instr.makeFunc fn first cap).run Tryd.prog w = .ok (.func fn first cap) w := fun _ _ _ _ => rfl
  go_enter_defers Tryd.func78, Tryd.ntmps78
  go_wp2_with fail
  refine (HS.out _).mono ?_
  rintro e w1 ⟨he, hb1⟩
  simp only [] at he
  subst he
  have hbn := blk_below hb1 (by simp; omega) (blk_alloc (blk_new w (.cells #[.int .i64 0] 3)))
  have hbe := blk_below hb1 (by simp) (blk_new (w.alloc (.cells #[.int .i64 0] 3)) (.cells #[.int .i64 0] 23))
  simp only [World.size_alloc] at hbe
  have hB := hb1.mono (B' := w.heap.size) (by simp; omega)
  have HB := Lib.hid ((((Below.refl w.heap.size w).alloc (Nat.le_refl _) _).alloc (by simp) _).trans hB)
  obtain ⟨cn, fn⟩ := leaves_free w1 _ _ _ hbn
  obtain ⟨ce, fe⟩ := leaves_free w1 _ _ _ hbe
  clear hb1 hB hbn hbe
  have HSTEP : Hid (hx = true ∨ (hx = false ∧ ¬ (9223372036854775807 : Int) < u)) := by
    unfold Hid at *
    cases hx
    · exact .inr ⟨rfl, by have := HH; simp at this; omega⟩
    · exact .inl rfl
  rcases HSTEP.out with rfl | ⟨rfl, huz⟩
  all_goals
    clear HSTEP HH HS
    go_wp2_with fail
    refine leaves_cons (f := 88) (args := #[.pointer (some ⟨w.heap.size, 0, none⟩), .pointer (some ⟨w.heap.size + 1, 0, none⟩)]) (by simp) (by simp [go_sem]) ?_
    refine (catch_idle _ _ _).mono ?_
    rintro e u' w'' ⟨rfl, rfl, rfl⟩
    have hn0 : (((w1.setCell ⟨w.heap.size, 0, none⟩ (.int .i64 X)).setCell ⟨w.heap.size, 0, none⟩ (.int .i64 X)).setCell ⟨w.heap.size + 1, 0, none⟩ (.int .i64 0)).cell? ⟨w.heap.size, 0, none⟩ = some (.int .i64 X) := by
      rw [World.cell?_setCell_other _ _ _ _ (by simp)]
      exact World.cell?_setCell_same _ _ _ (World.cell?_setCell_same _ _ _ cn)
    have hn1 : (((w1.setCell ⟨w.heap.size, 0, none⟩ (.int .i64 X)).setCell ⟨w.heap.size, 0, none⟩ (.int .i64 X)).setCell ⟨w.heap.size + 1, 0, none⟩ (.int .i64 0)).cell? ⟨w.heap.size + 1, 0, none⟩ = some (.int .i64 0) :=
      World.cell?_setCell_same _ _ _ ((World.cell?_setCell_other _ _ _ _ (by simp)).trans ((World.cell?_setCell_other _ _ _ _ (by simp)).trans ce))
    have HBf := ((HB.out.setCell (p := ⟨w.heap.size, 0, none⟩) (Nat.le_refl _) (.int .i64 X)).setCell (p := ⟨w.heap.size, 0, none⟩) (Nat.le_refl _) (.int .i64 X)).setCell (p := ⟨w.heap.size + 1, 0, none⟩) (by simp) (.int .i64 0)
    generalize ((w1.setCell ⟨w.heap.size, 0, none⟩ (.int .i64 X)).setCell ⟨w.heap.size, 0, none⟩ (.int .i64 X)).setCell ⟨w.heap.size + 1, 0, none⟩ (.int .i64 0) = w9 at *
    simp [Leaves, settle, results, Tryd.results78, go_sem, hn0, hn1]
    exact HBf
theorem read_any (s : ByteArray) (w : World) (hs : s.size ≤ 1000000) :
    Calls Tryd.prog 78 #[.string s, .bool false] w fun e w' => e = .returned (.tuple #[.int .i64 (parseF (bs s)).1, .int .i64 (parseF (bs s)).2]) ∧ Below w.heap.size w w' := by
  rw [parseF_eq]
  cases hn : sizeS (bs s) with
  | none => exact read_none s false w hs hn
  | some u =>
    simp only []
    by_cases hx : hexHead (bs s) = true
    · rw [hx]
      exact read_some s w u hs hn (.inl hx)
    · have hx' : hexHead (bs s) = false := Bool.eq_false_iff.2 hx
      rw [hx']
      by_cases hu : 9223372036854775807 < u
      · simp only [Bool.not_false, Bool.true_and, decide_eq_true (show u > 9223372036854775807 from hu), if_true]
        exact read_big s w u hs hn hx' hu
      · simp only [Bool.not_false, Bool.true_and, decide_eq_false (show ¬ u > 9223372036854775807 from hu), Bool.false_eq_true, if_false]
        exact read_some s w u hs hn (.inr (by omega))
theorem parse_any (s : ByteArray) (w : World) (hs : s.size ≤ 1000000) :
    Calls Tryd.prog 65 #[.string s] w fun e w' => e = .returned (.tuple #[.int .i64 (parseF (bs s)).1, .int .i64 (parseF (bs s)).2]) ∧ Below w.heap.size w w' := by
  have hr := fun w => read_any s w hs
  generalize parseF (bs s) = R at *
  have HR := Lib.hid hr
  clear hr
  go_enter Tryd.func65, Tryd.ntmps65
  go_wp2_with fail
  refine (HR.out _).mono ?_
  rintro e w' ⟨rfl, hb⟩
  go_wp2_with fail
  go_ret2
  exact ⟨rfl, hb⟩
end Go.Proofs.YtadenjlehhopmaaDoor
