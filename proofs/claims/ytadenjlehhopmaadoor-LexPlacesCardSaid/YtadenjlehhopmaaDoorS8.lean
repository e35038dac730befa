/- LexScans and LexMemory: the printed functions answer true. -/
import Derived.Test.YtadenjlehhopmaaDoorS7
import Derived.Test.YtadenjlehhopmaaDoorG5
import Derived.Test.YtadenjlehhopmaaDoorP3
namespace Go.Proofs.YtadenjlehhopmaaDoor
set_option linter.unusedSimpArgs false
set_option linter.unusedVariables false
open Go Go.RowKit Lx
theorem lexR_len (s : ByteArray) : (lexR s).1.length ≤ 20001 := by
  unfold lexR
  cases h : scanF (bs s) with
  | inl x => simp
  | inr l =>
    simp only [List.length_map]
    by_cases hs : (bs s).length ≤ 20000
    · rw [scanF_small _ hs] at h
      have := (scan_count _ _ _ _ _ (Nat.le_refl _) h).2.1
      simp only [List.length_nil] at this
      omega
    · unfold scanF at h
      rw [if_pos (by omega)] at h
      cases h
theorem lIdx_nat {α : Type} {l : List α} {i : Nat} (h : i < l.length) : lIdx l (i : Int) = some l[i] := by
  unfold lIdx
  rw [if_pos (by omega), Int.toNat_natCast, List.getElem?_eq_getElem h]
theorem same_loop (l : List (Int × ByteArray × Int × Int)) (hl : l.length ≤ 1000000) : ∀ (d i k : Nat), l.length - i ≤ d → i ≤ l.length → d < k → law11_same.l0 k l l (fun (_ : Unit) => some true) (i : Int) = some true
  | d, i, k, hd, hi, hk => by
    obtain ⟨k, rfl⟩ : ∃ m, k = m + 1 := ⟨k - 1, by omega⟩
    simp only [law11_same.l0]
    rcases Nat.lt_or_ge i l.length with h | h
    · obtain ⟨d, rfl⟩ : ∃ m, d = m + 1 := ⟨d - 1, by omega⟩
      rw [dT (p := (i : Int) < l.length) (by omega), lIdx_nat h, wi ((i : Int) + 1) (by omega) (by omega), show (i : Int) + 1 = ((i + 1 : Nat) : Int) by omega]
      have ih := same_loop l hl d (i + 1) k (by omega) (by omega) (by omega)
      simp only [Option.bind_some, cond_true, bne_self_eq_false, cond_false, beq_self_eq_true, Bool.not_true]
      exact ih
    · rw [dF (p := (i : Int) < l.length) (by omega)]
      rfl
theorem same_eq (k : Nat) (l : List (Int × ByteArray × Int × Int)) (hl : l.length ≤ 1000000) (hk : l.length < k) : law11_same.f k l l = some true := by
  unfold law11_same.f joinF
  rw [show ((l.length : Int) != (l.length : Int)) = false from bne_self_eq_false _]
  exact same_loop l hl l.length 0 k (by omega) (by omega) hk
theorem scans_true (s : ByteArray) : law11_LexScans.f 50000 s = some true := by
  unfold law11_LexScans.f lex_Scan.f law11_fixed.f
  rw [scan_eq 50000 s (Nat.le_refl _)]
  have := lexR_len s
  simp only [Option.bind_some, cond_true, beq_self_eq_true, Bool.true_and, same_eq 50000 (lexR s).1 (by omega) (by omega)]
theorem memory_loop (J : Unit → Option Bool) : ∀ (d i k : Nat) (l : List (Int × ByteArray × Int × Int)), l.length ≤ 1000000 → l.length - i ≤ d → i ≤ l.length → d < k → law11_LexMemory.l0 k J l (i : Int) = J ()
  | d, i, k, l, hl, hd, hi, hk => by
    obtain ⟨k, rfl⟩ : ∃ m, k = m + 1 := ⟨k - 1, by omega⟩
    simp only [law11_LexMemory.l0]
    rcases Nat.lt_or_ge i l.length with h | h
    · obtain ⟨d, rfl⟩ : ∃ m, d = m + 1 := ⟨d - 1, by omega⟩
      rw [dT (p := (i : Int) < l.length) (by omega), lIdx_nat h, wi ((i : Int) + 1) (by omega) (by omega), show (i : Int) + 1 = ((i + 1 : Nat) : Int) by omega]
      unfold lSet
      rw [dT (p := 0 ≤ (i : Int) ∧ (i : Int) < l.length) (by omega)]
      simp only [Option.bind_some, cond_true]
      exact memory_loop J d (i + 1) k _ (by rw [List.length_set]; exact hl) (by rw [List.length_set]; omega) (by rw [List.length_set]; omega) (by omega)
    · rw [dF (p := (i : Int) < l.length) (by omega)]
      rfl
theorem memory_true (s : ByteArray) : law11_LexMemory.f 50000 s = some true := by
  unfold law11_LexMemory.f lex_Scan.f law11_fixed.f joinF
  rw [scan_eq 50000 s (Nat.le_refl _)]
  have h := lexR_len s
  simp only [Option.bind_some, cond_true, cond_false, beq_self_eq_true, Bool.true_and, Bool.not_true, bne_self_eq_false]
  have := memory_loop (fun _ => (law11_same.f 50000 (lexR s).1 (lexR s).1).bind fun r22 => some r22) (lexR s).1.length 0 50000 (lexR s).1 (by omega) (by omega) (by omega) (by omega)
  rw [show ((0 : Nat) : Int) = 0 from rfl] at this
  rw [this, same_eq 50000 (lexR s).1 (by omega) (by omega)]
  rfl
theorem scans_any (s : ByteArray) (w : World) (hg : Gl w) : Calls Tryd.prog 3 #[.string s] w fun e w' => e = .returned (.bool true) ∧ Below w.heap.size w w' :=
  (law11_LexScans.ok (scans_true s) (Gl.piece hg) w w [old w] ⟨.head _, trivial⟩ (St.start w)).mono fun e w' ⟨l1, ⟨h1, h2⟩, h3⟩ => by
    subst h2
    exact ⟨h1, St.end_ (l := []) h3⟩
theorem memory_any (s : ByteArray) (w : World) (hg : Gl w) : Calls Tryd.prog 6 #[.string s] w fun e w' => e = .returned (.bool true) ∧ Below w.heap.size w w' :=
  (law11_LexMemory.ok (memory_true s) (Gl.piece hg) w w [old w] ⟨.head _, trivial⟩ (St.start w)).mono fun e w' ⟨l1, ⟨h1, h2⟩, h3⟩ => by
    subst h2
    exact ⟨h1, St.end_ (l := []) h3⟩
end Go.Proofs.YtadenjlehhopmaaDoor
