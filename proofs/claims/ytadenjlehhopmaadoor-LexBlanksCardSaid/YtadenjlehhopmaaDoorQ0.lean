/- 'comment'. -/
import Derived.Test.YtadenjlehhopmaaDoorD0
import Derived.Test.YtadenjlehhopmaaDoorP2
namespace Go.Proofs.YtadenjlehhopmaaDoor
set_option linter.unusedSimpArgs false
set_option linter.unusedVariables false
open Go Go.RowKit Lx
/-- From i on stand no line's end and no two dashes. -/
def Good (l : Bs) (i : Nat) : Prop := ∀ j, i ≤ j → j < l.length → l.getD j 0 ≠ 10 ∧ ¬ (l.getD j 0 = 45 ∧ 0 < j ∧ l.getD (j - 1) 0 = 45)
theorem good_closed (l : Bs) (i : Nat) (hg : Good l i) (h : i = 0 ∨ l.getD (i - 1) 0 = 10 ∧ i ≤ l.length) : Closed' l := by
  intro p hp
  have hlen := (List.isPrefixOf_iff_prefix.1 hp).length_le
  rw [List.length_drop] at hlen
  simp only [List.length_cons, List.length_nil] at hlen
  obtain ⟨t, ht⟩ := List.isPrefixOf_iff_prefix.1 hp
  have h0 : l.getD p 0 = 45 := by
    have := congrArg (fun x => x.getD 0 0) ht
    simp [List.getD_eq_getElem?_getD] at this
    rw [List.getD_eq_getElem?_getD]
    exact this.symm
  have h1 : l.getD (p + 1) 0 = 45 := by
    have := congrArg (fun x => x.getD 1 0) ht
    simp [List.getD_eq_getElem?_getD] at this
    rw [List.getD_eq_getElem?_getD]
    exact this.symm
  rcases Nat.lt_or_ge (p + 1) i with hpi | hpi
  · rcases h with h | ⟨h, hi⟩
    · omega
    · have : l[i - 1]? = some 10 := by
        rw [List.getD_eq_getElem?_getD, List.getElem?_eq_getElem (by omega)] at h
        rw [List.getElem?_eq_getElem (by omega)]
        simpa using h
      refine List.mem_iff_getElem?.2 ⟨i - 1 - p, ?_⟩
      rw [List.getElem?_drop, show p + (i - 1 - p) = i - 1 by omega]
      exact this
  · have := (hg (p + 1) hpi (by omega)).2
    exact absurd ⟨h1, by omega, by simpa using h0⟩ this
def CommentEnd (s : ByteArray) (w : World) (e : Ending) (w' : World) : Prop := ∃ b : Bool, e = .returned (.bool b) ∧ w = w' ∧ (b = false → Closed' (bs s))
set_option maxHeartbeats 4000000 in
set_option maxRecDepth 100000 in
theorem comment_any (s : ByteArray) (w : World) (hs : s.size ≤ 1000000) :
    Calls Tryd.prog 14 #[.string s] w (CommentEnd s w) := by
  have hgd : ∀ k (h : k < s.size), s[k] = (bs s).getD k 0 := fun k h => by
    rw [List.getD_eq_getElem?_getD]
    have : (bs s)[k]? = some s[k] := by
      unfold bs
      rw [Array.getElem?_toList, Array.getElem?_eq_getElem (show k < s.data.size from h)]
      rfl
    rw [this]; rfl
  have HGD := Lib.hid hgd
  have hbl := bs_length s
  have HBL := Lib.hid hbl
  have hw0 : IntKind.i64.wrap ((s.size : Int) - 1) = (s.size : Int) - 1 := by unfold IntKind.wrap; simp [IntKind.bits, IntKind.signed]; omega
  clear hgd hbl
  go_enter Tryd.func14, Tryd.ntmps14
  go_wp2_with fail
  go_loop [3] (fun v3 => ∃ k : Nat, k ≤ s.size ∧ v3 = .int .i64 ((k : Int) - 1) ∧ Hid (Good (bs s) k)) (fun v3 => (intOf v3 + 1).toNat)
  case atStart => exact ⟨s.size, Nat.le_refl _, by go_num, fun j h1 h2 => by rw [HBL.out] at h2; omega⟩
  case round =>
    obtain ⟨k, hk, rfl, HG⟩ := hrel
    by_cases hk0 : k = 0
    · subst hk0
      have HCL := Lib.hid (good_closed (bs s) 0 HG.out (.inl rfl))
      go_wp2_with fail
      all_goals
        go_ret
        exact ⟨_, rfl, rfl, fun _ => HCL.out⟩
    · obtain ⟨m, rfl⟩ : ∃ m, k = m + 1 := ⟨k - 1, by omega⟩
      have hmz : ((m + 1 : Nat) : Int) - 1 = m := by omega
      rw [hmz]
      have hm1 : (m : Int) < s.size := by omega
      have hm2 : m < s.size := by omega
      by_cases h10 : s[m] = 10
      · have hn : ((s[m].toNat : Int) == 10) = true := (byte_beq _ 10).1 h10
        have HCL := Lib.hid (good_closed (bs s) (m + 1) HG.out (.inr ⟨by rw [Nat.add_sub_cancel, ← HGD.out m hm2]; exact h10, by rw [HBL.out]; omega⟩))
        go_wp2_with fail
        all_goals
          go_ret
          exact ⟨_, rfl, rfl, fun _ => HCL.out⟩
      · have hn : ((s[m].toNat : Int) == 10) = false := Bool.eq_false_iff.2 fun h => h10 ((byte_beq _ 10).2 h)
        have hgood : ¬ (s[m] = 45 ∧ 0 < m ∧ (bs s).getD (m - 1) 0 = 45) → Good (bs s) m := fun h j h1 h2 => by
          rcases Nat.lt_or_ge m j with h3 | h3
          · exact HG.out j (by omega) h2
          · have : j = m := by omega
            subst this
            rw [← HGD.out j hm2]
            exact ⟨h10, h⟩
        have HGO := Lib.hid hgood
        clear hgood
        by_cases h45 : s[m] = 45
        · have hn2 : ((s[m].toNat : Int) == 45) = true := (byte_beq _ 45).1 h45
          by_cases hm0 : m = 0
          · subst hm0
            have HGN := Lib.hid (HGO.out (by omega))
            clear HGO
            go_wp2_with fail
            go_round
            case rel => exact ⟨0, by omega, by go_num, HGN.out⟩
            case measure => simp [intOf]
          · have hmp : (0 : Int) < m := by omega
            have hmp2 : (0 : Int) ≤ (m : Int) - 1 := by omega
            have hmp3 : (m : Int) - 1 < s.size := by omega
            have hmp4 : ((m : Int) - 1).toNat = m - 1 := by omega
            have hmp5 : m - 1 < s.size := by omega
            have hw1 : IntKind.i64.wrap ((m : Int) - 1) = (m : Int) - 1 := by unfold IntKind.wrap; simp [IntKind.bits, IntKind.signed]; omega
            by_cases h46 : s[m - 1] = 45
            · have hn3 : ((s[m - 1].toNat : Int) == 45) = true := (byte_beq _ 45).1 h46
              go_wp2_with fail
              all_goals
                go_ret
                exact ⟨true, rfl, rfl, fun h => by cases h⟩
            · have hn3 : ((s[m - 1].toNat : Int) == 45) = false := Bool.eq_false_iff.2 fun h => h46 ((byte_beq _ 45).2 h)
              have HGN := Lib.hid (HGO.out (fun h => h46 (by rw [HGD.out (m - 1) hmp5]; exact h.2.2)))
              clear HGO
              go_wp2_with fail
              go_round
              case rel => exact ⟨m, by omega, by go_num, HGN.out⟩
              case measure => simp [intOf]
        · have hn2 : ((s[m].toNat : Int) == 45) = false := Bool.eq_false_iff.2 fun h => h45 ((byte_beq _ 45).2 h)
          have HGN := Lib.hid (HGO.out (fun h => h45 h.1))
          have hw1 : IntKind.i64.wrap ((m : Int) - 1) = (m : Int) - 1 := by unfold IntKind.wrap; simp [IntKind.bits, IntKind.signed]; omega
          clear HGO
          go_wp2_with fail
          go_round
          case rel => exact ⟨m, by omega, by go_num, HGN.out⟩
          case measure => simp [intOf]
end Go.Proofs.YtadenjlehhopmaaDoor
