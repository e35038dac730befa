/- LexNumbers, walked. -/
import Derived.Test.YtadenjlehhopmaaDoorP0
namespace Go.Proofs.YtadenjlehhopmaaDoor
set_option linter.unusedSimpArgs false
set_option linter.unusedVariables false
open Go Go.RowKit Lx
theorem bs_append (a b : ByteArray) : bs (a ++ b) = bs a ++ bs b := by simp [bs]
theorem num_text (m : Nat) : bs ((⟨#[32, 45]⟩ : ByteArray) ++ str (decD m) ++ (⟨#[10]⟩ : ByteArray)) = [32, 45] ++ decD m ++ [10] := by
  rw [bs_append, bs_append, bs_str]
  rfl
set_option maxHeartbeats 4000000 in
set_option maxRecDepth 100000 in
theorem lexNumbers_any (n : Int) (w : World) (hg : Gl w) (h0 : -9223372036854775808 ≤ n) (h1 : n ≤ 9223372036854775807) :
    Calls Tryd.prog 7 #[.int .i64 n] w fun e w' => e = .returned (.bool true) ∧ Below w.heap.size w w' := by
  have HF := Lib.hid (fixed_any w hg)
  have HG := Lib.hid hg
  clear hg
  by_cases hn : n < 0
  · obtain ⟨m, hm⟩ : ∃ m : Nat, -(n + 1) = m := ⟨(-(n + 1)).toNat, by omega⟩
    have hw1 : IntKind.i64.wrap (n + 1) = n + 1 := by unfold IntKind.wrap; simp [IntKind.bits, IntKind.signed]; omega
    have hw2 : IntKind.i64.wrap (-(n + 1)) = m := by rw [← hm]; unfold IntKind.wrap; simp [IntKind.bits, IntKind.signed]; omega
    go_enter Tryd.func7, Tryd.ntmps7
    go_wp2_with fail
    refine HF.out.mono ?_
    rintro e w1 ⟨rfl, hb1⟩
    have HB1 := Lib.hid hb1
    clear hb1
    go_wp2_with fail
    refine (format_any m _ (by omega)).mono ?_
    rintro e w2 ⟨rfl, hb2⟩
    have hlen := decD_len m
    have hsc := scan_any ((⟨#[32, 45]⟩ : ByteArray) ++ str (decD m) ++ (⟨#[10]⟩ : ByteArray)) w2 ((HG.out.below HB1.out HG.out.size).below hb2 (by have := HG.out.size; have := HB1.out.size; omega))
    rw [num_text, scan_numbers m (by omega)] at hsc
    have HSC := Lib.hid hsc
    have HB2 := Lib.hid (HB1.out.trans (hb2.mono HB1.out.size))
    have hsD : (str (decD m)).size = (decD m).length := str_size _
    have hlD : (str (decD m)).toList = decD m := str_list _
    generalize decD m = D at *
    generalize str D = S at *
    clear hsc hb2
    go_wp2_with fail
    refine HSC.out.mono ?_
    rintro e w3 ⟨lv, rfl, hrow, hb3⟩
    obtain ⟨g, cap, hr⟩ := row_of hrow (by simp)
    have hv : lv = .slice (some ⟨g, 0, none⟩) 3 cap := hr.val
    subst hv
    have hglt := hr.lt
    have hcm := hr.max
    have hc3 : 3 ≤ cap := hr.le
    obtain ⟨a0, a1, a2, a3⟩ := hr.cell 0 _ rfl
    obtain ⟨b0, b1, b2, b3⟩ := hr.cell 1 _ rfl
    obtain ⟨d0, d1, d2, d3⟩ := hr.cell 2 _ rfl
    have hs1 := str_list [45]
    have hs2 := str_list []
    have hs3 := str_list D
    have HB3 := Lib.hid (HB2.out.trans (hb3.mono HB2.out.size))
    clear hrow hr hb3 HSC
    go_wp2_with fail
    go_ret
    exact ⟨rfl, HB3.out.alloc (by have := HB3.out.size; omega) _⟩
  · obtain ⟨m, hm⟩ : ∃ m : Nat, n = m := ⟨n.toNat, by omega⟩
    subst hm
    go_enter Tryd.func7, Tryd.ntmps7
    go_wp2_with fail
    refine HF.out.mono ?_
    rintro e w1 ⟨rfl, hb1⟩
    have HB1 := Lib.hid hb1
    clear hb1
    go_wp2_with fail
    refine (format_any m _ (by omega)).mono ?_
    rintro e w2 ⟨rfl, hb2⟩
    have hlen := decD_len m
    have hsc := scan_any ((⟨#[32, 45]⟩ : ByteArray) ++ str (decD m) ++ (⟨#[10]⟩ : ByteArray)) w2 ((HG.out.below HB1.out HG.out.size).below hb2 (by have := HG.out.size; have := HB1.out.size; omega))
    rw [num_text, scan_numbers m (by omega)] at hsc
    have HSC := Lib.hid hsc
    have HB2 := Lib.hid (HB1.out.trans (hb2.mono HB1.out.size))
    have hsD : (str (decD m)).size = (decD m).length := str_size _
    have hlD : (str (decD m)).toList = decD m := str_list _
    generalize decD m = D at *
    generalize str D = S at *
    clear hsc hb2
    go_wp2_with fail
    refine HSC.out.mono ?_
    rintro e w3 ⟨lv, rfl, hrow, hb3⟩
    obtain ⟨g, cap, hr⟩ := row_of hrow (by simp)
    have hv : lv = .slice (some ⟨g, 0, none⟩) 3 cap := hr.val
    subst hv
    have hglt := hr.lt
    have hcm := hr.max
    have hc3 : 3 ≤ cap := hr.le
    obtain ⟨a0, a1, a2, a3⟩ := hr.cell 0 _ rfl
    obtain ⟨b0, b1, b2, b3⟩ := hr.cell 1 _ rfl
    obtain ⟨d0, d1, d2, d3⟩ := hr.cell 2 _ rfl
    have hs1 := str_list [45]
    have hs2 := str_list []
    have hs3 := str_list D
    have HB3 := Lib.hid (HB2.out.trans (hb3.mono HB2.out.size))
    clear hrow hr hb3 HSC
    go_wp2_with fail
    go_ret
    exact ⟨rfl, HB3.out.alloc (by have := HB3.out.size; omega) _⟩
end Go.Proofs.YtadenjlehhopmaaDoor
