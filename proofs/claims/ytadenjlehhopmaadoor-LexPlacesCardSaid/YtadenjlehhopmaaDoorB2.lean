/- 'escape'. -/
import Derived.Test.YtadenjlehhopmaaDoorB1
namespace Go.Proofs.YtadenjlehhopmaaDoor
set_option linter.unusedSimpArgs false
set_option linter.unusedVariables false
open Go Go.RowKit Lx
theorem prefix_any (s : ByteArray) (p : Bs) (w : World) : Calls Tryd.prog 41 #[.string s, .string (str p)] w fun e w' => e = .returned (.bool (p.isPrefixOf (bs s))) ∧ w = w' :=
  (Tryd.strings_HasPrefix s (str p) w).mono fun _ _ ⟨h1, h2⟩ => ⟨by rw [h1]; simp [str, bs, Lib.hasPrefix], h2.symm⟩
/-- What 'escape' comes to: the escape begins at i, the scanner stands at 'at_'. -/
def EscEnd (r : Esc) (at_ i C bb : Nat) (acc : Bs) (w : World) (e : Ending) (w' : World) : Prop :=
  match r with
  | .ended => e = failEnd 4 at_ ∧ Below C w w'
  | .unfit => e = failEnd 4 i ∧ Below C w w'
  | .ok b n => e = .returned (.int .i64 (i + n : Nat)) ∧ Bd C bb (acc ++ b) w' ∧ Below C w w'
theorem at_zero (R : ByteArray) (c : UInt8) (t : Bs) (h : bs R = c :: t) : ∃ h0 : 0 < R.size, R[0]'h0 = c := by
  have h0 : 0 < R.size := by rw [← bs_length, h]; simp
  refine ⟨h0, ?_⟩
  have := drop_at R 0 h0
  rw [List.drop_zero, h] at this
  exact (List.cons.inj this).1.symm
theorem nonempty_of (R : ByteArray) (c : UInt8) (t : Bs) (h : bs R = c :: t) : R.toList.isEmpty = false := by
  rw [Lib.toList_data]
  show (bs R).isEmpty = false
  rw [h]; rfl
section
variable (sb at_ i C bb : Nat) (src : ByteArray) (acc : Bs) (w : World)
set_option maxHeartbeats 1000000 in
set_option maxRecDepth 100000 in
theorem esc_ended (hb : sb < w.heap.size) (c0 : w.cell? ⟨sb, 0, none⟩ = some (.string src)) (c1 : w.cell? ⟨sb, 1, none⟩ = some (.int .i64 at_)) (hi : i + 1 = src.size) (hs : src.size ≤ 1000000) :
    Calls Tryd.prog 66 #[.pointer (some ⟨sb, 0, none⟩), .pointer (some ⟨bb, 0, none⟩), .int .i64 i] w (EscEnd .ended at_ i C bb acc w) := by
  have h1 : (i : Int) + 1 ≤ src.size := by omega
  have h2 : ((i : Int) + 1).toNat = i + 1 := by omega
  have he : (src.extract (i + 1) src.size).toList.isEmpty = true := by
    rw [Lib.toList_data]; show (bs _).isEmpty = true; rw [bs_tail, List.drop_of_length_le (by rw [bs_length]; omega)]; rfl
  clear hi
  go_enter Tryd.func66, Tryd.ntmps66
  go_wp2_with fail
  refine (fail_any _ _ _).mono ?_
  rintro e w' ⟨rfl, rfl⟩
  go_wp2_with fail
  exact ⟨rfl, rfl, by first | exact Below.refl _ _ | exact (Below.refl _ _).drew⟩
set_option maxHeartbeats 1000000 in
set_option maxRecDepth 100000 in
theorem esc_plain (c : UInt8) (t : Bs) (hb : sb < w.heap.size) (c0 : w.cell? ⟨sb, 0, none⟩ = some (.string src)) (hi : i + 1 ≤ src.size) (hs : src.size ≤ 1000000)
    (hl : (bs src).drop (i + 1) = c :: t) (hp : plainB c ≠ 0) (hB : Bd C bb acc w) (hacc : acc.length ≤ 1000000) (hC : C ≤ w.heap.size) :
    Calls Tryd.prog 66 #[.pointer (some ⟨sb, 0, none⟩), .pointer (some ⟨bb, 0, none⟩), .int .i64 i] w (EscEnd (.ok [plainB c] 2) at_ i C bb acc w) := by
  have h1 : (i : Int) + 1 ≤ src.size := by omega
  have h2 : ((i : Int) + 1).toNat = i + 1 := by omega
  have h3 : (i : Int) ≤ 1000000 := by omega
  have hR := bs_tail src (i + 1)
  rw [hl] at hR
  have HR0 := Lib.hid (at_zero _ c t hR)
  have he := nonempty_of _ c t hR
  have h0 := HR0.out.1
  have hc0 := HR0.out.2
  have hpi : ((plainB c).toNat : Int) ≠ 0 := fun h => hp (by apply UInt8.toNat_inj.1; rw [show (0 : UInt8).toNat = 0 from rfl]; omega)
  have hpn : (((plainB c).toNat : Int) != 0) = true := by rw [bne_iff_ne]; exact hpi
  have hq : 0 < src.size - (i + 1) := by have := congrArg List.length hl; rw [List.length_drop, bs_length] at this; simp at this; omega
  have HP := Lib.hid (plain_any c)
  have HW := Lib.hid (wbyte_any C bb acc (plainB c) w hB hacc hC)
  clear hl hR hp hpi hB
  go_enter Tryd.func66, Tryd.ntmps66
  go_wp2_with fail
  refine (HP.out _).mono ?_
  rintro e w' ⟨rfl, rfl⟩
  go_wp2_with fail
  refine (HP.out _).mono ?_
  rintro e w' ⟨rfl, rfl⟩
  go_wp2_with fail
  refine HW.out.mono ?_
  rintro e w' ⟨rfl, hb', hbel⟩
  go_wp2_with fail
  go_ret
  exact ⟨ret_int (by omega), hb', hbel⟩
theorem tail_one (s : ByteArray) (c : UInt8) (t : Bs) (h : bs s = c :: t) : bs (s.extract 1 s.size) = t := by
  rw [bs_tail, h]; rfl
theorem plain_zero (c : UInt8) (h : plainB c = 0) (w : World) : Calls Tryd.prog 79 #[.int .u8 c.toNat] w fun e w' => e = .returned (.int .u8 0) ∧ w = w' := by
  have := plain_any c w
  rw [h] at this
  exact this
theorem byte_conv (n : Nat) (h : n < 4294967296) (w : World) : (convert 3 5 (.int .i64 n)).run Tryd.prog w = .ok (.int .u8 (UInt8.ofNat n).toNat) w := by
  have e : IntKind.u8.wrap (n : Int) = ((UInt8.ofNat n).toNat : Int) := by unfold IntKind.wrap; simp [IntKind.bits, IntKind.signed]
  rw [← e]
  simp [go_sem]
set_option maxHeartbeats 1000000 in
set_option maxRecDepth 100000 in
theorem esc_x (t : Bs) (hb : sb < w.heap.size) (c0 : w.cell? ⟨sb, 0, none⟩ = some (.string src)) (hi : i + 1 ≤ src.size) (hs : src.size ≤ 1000000)
    (hl : (bs src).drop (i + 1) = 120 :: t) (hB : Bd C bb acc w) (hacc : acc.length ≤ 1000000) (hC : C ≤ w.heap.size) :
    Calls Tryd.prog 66 #[.pointer (some ⟨sb, 0, none⟩), .pointer (some ⟨bb, 0, none⟩), .int .i64 i] w
      (EscEnd (if (hexG 2 t 0 0).2 < 2 then .unfit else .ok [UInt8.ofNat (hexG 2 t 0 0).1] 4) at_ i C bb acc w) := by
  obtain ⟨c, hcc⟩ : ∃ c : UInt8, c = 120 := ⟨_, rfl⟩
  rw [← hcc] at hl
  have h1 : (i : Int) + 1 ≤ src.size := by omega
  have h2 : ((i : Int) + 1).toNat = i + 1 := by omega
  have h3 : (i : Int) ≤ 1000000 := by omega
  have hR := bs_tail src (i + 1)
  rw [hl] at hR
  have HR0 := Lib.hid (at_zero _ c t hR)
  have he := nonempty_of _ c t hR
  have h0 := HR0.out.1
  have hc0 := HR0.out.2
  have hq : 0 < src.size - (i + 1) := by have := congrArg List.length hl; rw [List.length_drop, bs_length] at this; simp at this; omega
  have HP := Lib.hid (fun w => plain_any c w)
  clear HP
  have HP := Lib.hid (fun w => plain_zero c (by rw [hcc]; rfl) w)
  have hcz : c.toNat = 120 := by rw [hcc]; rfl
  rw [hcz] at HP
  have hc1 : ((src.extract (i + 1) src.size)[0]'h0).toNat = 120 := by rw [hc0, hcz]
  clear hc0
  have hts : (src.extract (i + 1) src.size).size = src.size - (i + 1) := by rw [← bs_length, bs_tail, List.length_drop, bs_length]
  have HH := Lib.hid (fun w => hex_any ((src.extract (i + 1) src.size).extract 1 (src.extract (i + 1) src.size).size) 2 w (by omega) (by rw [← bs_length, bs_tail, List.length_drop, bs_length, hts]; omega))
  rw [tail_one _ c t hR, hts] at HH
  have hle := hexG_le 2 t 0 0 (by omega)
  have hpw := pow16_le (show (hexG 2 t 0 0).2 ≤ 8 by omega)
  have hn1 : (hexG 2 t 0 0).1 < 4294967296 := by omega
  clear hle hpw
  generalize hexG 2 t 0 0 = G at *
  obtain ⟨N, K⟩ := G
  clear hl hR hcc hts
  have hcv := fun w => byte_conv N hn1 w
  have HW := Lib.hid (wbyte_any C bb acc (UInt8.ofNat N) w hB hacc hC)
  clear hB hn1
  generalize UInt8.ofNat N = U at *
  by_cases hK : K < 2
  · have hkz : (K : Int) < 2 := by omega
    simp only [hK, if_true]
    clear hK
    go_enter Tryd.func66, Tryd.ntmps66
    go_wp2_with fail
    refine (HP.out _).mono ?_
    rintro e w' ⟨rfl, rfl⟩
    go_wp2_with fail
    refine (HH.out _).mono ?_
    rintro e w' ⟨rfl, rfl⟩
    go_wp2_with fail
    refine (unfit_any _ _ _).mono ?_
    rintro e w' ⟨rfl, rfl⟩
    go_wp2_with fail
    exact ⟨rfl, rfl, by first | exact Below.refl _ _ | exact (Below.refl _ _).drew⟩
  · have hkz : ¬ (K : Int) < 2 := by omega
    simp only [hK, if_false]
    clear hK
    go_enter Tryd.func66, Tryd.ntmps66
    go_wp2_with fail
    refine (HP.out _).mono ?_
    rintro e w' ⟨rfl, rfl⟩
    go_wp2_with fail
    refine (HH.out _).mono ?_
    rintro e w' ⟨rfl, rfl⟩
    go_wp2_with fail
    refine HW.out.mono ?_
    rintro e w' ⟨rfl, hb', hbel⟩
    go_wp2_with fail
    go_ret
    exact ⟨ret_int (by omega), hb', hbel⟩
end
end Go.Proofs.YtadenjlehhopmaaDoor
