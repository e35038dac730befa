/- 'plain', 'hex', the encoding of a code point. -/
import Derived.Test.YtadenjlehhopmaaDoorA4
namespace Go.Proofs.YtadenjlehhopmaaDoor
set_option linter.unusedSimpArgs false
set_option linter.unusedVariables false
open Go Go.RowKit Lx
theorem byte_beq (c k : UInt8) : (c = k) ↔ ((c.toNat : Int) == (k.toNat : Int)) = true := by
  rw [beq_iff_eq, Int.natCast_inj, UInt8.toNat_inj]
set_option maxHeartbeats 1000000 in
theorem plain_any (c : UInt8) (w : World) : Calls Tryd.prog 79 #[.int .u8 c.toNat] w fun e w' => e = .returned (.int .u8 (plainB c).toNat) ∧ w = w' := by
  obtain ⟨x, hx⟩ : ∃ x, (plainB c).toNat = x := ⟨_, rfl⟩
  have HX := Lib.hid hx
  rw [hx]
  clear hx
  go_enter Tryd.func79, Tryd.ntmps79
  go_wp2
  all_goals go_ret
  all_goals refine ⟨ret_int ?_, rfl⟩
  all_goals rw [← HX.out]; clear HX
  all_goals simp only [plainB, byte_beq]
  all_goals simp_all
theorem hexG_step (m : Nat) (b : UInt8) (t : Bs) (n k : Nat) : hexG (m + 1) (b :: t) n k = match hexD b with | none => (n, k) | some d => hexG m t (16 * n + d) (k + 1) := rfl
def hexTab : Bs := [48, 49, 50, 51, 52, 53, 54, 55, 56, 57, 97, 98, 99, 100, 101, 102]
def hexIx (b : UInt8) : Int := Lib.indexByte hexTab (Go.bits .or .u8 (b.toNat : Int) 32).toNat.toUInt8
def hexOk (b : UInt8) : Bool :=
  match hexD b with
  | none => decide (hexIx b < 0) || decide (b.toNat < 48)
  | some d => decide (hexIx b = d) && decide (48 ≤ b.toNat) && decide (d < 16)
theorem hexOk_all : ∀ n, n < 256 → hexOk (UInt8.ofNat n) = true := by decide +kernel
theorem hexOk_any (b : UInt8) : hexOk b = true := by
  have := hexOk_all b.toNat b.toNat_lt
  simpa using this
theorem hexD_none {b : UInt8} (h : hexD b = none) : hexIx b < 0 ∨ b.toNat < 48 := by
  have := hexOk_any b
  simpa [hexOk, h] using this
theorem hexD_some {b : UInt8} {d : Nat} (h : hexD b = some d) : hexIx b = d ∧ 48 ≤ b.toNat ∧ d < 16 := by
  have := hexOk_any b
  simpa [hexOk, h, and_assoc] using this
theorem pow16_le {k : Nat} (h : k ≤ 8) : 16 ^ k ≤ 4294967296 := by
  have := Nat.pow_le_pow_right (n := 16) (by omega) h
  omega
theorem ix_any (b : UInt8) (w : World) : Calls Tryd.prog 90 #[.string ⟨#[48, 49, 50, 51, 52, 53, 54, 55, 56, 57, 97, 98, 99, 100, 101, 102]⟩, .int .u8 (Go.bits .or .u8 (b.toNat : Int) 32)] w fun e w' => e = .returned (.int .i64 (hexIx b)) ∧ w = w' :=
  (Tryd.strings_IndexByte _ _ w).mono fun _ _ ⟨h1, h2⟩ => ⟨h1, h2.symm⟩
theorem drop_at (s : ByteArray) (k : Nat) (h : k < s.size) : (bs s).drop k = s[k] :: (bs s).drop (k + 1) := by
  rw [List.drop_eq_getElem_cons (by rw [bs_length]; exact h)]
  rfl
theorem ret_two {a b c d : Int} {x y : IntKind} (h1 : a = c) (h2 : b = d) : Ending.returned (.tuple #[.int x a, .int y b]) = .returned (.tuple #[.int x c, .int y d]) := by rw [h1, h2]
set_option maxHeartbeats 1000000 in
theorem hex_any (s : ByteArray) (most : Nat) (w : World) (hm : most ≤ 8) (hs : s.size ≤ 1000000) :
    Calls Tryd.prog 80 #[.string s, .int .i64 most] w fun e w' => e = .returned (.tuple #[.int .i64 (hexG most (bs s) 0 0).1, .int .i64 (hexG most (bs s) 0 0).2]) ∧ w = w' := by
  obtain ⟨R, hR⟩ : ∃ R, hexG most (bs s) 0 0 = R := ⟨_, rfl⟩
  rw [hR]
  have HR := Lib.hid hR
  clear hR
  go_enter Tryd.func80, Tryd.ntmps80
  go_wp2
  go_loop [6, 7, 8] (fun n k _ => ∃ N K : Nat, K ≤ most ∧ K ≤ s.size ∧ N < 16 ^ K ∧ n = .int .i64 N ∧ k = .int .i64 K ∧ Hid (hexG (most - K) ((bs s).drop K) N K = R)) (fun _ k _ => most - (intOf k).toNat)
  case atStart => exact ⟨0, 0, by omega, by omega, by simp, rfl, rfl, HR.out⟩
  case round =>
    obtain ⟨N, K, hK, hKs, hN, rfl, rfl, hG⟩ := hrel
    have hp := pow16_le (show K ≤ 8 by omega)
    have hN2 : N < 4294967296 := by omega
    have HN := Lib.hid hN
    clear hN hp
    by_cases hlt : K < most
    · by_cases hls : K < s.size
      · have hix := ix_any s[K]
        obtain ⟨D, hD⟩ : ∃ D, hexIx s[K] = D := ⟨_, rfl⟩
        rw [hD] at hix
        have HIX := Lib.hid hix
        have HD := Lib.hid hD
        clear hix hD
        go_wp2_with ((go_at_call 90; refine (HIX.out _).mono ?_; rintro e w' ⟨rfl, rfl⟩))
        · go_ret2
          have hn : hexD s[K] = none := by
            cases h : hexD s[K] with
            | none => rfl
            | some d => have := hexD_some h; rw [HD.out] at this; omega
          have h := hG
          unfold Hid at h
          rw [show most - K = (most - K - 1) + 1 by omega, drop_at s K hls, hexG_step, hn] at h
          rw [← h]
          exact ⟨rfl, rfl⟩
        · go_round
          case rel =>
            obtain ⟨d, hd⟩ : ∃ d, hexD s[K] = some d := by
              cases h : hexD s[K] with
              | none => have := hexD_none h; rw [HD.out] at this; omega
              | some d => exact ⟨d, rfl⟩
            have hs := hexD_some hd
            rw [HD.out] at hs
            obtain ⟨hDd, _, hd16⟩ := hs
            have hN16 := HN.out
            refine ⟨16 * N + d, K + 1, by omega, by omega, by rw [Nat.pow_succ]; omega, ?_, by go_num, ?_⟩
            · rw [hDd]; congr 1; unfold wrap64; omega
            · have h := hG
              unfold Hid at h ⊢
              rw [show most - K = (most - (K + 1)) + 1 by omega, drop_at s K hls, hexG_step, hd] at h
              exact h
          case measure => simp [intOf]; omega
        · go_ret2
          have hn : hexD s[K] = none := by
            cases h : hexD s[K] with
            | none => rfl
            | some d => have := hexD_some h; rw [HD.out] at this; omega
          have h := hG
          unfold Hid at h
          rw [show most - K = (most - K - 1) + 1 by omega, drop_at s K hls, hexG_step, hn] at h
          rw [← h]
          exact ⟨rfl, rfl⟩
      · go_wp2
        go_ret2
        have h := hG
        unfold Hid at h
        rw [show most - K = (most - K - 1) + 1 by omega, List.drop_of_length_le (by rw [bs_length]; omega)] at h
        rw [← h]
        exact ⟨rfl, rfl⟩
    · go_wp2
      go_ret2
      have h := hG
      unfold Hid at h
      rw [show most - K = 0 by omega] at h
      rw [← h]
      exact ⟨rfl, rfl⟩
theorem hexG_le : ∀ (m : Nat) (l : Bs) (n k : Nat), n < 16 ^ k → (hexG m l n k).1 < 16 ^ (hexG m l n k).2 ∧ k ≤ (hexG m l n k).2 ∧ (hexG m l n k).2 ≤ k + m ∧ (hexG m l n k).2 ≤ k + l.length
  | 0, _, n, k, h => by simp only [hexG]; exact ⟨h, by omega, by omega, by omega⟩
  | m + 1, [], n, k, h => by simp only [hexG]; exact ⟨h, by omega, by omega, by simp⟩
  | m + 1, b :: t, n, k, h => by
    rw [hexG_step]
    cases hd : hexD b with
    | none => simp only []; exact ⟨h, by omega, by omega, by omega⟩
    | some d =>
      simp only []
      have h16 := (hexD_some hd).2.2
      have := hexG_le m t (16 * n + d) (k + 1) (by rw [Nat.pow_succ]; omega)
      simp only [List.length_cons]
      exact ⟨this.1, by omega, by omega, by omega⟩
set_option maxHeartbeats 1000000 in
/-- The encoding of a code point. -/
theorem encode_any (n : Int) (w : World) (h0 : 0 ≤ n) (h1 : n ≤ 4294967296) :
    Calls Tryd.prog 82 #[.int .i64 n] w fun e w' => e = .returned (.tuple #[.string (if Utf8.valid n then Utf8.encode n else ⟨#[]⟩), .int .i64 (if Utf8.valid n then 0 else 3)]) ∧ w = w' := by
  obtain ⟨v, hv⟩ : ∃ v, Utf8.valid n = v := ⟨_, rfl⟩
  rw [hv]
  by_cases hbig : n ≤ 1114111
  · have hw : IntKind.i32.wrap n = n := by unfold IntKind.wrap; simp [IntKind.bits, IntKind.signed]; omega
    have hva := valid_any n
    rw [hv] at hva
    have HVA := Lib.hid hva
    clear hva hv
    obtain ⟨E, hE⟩ : ∃ E, Utf8.encode n = E := ⟨_, rfl⟩
    rw [hE]
    have hconv : ∀ w, (convert 21 9 (.int .i32 n)).run Tryd.prog w = .ok (.string E) w := fun w => by
      rw [← hE]; exact run_convert_int_string w 21 9 .i32 n (by rw [Tryd.underlying21]; rfl) Tryd.underlying9
    clear hE
    cases v
    · go_enter Tryd.func82, Tryd.ntmps82
      go_wp2_with ((go_at_call 76; refine (HVA.out _).mono ?_; rintro e w' ⟨rfl, rfl⟩))
      go_ret2
      exact ⟨rfl, rfl⟩
    · go_enter Tryd.func82, Tryd.ntmps82
      go_wp2_with ((go_at_call 76; refine (HVA.out _).mono ?_; rintro e w' ⟨rfl, rfl⟩))
      go_ret2
      exact ⟨rfl, rfl⟩
  · have hvf : v = false := by rw [← hv]; unfold Utf8.valid; simp; omega
    subst hvf
    clear hv
    go_enter Tryd.func82, Tryd.ntmps82
    go_wp2_with (fail)
    go_ret2
    exact ⟨rfl, rfl⟩
end Go.Proofs.YtadenjlehhopmaaDoor
