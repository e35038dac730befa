/- 'text': a string literal. -/
import Derived.Test.YtadenjlehhopmaaDoorB4
namespace Go.Proofs.YtadenjlehhopmaaDoor
set_option linter.unusedSimpArgs false
set_option linter.unusedVariables false
open Go Go.RowKit Lx
theorem decG_le : ∀ (m : Nat) (l : Bs) (n k : Nat), k ≤ (decG m l n k).2 ∧ (decG m l n k).2 ≤ k + l.length
  | 0, _, _, _ => by simp [decG]
  | _ + 1, [], _, _ => by simp [decG]
  | m + 1, b :: t, n, k => by
    rw [decG_step]
    split
    · have := decG_le m t (10 * n + (b.toNat - 48)) (k + 1)
      simp only [List.length_cons]; omega
    · simp
theorem escF_len {l : Bs} {b : Bs} {n : Nat} (h : escF l = .ok b n) : 2 ≤ n ∧ n ≤ l.length + 1 ∧ b.length ≤ n := by
  cases l with
  | nil => cases h
  | cons c t =>
    rw [escF_cons] at h
    simp only [List.length_cons]
    by_cases hp : plainB c ≠ 0
    · rw [if_pos hp] at h; cases h; simp
    · rw [if_neg hp] at h
      by_cases hx : c = 120
      · rw [if_pos hx] at h
        by_cases h2 : (hexG 2 t 0 0).2 < 2
        · rw [if_pos h2] at h; cases h
        · rw [if_neg h2] at h
          have := hexG_le 2 t 0 0 (by omega)
          cases h; simp; omega
      · rw [if_neg hx] at h
        by_cases hu : c = 117 ∧ t.head? = some 123
        · rw [if_pos hu] at h
          by_cases h3 : (hexG 8 t.tail 0 0).2 = 0 ∨ Utf8.valid (hexG 8 t.tail 0 0).1 = false ∨ (t.tail.drop (hexG 8 t.tail 0 0).2).head? ≠ some 125
          · rw [if_pos h3] at h; cases h
          · rw [if_neg h3] at h
            have := hexG_le 8 t.tail 0 0 (by omega)
            simp only [not_or] at h3
            have hd : (t.tail.drop (hexG 8 t.tail 0 0).2).head? = some 125 := Classical.not_not.1 h3.2.2
            have hlen : (hexG 8 t.tail 0 0).2 < t.tail.length := by
              rcases Nat.lt_or_ge (hexG 8 t.tail 0 0).2 t.tail.length with h' | h'
              · exact h'
              · rw [List.drop_of_length_le h'] at hd; cases hd
            rw [List.length_tail] at hlen
            have hes := encode_size (hexG 8 t.tail 0 0).1
            rw [← bs_length] at hes
            injection h with h4 h5
            subst h4 h5
            omega
        · rw [if_neg hu] at h
          by_cases h3 : (decG 3 (c :: t) 0 0).2 = 0 ∨ (decG 3 (c :: t) 0 0).1 > 255
          · rw [if_pos h3] at h; cases h
          · rw [if_neg h3] at h
            have := decG_le 3 (c :: t) 0 0
            simp only [List.length_cons] at this
            injection h with h4 h5
            subst h4 h5
            simp; omega
theorem textG_nil (q : UInt8) (f : Nat) (acc : Bs) (i : Nat) : textG q f [] acc i = .bad 4 0 := by cases f <;> rfl
theorem textG_cons (q : UInt8) (f : Nat) (b : UInt8) (t : Bs) (acc : Bs) (i : Nat) : textG q (f + 1) (b :: t) acc i =
    if b = 10 then .bad 4 0
    else if b = q then (if acc.length > 10000 then .bad 14 0 else .ok acc (i + 1))
    else if b = 92 then
      match escF t with
      | .ended => .bad 4 0
      | .unfit => .bad 4 i
      | .ok e n => textG q f ((b :: t).drop n) (acc ++ e) (i + n)
    else textG q f t (acc ++ [b]) (i + 1) := rfl
theorem bd_new (w : World) : Bd w.heap.size w.heap.size [] (w.alloc (.cells #[.pointer none, .slice none 0 0] 60)) :=
  .inl ⟨Nat.le_refl _, .slice none 0 0, blk_new w _, World.ownsRow_nil _ _ _ _, by simp [Value.ownBlock]⟩
theorem bstring_any (B b : Nat) (l : Bs) (w : World) (h : Bd B b l w) (hB : B ≤ w.heap.size) :
    Calls Tryd.prog 36 #[.pointer (some ⟨b, 0, none⟩)] w.drew fun e w' => e = .returned (.string (str l)) ∧ Below B w w' :=
  (Tryd.Builder_String_any B b l w.drew h hB).mono fun _ _ ⟨h1, h2⟩ => ⟨h1, (Below.refl B w).drew.trans h2⟩
/-- What 'text' comes to, at the opening quote's place. -/
def TextEnd (r : TextR) (B sb at_ : Nat) (src : ByteArray) (l : List Tok) (w : World) (e : Ending) (w' : World) : Prop :=
  match r with
  | .bad c rel => e = failEnd c (at_ + rel : Nat) ∧ Below B w w'
  | .ok v n => e = .returned (.tuple #[]) ∧ Sc B sb src (at_ + n) (l ++ [⟨4, v, 0, at_⟩]) w' ∧ Below B w w'
set_option maxHeartbeats 4000000 in
set_option maxRecDepth 100000 in
theorem text_any (B sb at_ : Nat) (src : ByteArray) (l : List Tok) (q : UInt8) (t : Bs) (w : World) (h : Sc B sb src at_ l w) (hl : (bs src).drop at_ = q :: t) (hs : src.size ≤ 100000) (hll : l.length ≤ 100000) (hBw : B ≤ w.heap.size) :
    Calls Tryd.prog 47 #[.pointer (some ⟨sb, 0, none⟩), .int .u8 q.toNat] w (TextEnd (textG q (q :: t).length t [] 1) B sb at_ src l w) := by
  have hlen := congrArg List.length hl
  rw [List.length_drop, bs_length] at hlen
  simp only [List.length_cons] at hlen
  obtain ⟨R9, hR9⟩ : ∃ R9, textG q (q :: t).length t [] 1 = R9 := ⟨_, rfl⟩
  rw [hR9]
  have HR9 := Lib.hid hR9
  have HL := Lib.hid hl
  obtain ⟨hb, c0, c1⟩ := h.reads
  have HSC := Lib.hid h
  have hat : at_ < src.size := by omega
  have HLEN := Lib.hid hlen
  clear hR9 hl h hlen
  go_enter Tryd.func47, Tryd.ntmps47
  go_wp2_with fail
  have HB0 := Lib.hid ((Below.refl w.heap.size w).alloc (Nat.le_refl _) (.cells #[.pointer none, .slice none 0 0] 60))
  have HBD0 := Lib.hid (bd_new w)
  clear c0 c1 hb
  go_loopw [5] (fun iv wr => ∃ (i f : Nat) (acc : Bs), at_ + 1 ≤ i ∧ i ≤ src.size ∧ src.size - i + 1 ≤ f ∧ acc.length ≤ i ∧ iv = .int .i64 i ∧ Hid (textG q f ((bs src).drop i) acc (i - at_) = R9) ∧ Hid (Bd w.heap.size w.heap.size acc wr) ∧ Hid (Below w.heap.size w wr)) (fun iv _ => src.size - (intOf iv).toNat)
  case atStart =>
    refine ⟨at_ + 1, (q :: t).length, [], by omega, by omega, by have := HLEN.out; simp only [List.length_cons]; omega, by simp, by go_num, ?_, HBD0, HB0⟩
    have e : (bs src).drop (at_ + 1) = t := by
      have := congrArg List.tail HL.out
      rw [List.tail_drop] at this
      exact this
    unfold Hid
    rw [e, Nat.add_sub_cancel_left]
    exact HR9.out
  case round =>
    obtain ⟨i, f, acc, hi1, hi2, hf, hacc, rfl, HG, HBD, HBL⟩ := hrel
    have HSC2 := Lib.hid (HSC.out.later HBL.out)
    obtain ⟨hb, c0, c1⟩ := HSC2.out.reads
    have hB1 : w.heap.size ≤ wr.heap.size := HBL.out.size
    clear HB0 HBD0
    by_cases hend : i < src.size
    · have hz : (i : Int) < src.size := by omega
      have hz0 : ¬ (src.size : Int) ≤ i := by omega
      have hiz : (i : Int) ≤ 100000 := by omega
      have hg := HG.out
      obtain ⟨f, rfl⟩ : ∃ g, f = g + 1 := ⟨f - 1, by omega⟩
      rw [drop_at src i hend, textG_cons] at hg
      have HGG := Lib.hid hg
      clear hg
      by_cases h10 : src[i] = 10
      · have hn : ((src[i].toNat : Int) == 10) = true := (byte_beq _ 10).1 h10
        go_wp2_with fail
        refine (fail_any _ _ _).mono ?_
        rintro e w' ⟨rfl, rfl⟩
        go_wp2_with fail
        refine ⟨rfl, ?_⟩
        have hg := HGG.out
        rw [if_pos h10] at hg
        rw [← hg]
        exact ⟨rfl, HBL.out.mono hBw⟩
      · have hn : ((src[i].toNat : Int) == 10) = false := Bool.eq_false_iff.2 fun h => h10 ((byte_beq _ 10).2 h)
        by_cases hq : src[i] = q
        · have hqn : ((src[i].toNat : Int) == (q.toNat : Int)) = true := (byte_beq _ _).1 hq
          have hqn2 : (src[i].toNat == q.toNat) = true := by rw [hq]; simp
          have HLN := Lib.hid (fun w h => blen_any w.heap.size w.heap.size acc w h)
          by_cases hbig : acc.length > 10000
          · have hbz : (10000 : Int) < acc.length := by omega
            have HLEN2 := Lib.hid (blen_any w.heap.size w.heap.size acc wr HBD.out)
            go_wp2_with fail
            refine HLEN2.out.mono ?_
            rintro e w' ⟨rfl, rfl⟩
            go_wp2_with fail
            refine (fail_any _ _ _).mono ?_
            rintro e w' ⟨rfl, rfl⟩
            go_wp2_with fail
            refine ⟨rfl, ?_⟩
            have hg := HGG.out
            rw [if_neg h10, if_pos hq, if_pos hbig] at hg
            rw [← hg]
            exact ⟨rfl, HBL.out.mono hBw⟩
          · have hbz : ¬ (10000 : Int) < acc.length := by omega
            have HLEN2 := Lib.hid (blen_any w.heap.size w.heap.size acc wr HBD.out)
            go_wp2_with fail
            refine HLEN2.out.mono ?_
            rintro e w' ⟨rfl, rfl⟩
            go_wp2_with fail
            have hsC : sb < w.heap.size := HSC.out.lt
            have HSTR := Lib.hid (bstring_any w.heap.size w.heap.size acc wr HBD.out hB1)
            refine wp_region_plan [(0, 0), (3, 0), (4, 0), (5, 0), (6, 0), (7, 0), (8, 3), (9, 0), (1, 1), (2, 0)] (fun w' => w'.cell? ⟨sb, 1, none⟩ = some (.int .i64 at_)) (by kernel_rfl) (by kernel_rfl) (fun _ _ d _ _ h => by cases d <;> exact h) (by first | exact c1 | exact (hb2.cell (p := ⟨sb, 1, none⟩) hsC).trans c1) ?_
            simp only [planOps, List.filterMap_cons, List.filterMap_nil, List.getElem?_toArray, List.getElem?_cons_zero, List.getElem?_cons_succ, Option.map_some, List.drop_succ_cons, List.drop_zero, List.length_cons, List.length_nil]
            iterate 6 (refine plan_pure (by rfl) (fun wq => by go_simp; with_reducible rfl) ?_; simp only [Act.put, List.setIfInBounds_toArray, List.set_cons_zero, List.set_cons_succ])
            iterate 1 (refine plan_load (by rfl) (fun wq hq1 => by go_simp; with_reducible rfl) ?_; simp only [Act.put, List.setIfInBounds_toArray, List.set_cons_zero, List.set_cons_succ])
            iterate 1 (refine plan_pure (by rfl) (fun wq => by go_simp; with_reducible rfl) ?_; simp only [Act.put, List.setIfInBounds_toArray, List.set_cons_zero, List.set_cons_succ])
            refine plan_turn ?_ ?_
            · rfl
            intro K hK
            (go_wp2_with fail; refine HSTR.out.mono ?_; rintro e w2 ⟨rfl, hb2⟩; go_wp2_with fail)
            refine ⟨by first | exact c1 | exact (hb2.cell (p := ⟨sb, 1, none⟩) hsC).trans c1, ?_⟩
            iterate 1 (refine plan_pure (by rfl) (fun wq => by go_simp; with_reducible rfl) ?_; simp only [Act.put, List.setIfInBounds_toArray, List.set_cons_zero, List.set_cons_succ])
            refine plan_done ?_
            go_wp2_with fail
            have HB2 := Lib.hid (HBL.out.trans hb2)
            have e2 : (i : Int) + 1 - at_ = ((i + 1 - at_ : Nat) : Int) := by omega
            rw [e2]
            refine (add_any B sb at_ src l (i + 1 - at_) 4 0 0 (str acc) w2 (HSC.out.later HB2.out) (by have := HB2.out.size; omega) hll (by omega)).mono ?_
            rintro e w3 ⟨rfl, hsc3, hb3⟩
            go_wp2_with fail
            refine bodyPost_ret (results_none rfl _ _ _) rfl ?_
            have hg := HGG.out
            rw [if_neg h10, if_pos hq, if_neg hbig] at hg
            rw [← hg]
            refine ⟨rfl, ?_, (HB2.out.mono hBw).trans hb3⟩
            rw [show i - at_ + 1 = i + 1 - at_ by omega]
            rw [bs_str] at hsc3
            exact hsc3
        · have hqn : ((src[i].toNat : Int) == (q.toNat : Int)) = false := Bool.eq_false_iff.2 fun h => hq ((byte_beq _ _).2 h)
          have hqn2 : (src[i].toNat == q.toNat) = false := by rw [Bool.eq_false_iff]; intro h; exact hq (UInt8.toNat_inj.1 (by simpa using h))
          by_cases h92 : src[i] = 92
          · have hbn : ((src[i].toNat : Int) == 92) = true := (byte_beq _ 92).1 h92
            have HESC := Lib.hid (esc_any sb at_ i w.heap.size w.heap.size src acc wr hb c0 c1 (by omega) (by omega) HBD.out (by omega) hB1)
            go_wp2_with fail
            refine HESC.out.mono ?_
            intro e w2 hesc
            have hg := HGG.out
            rw [if_neg h10, if_neg hq, if_pos h92] at hg
            cases hE : escF ((bs src).drop (i + 1)) with
            | ended =>
              rw [hE] at hesc hg
              have he : e = failEnd 4 at_ := hesc.1
              have HB7 := Lib.hid ((HBL.out.trans hesc.2).mono hBw)
              clear hesc
              subst he
              go_wp2_with fail
              refine ⟨rfl, ?_⟩
              rw [← hg]
              exact ⟨rfl, HB7.out⟩
            | unfit =>
              rw [hE] at hesc hg
              have he : e = failEnd 4 i := hesc.1
              have HB7 := Lib.hid ((HBL.out.trans hesc.2).mono hBw)
              clear hesc
              subst he
              go_wp2_with fail
              refine ⟨rfl, ?_⟩
              rw [← hg]
              refine ⟨?_, HB7.out⟩
              rw [show at_ + (i - at_) = i by omega]
            | ok b n =>
              rw [hE] at hesc hg
              obtain ⟨he, hbd2, hb2⟩ := hesc
              have HELEN := Lib.hid (escF_len hE)
              have HG9 := Lib.hid hg
              subst he
              clear hE hg
              have hn1 := HELEN.out.2.1
              rw [List.length_drop, bs_length] at hn1
              have hnz : (i : Int) + n ≤ 1000000 := by omega
              go_wp2_with fail
              go_roundw
              case rel =>
                refine ⟨i + n, f, acc ++ b, by omega, by omega, by have := HELEN.out.1; omega, by have := HELEN.out.2.2; rw [List.length_append]; omega, by go_num, ?_, hbd2, HBL.out.trans hb2⟩
                unfold Hid
                have hg := HG9.out
                rw [show i + n - at_ = i - at_ + n by omega, ← List.drop_drop, drop_at src i hend]
                exact hg
              case measure => have := HELEN.out.1; simp [intOf]; omega
          · have hbn : ((src[i].toNat : Int) == 92) = false := Bool.eq_false_iff.2 fun h => h92 ((byte_beq _ 92).2 h)
            have HWB := Lib.hid (wbyte_any w.heap.size w.heap.size acc src[i] wr HBD.out (by omega) hB1)
            go_wp2_with fail
            refine HWB.out.mono ?_
            rintro e w2 ⟨rfl, hbd2, hb2⟩
            go_wp2_with fail
            go_roundw
            case rel =>
              refine ⟨i + 1, f, acc ++ [src[i]], by omega, by omega, by omega, by simp; omega, by go_num, ?_, hbd2, HBL.out.trans hb2⟩
              have hg := HGG.out
              rw [if_neg h10, if_neg hq, if_neg h92] at hg
              unfold Hid
              rw [show i + 1 - at_ = i - at_ + 1 by omega]
              exact hg
            case measure => simp [intOf]; omega
    · have hz : (src.size : Int) ≤ i := by omega
      go_wp2_with fail
      refine (fail_any _ _ _).mono ?_
      rintro e w' ⟨rfl, rfl⟩
      go_wp2_with fail
      refine ⟨rfl, ?_⟩
      have hg := HG.out
      rw [List.drop_of_length_le (by rw [bs_length]; omega), textG_nil] at hg
      rw [← hg]
      exact ⟨rfl, HBL.out.mono hBw⟩
end Go.Proofs.YtadenjlehhopmaaDoor
