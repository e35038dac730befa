/- 'Scan'. -/
import Derived.Test.YtadenjlehhopmaaDoorC0
import Derived.Test.YtadenjlehhopmaaDoorW1
namespace Go.Proofs.YtadenjlehhopmaaDoor
set_option linter.unusedSimpArgs false
set_option linter.unusedVariables false
open Go Go.RowKit Lx
/-- What 'Scan' comes to. -/
def ScanEnd (R : (Int × Int) ⊕ List Tok) (w : World) (e : Ending) (w' : World) : Prop :=
  match R with
  | .inl (c, a) => e = .returned (.tuple #[.slice none 0 0, .agg #[.int .i64 c, .int .i64 a]]) ∧ Below w.heap.size w w'
  | .inr l => ∃ lv, e = .returned (.tuple #[lv, .agg #[.int .i64 0, .int .i64 0]]) ∧ w'.ownsRow w.heap.size 36 4 lv l.length (tokRow l) ∧ Below w.heap.size w w'
def posOf (sb : Nat) (w : World) : Nat := match w.cell? ⟨sb, 1, none⟩ with | some (.int _ k) => k.toNat | _ => 0
theorem posOf_sc {B sb at_ : Nat} {src : ByteArray} {l : List Tok} {w : World} (h : Sc B sb src at_ l w) : posOf sb w = at_ := by
  unfold posOf
  rw [h.reads.2.2]
  simp
theorem sc_new (src : ByteArray) (B : Nat) (w : World) (hB : B ≤ w.heap.size) : Sc B w.heap.size src 0 [] (w.alloc (.cells #[.string src, .int .i64 0, .slice none 0 0] 48)) :=
  ⟨.slice none 0 0, blk_new w _, ⟨by simp [tokRow], .inl ⟨rfl, rfl⟩⟩, by simp [Value.ownBlock], hB⟩
theorem ownsRow_base {w : World} {B B' : Nat} {e : TypeId} {size n : Nat} {v : Value} {xs : List Value} (h : w.ownsRow B e size v n xs) (hB : B' ≤ B) : w.ownsRow B' e size v n xs := by
  refine ⟨h.1, ?_⟩
  rcases h.2 with h | ⟨g, cap, cur, hv, hg, r⟩
  · exact .inl h
  · exact .inr ⟨g, cap, cur, hv, by omega, r⟩
set_option maxHeartbeats 4000000 in
set_option maxRecDepth 100000 in
theorem scan_big (src : ByteArray) (w : World) (hs : src.size > 20000) : Calls Tryd.prog 10 #[.string src] w (ScanEnd (.inl (14, -1)) w) := by
  have hz : (20000 : Int) < src.size := by omega
  go_enter_defers Tryd.func10, Tryd.ntmps10
  go_wp2_with fail
  simp [bodyPostD, Leaves, settle, results, Tryd.results10, go_sem]
  exact ⟨rfl, (((Below.refl w.heap.size w).alloc (Nat.le_refl _) _).alloc (by simp) _)⟩
set_option maxHeartbeats 4000000 in
set_option maxRecDepth 100000 in
theorem scan_small (src : ByteArray) (w : World) (hs : src.size ≤ 20000) (hg : Gl w) : Calls Tryd.prog 10 #[.string src] w (ScanEnd (scanG (src.size + 1) (bs src) 0 []) w) := by
  obtain ⟨R9, hR9⟩ : ∃ R9, scanG (src.size + 1) (bs src) 0 [] = R9 := ⟨_, rfl⟩
  rw [hR9]
  have HR9 := Lib.hid hR9
  have HG := Lib.hid hg
  have hz : ¬ (20000 : Int) < src.size := by omega
  clear hR9 hg
  have hmf : ∀ (fn : Fn) (first cap : Array Value) (w : World), (Instr.makeFunc fn first cap).run Tryd.prog w = .ok (.func fn first cap) w := fun _ _ _ _ => rfl
  go_enter_defers Tryd.func10, Tryd.ntmps10
  go_wp2_with fail
  have HSC0 := sc_new src (w.heap.size + 2) ((w.alloc (.cells #[.slice none 0 0] 22)).alloc (.cells #[.int .i64 0, .int .i64 0] 25)) (by simp)
  simp only [World.size_alloc] at HSC0
  have HSC0 := Lib.hid HSC0
  have HBP := Lib.hid (blk_alloc (o' := .cells #[.string src, .int .i64 0, .slice none 0 0] 48) (blk_alloc (o' := .cells #[.int .i64 0, .int .i64 0] 25) (blk_new w (.cells #[.slice none 0 0] 22))))
  have hbq := blk_alloc (o' := .cells #[.string src, .int .i64 0, .slice none 0 0] 48) (blk_new (w.alloc (.cells #[.slice none 0 0] 22)) (.cells #[.int .i64 0, .int .i64 0] 25))
  simp only [World.size_alloc] at hbq
  have HBQ := Lib.hid hbq
  have HB0 := Lib.hid ((((Below.refl w.heap.size w).alloc (Nat.le_refl _) (.cells #[.slice none 0 0] 22)).alloc (by simp) (.cells #[.int .i64 0, .int .i64 0] 25)).alloc (by simp; omega) (.cells #[.string src, .int .i64 0, .slice none 0 0] 48))
  clear hbq
  generalize hw3 : ((w.alloc (.cells #[.slice none 0 0] 22)).alloc (.cells #[.int .i64 0, .int .i64 0] 25)).alloc (.cells #[.string src, .int .i64 0, .slice none 0 0] 48) = w3 at *
  have hsz3 : w3.heap.size = w.heap.size + 3 := by rw [← hw3]; simp
  clear hw3
  go_loopw [] (fun wr => ∃ (at_ f : Nat) (l : List Tok), at_ ≤ src.size ∧ l.length ≤ at_ ∧ src.size - at_ + 1 ≤ f ∧ Hid (Sc (w.heap.size + 2) (w.heap.size + 1 + 1) src at_ l wr) ∧ Hid (scanG f ((bs src).drop at_) at_ l = R9) ∧ Hid (Below (w.heap.size + 2) w3 wr)) (fun wr => src.size - posOf (w.heap.size + 1 + 1) wr)
  case atStart => exact ⟨0, src.size + 1, [], by omega, by simp, by omega, HSC0, HR9, Below.refl _ _⟩
  case round =>
    obtain ⟨at_, f, l, h1, h2, h3, HSC, HGG, HBL⟩ := hrel
    have hszr := HBL.out.size
    have HNX := next_any (w.heap.size + 2) (w.heap.size + 1 + 1) at_ src l wr HSC.out ((HG.out.below HB0.out HG.out.size).below HBL.out (by have := HG.out.size; omega)) h1 (by omega) (by omega) (by omega) (by have := HG.out.size; omega)
    obtain ⟨f, rfl⟩ : ∃ g, f = g + 1 := ⟨f - 1, by omega⟩
    have hg := HGG.out
    simp only [scanG] at hg
    have hk := runL_le' blankR ((bs src).drop at_)
    generalize runL blankR ((bs src).drop at_) = k at *
    have hlen : (((bs src).drop at_).drop k).length = src.size - at_ - k := by rw [List.length_drop, List.length_drop, bs_length]
    rw [List.length_drop, bs_length] at hk
    cases hst : stepF (((bs src).drop at_).drop k) with
    | done =>
      rw [hst] at hg HNX
      simp only at hg
      have HN := Lib.hid HNX
      have HE := Lib.hid hg
      clear hg HNX hst hlen HGG
      go_wp2_with fail
      refine HN.out.mono ?_
      rintro e w4 ⟨rfl, hsc4, hb4⟩
      have HADD := Lib.hid (add_any (w.heap.size + 2) (w.heap.size + 1 + 1) (at_ + k) src l 0 6 0 0 ByteArray.empty w4 hsc4 (by have := hb4.size; omega) (by omega) (by omega))
      have HB4 := Lib.hid (HBL.out.trans hb4)
      clear hsc4 hb4
      go_wp2_with fail
      refine HADD.out.mono ?_
      rintro e w5 ⟨rfl, hsc5, hb5⟩
      have HB5 := Lib.hid (HB4.out.trans hb5)
      have hlen5 : (l ++ [(⟨6, bs ByteArray.empty, 0, at_ + k⟩ : Tok)]).length = l.length + 1 := by simp
      obtain ⟨lv, hblk, hown, hne, hsb⟩ := hsc5
      rw [hlen5] at hown
      obtain ⟨g, cap, hv, hg1, hg2⟩ := owns_shape hown hblk (by decide)
      subst hv
      have c2 : w5.cell? ⟨w.heap.size + 1 + 1, 2, none⟩ = some (.slice (some ⟨g, 0, none⟩) (l.length + 1) cap) := by rw [blk_cell hblk]; rfl
      have hb0 := blk_lt hblk
      have HOWN := Lib.hid hown
      have hp := blk_below HB5.out (by omega) HBP.out
      have hq := blk_below HB5.out (by omega) HBQ.out
      have p0 : w5.cell? ⟨w.heap.size, 0, none⟩ = some (.slice none 0 0) := by rw [blk_cell hp]; rfl
      have q0 : w5.cell? ⟨w.heap.size + 1, 0, none⟩ = some (.int .i64 0) := by rw [blk_cell hq]; rfl
      have q1 : w5.cell? ⟨w.heap.size + 1, 1, none⟩ = some (.int .i64 0) := by rw [blk_cell hq]; rfl
      have pf := blk_free hp 0
      have qf0 := blk_free hq 0
      have qf1 := blk_free hq 1
      clear hsb hne hown hblk hp hq hb5 hlen5
      go_wp2_with fail
      have hgp : ¬ w.heap.size = g := by omega
      have hgq : ¬ w.heap.size + 1 = g := by omega
      have r0 : (((w5.setCell ⟨w.heap.size, 0, none⟩ (.slice (some ⟨g, 0, none⟩) (l.length + 1) cap)).setCell ⟨w.heap.size + 1, 0, none⟩ (.int .i64 0)).setCell ⟨w.heap.size + 1, 1, none⟩ (.int .i64 0)).cell? ⟨w.heap.size, 0, none⟩ = some (.slice (some ⟨g, 0, none⟩) (l.length + 1) cap) := by go_simp
      have r1 : (((w5.setCell ⟨w.heap.size, 0, none⟩ (.slice (some ⟨g, 0, none⟩) (l.length + 1) cap)).setCell ⟨w.heap.size + 1, 0, none⟩ (.int .i64 0)).setCell ⟨w.heap.size + 1, 1, none⟩ (.int .i64 0)).cell? ⟨w.heap.size + 1, 0, none⟩ = some (.int .i64 0) := by go_simp
      have r2 : (((w5.setCell ⟨w.heap.size, 0, none⟩ (.slice (some ⟨g, 0, none⟩) (l.length + 1) cap)).setCell ⟨w.heap.size + 1, 0, none⟩ (.int .i64 0)).setCell ⟨w.heap.size + 1, 1, none⟩ (.int .i64 0)).cell? ⟨w.heap.size + 1, 1, none⟩ = some (.int .i64 0) := by go_simp
      generalize hw9 : ((w5.setCell ⟨w.heap.size, 0, none⟩ (.slice (some ⟨g, 0, none⟩) (l.length + 1) cap)).setCell ⟨w.heap.size + 1, 0, none⟩ (.int .i64 0)).setCell ⟨w.heap.size + 1, 1, none⟩ (.int .i64 0) = w9 at *
      have HR : Hid (w9.ownsRow (w.heap.size + 2) 36 4 (.slice (some ⟨g, 0, none⟩) (l.length + 1) cap) (l.length + 1) (tokRow (l ++ [⟨6, bs ByteArray.empty, 0, at_ + k⟩]))) := by
        refine ⟨HOWN.out.1, ?_⟩
        rcases HOWN.out.2 with ⟨h, _⟩ | ⟨g', cap', cur, hv, hg, hh, r⟩
        · cases h
        · cases hv
          rw [← hw9]
          exact .inr ⟨g, cap, cur, rfl, hg, blk_set_ne (blk_set_ne (blk_set_ne hh hgp _) hgq _) hgq _, r⟩
      have HB9 : Hid (Below w.heap.size w w9) := by
        rw [← hw9]
        exact (((HB0.out.trans (HB5.out.mono (by omega))).setCell (p := ⟨w.heap.size, 0, none⟩) (Nat.le_refl _) _).setCell (p := ⟨w.heap.size + 1, 0, none⟩) (by simp) _).setCell (p := ⟨w.heap.size + 1, 1, none⟩) (by simp) _
      clear hw9 HBP HBQ HSC HB4 HBL HN HADD p0 q0 q1 pf qf0 qf1 c2
      refine leaves_cons (f := 21) (args := #[.pointer (some ⟨w.heap.size, 0, none⟩), .pointer (some ⟨w.heap.size + 1, 0, none⟩)]) (by simp) (by simp [go_sem]) ?_
      refine (scan_idle _ _ _).mono ?_
      rintro e u' w'' ⟨rfl, rfl, rfl⟩
      rw [← HE.out]
      simp [Leaves, settle, results, Tryd.results10, go_sem, r0, r1, r2]
      refine ⟨.slice (some ⟨g, 0, none⟩) (l.length + 1) cap, rfl, ?_, HB9.out⟩
      have h9 := HR.out
      rw [show bs ByteArray.empty = [] from rfl] at h9
      exact ownsRow_base (B := w.heap.size + 2) (B' := w.heap.size) (by rw [List.length_append]; exact h9) (Nat.le_add_right _ _)
    | skip n =>
      rw [hst] at hg HNX
      have hn := stepF_skip _ _ hst
      simp only at hg
      have HN := Lib.hid HNX
      have HE := Lib.hid hg
      clear hg HNX hst HGG
      go_wp2_with fail
      refine HN.out.mono ?_
      rintro e w4 ⟨rfl, hsc4, hb4⟩
      have hpo := posOf_sc hsc4
      have hpo2 := posOf_sc HSC.out
      go_wp2_with fail
      go_roundw
      case rel =>
        refine ⟨at_ + k + n, f, l, by omega, by omega, by omega, hsc4, ?_, HBL.out.trans hb4⟩
        unfold Hid
        rw [← HE.out, List.drop_drop, List.drop_drop, show at_ + (k + n) = at_ + k + n by omega]
      case measure => rw [hpo, hpo2]; omega
    | tok kd tx n len =>
      rw [hst] at hg HNX
      have hn := stepF_tok _ _ _ _ _ hst
      simp only at hg
      have HN := Lib.hid HNX
      have HE := Lib.hid hg
      clear hg HNX hst HGG
      go_wp2_with fail
      refine HN.out.mono ?_
      rintro e w4 ⟨rfl, hsc4, hb4⟩
      have hpo := posOf_sc hsc4
      have hpo2 := posOf_sc HSC.out
      go_wp2_with fail
      go_roundw
      case rel =>
        refine ⟨at_ + k + len, f, l ++ [(⟨kd, tx, n, at_ + k⟩ : Tok)], by omega, by rw [List.length_append, List.length_singleton]; omega, by omega, hsc4, ?_, HBL.out.trans hb4⟩
        unfold Hid
        rw [← HE.out, List.drop_drop, List.drop_drop, show at_ + (k + len) = at_ + k + len by omega]
      case measure => rw [hpo, hpo2]; omega
    | bad c r =>
      rw [hst] at hg HNX
      simp only at hg
      have HN := Lib.hid HNX
      have HE := Lib.hid hg
      clear hg HNX hst HGG
      go_wp2_with fail
      refine HN.out.mono ?_
      rintro e w4 ⟨rfl, hb4⟩
      have HB4 := Lib.hid (HBL.out.trans hb4)
      go_wp2_with fail
      have hp := blk_below HB4.out (by omega) HBP.out
      have hq := blk_below HB4.out (by omega) HBQ.out
      refine leaves_cons (f := 21) (args := #[.pointer (some ⟨w.heap.size, 0, none⟩), .pointer (some ⟨w.heap.size + 1, 0, none⟩)]) (by simp) (by simp [go_sem]) ?_
      have hcz : (at_ : Int) + k + r = ((at_ + k + r : Nat) : Int) := by omega
      rw [hcz]
      refine (scan_panicking w.heap.size (w.heap.size + 1) (.slice none 0 0) 0 0 c ((at_ + k + r : Nat) : Int) w4 (by rw [blk_cell hp]; rfl) (by rw [blk_cell hq]; rfl) (by rw [blk_cell hq]; rfl) (blk_free hp 0) (blk_free hq 0) (blk_free hq 1) (blk_lt hp) (blk_lt hq) (by omega)).mono ?_
      rintro e u' w'' ⟨rfl, rfl, r0, r1, r2, hb9⟩
      rw [← HE.out]
      have HB9 := Lib.hid ((HB0.out.trans (HB4.out.mono (by omega))).trans hb9)
      clear hp hq HN HBP HBQ HSC HB4 HBL hb4 hcz
      simp [Leaves, settle, results, Tryd.results10, go_sem, r0, r1, r2]
      exact ⟨rfl, HB9.out⟩
theorem scan_any (src : ByteArray) (w : World) (hg : Gl w) : Calls Tryd.prog 10 #[.string src] w (ScanEnd (scanF (bs src)) w) := by
  unfold scanF
  rw [bs_length]
  by_cases h : src.size > 20000
  · rw [if_pos h]; exact scan_big src w h
  · rw [if_neg h]; exact scan_small src w (by omega) hg
end Go.Proofs.YtadenjlehhopmaaDoor
