/- The program's scanner, as the walks over pieces use it. -/
import Derived.Test.YtadenjlehhopmaaDoorD0
import Derived.Test.YtadenjlehhopmaaDoorG4
import Derived.Test.YtadenjlehhopmaaDoorJ6
namespace Go.Proofs.YtadenjlehhopmaaDoor
set_option linter.unusedSimpArgs false
set_option linter.unusedVariables false
open Go Go.RowKit Lx
/-- A piece that holds the library's variables. -/
def GlP (G : Frag) : Prop := ∀ w, G.On w → Gl w
theorem Gl.piece {w : World} (h : Gl w) : GlP (Go.Proofs.YtadenjlehhopmaaDoor.old w) := fun w' hw => by
  have hb : ∀ k, k < w.heap.size → w'.heap[k]? = w.heap[k]? := fun k hk => by
    have h1 : w.heap[k]? = some w.heap[k] := Array.getElem?_eq_getElem hk
    rw [h1]
    exact hw k w.heap[k] h1
  have hs : w.heap.size ≤ w'.heap.size := by
    rcases Nat.lt_or_ge 0 w.heap.size with h0 | h0
    · have := hb (w.heap.size - 1) (by omega)
      have h1 : w.heap[w.heap.size - 1]? = some w.heap[w.heap.size - 1] := Array.getElem?_eq_getElem (by omega)
      rw [h1] at this
      have := (Array.getElem?_eq_some_iff.1 this).1
      omega
    · omega
  have hl : Gl { w with heap := w'.heap } := h.below (B := w.heap.size) ⟨rfl, rfl, rfl, hs, hb⟩ h.size
  exact ⟨hl.utf, hl.space, hl.maxLen, hl.size⟩
/-- A token, as the printed functions have it. -/
def tokT (t : Tok) : Int × ByteArray × Int × Int := (t.kind, str t.text, t.n, t.at_)
def e36 (x : Int × ByteArray × Int × Int) : List Value := [.int .i64 x.1, .string x.2.1, .int .i64 x.2.2.1, .int .i64 x.2.2.2]
theorem e36_ok : EncOk e36 4 := ⟨fun _ => rfl, fun _ => rfl⟩
theorem tokRow_e (l : List Tok) : (l.map tokT).flatMap e36 = tokRow l := by
  induction l with
  | nil => rfl
  | cons t l ih => simp only [List.map_cons, List.flatMap_cons, ih]; rfl
def lexR (s : ByteArray) : List (Int × ByteArray × Int × Int) × Int × Int :=
  match scanF (bs s) with
  | .inl (c, a) => ([], c, a)
  | .inr l => (l.map tokT, 0, 0)
def lex_Scan.f (_k : Nat) (s : ByteArray) : Option (List (Int × ByteArray × Int × Int) × Int × Int) := some (lexR s)
theorem own_row {w : World} {B : Nat} {v : Value} {l : List Tok} (h : w.ownsRow B 36 4 v l.length (tokRow l)) : ∃ A c, v = .slice A (l.map tokT).length c ∧ ((v = .slice none 0 0 ∧ l = []) ∨ ∃ g cur, B ≤ g ∧ A = some ⟨g, 0, none⟩ ∧ w.heap[g]? = some (.cells cur 36 (0, 0)) ∧ OwnT e36 36 4 (blk g (.cells cur 36 (0, 0))) v (l.map tokT)) := by
  rcases h.2 with ⟨rfl, h0⟩ | ⟨g, cap, cur, rfl, hb, hg, h1, h2, h3, h4⟩
  · have : l = [] := List.eq_nil_of_length_eq_zero h0
    subst this
    exact ⟨none, 0, rfl, .inl ⟨rfl, rfl⟩⟩
  · refine ⟨some ⟨g, 0, none⟩, cap, by rw [List.length_map], .inr ⟨g, cur, hb, rfl, hg, ?_⟩⟩
    unfold OwnT
    rw [tokRow_e, List.length_map]
    refine ⟨h.1, fun u hu => ?_, .inr ⟨g, cap, cur, rfl, rfl, h1, h2, h3, h4⟩⟩
    rw [← tokRow_e] at hu
    exact e36_ok.ones _ u hu
theorem St.fresh {A w w' : World} {X : List Frag} (hw : St A X w) (hb : Below w.heap.size w w') {g : Nat} {o : Obj} (hg : w.heap.size ≤ g) (ho : w'.heap[g]? = some o) : St A (blk g o :: X) w' := by
  have h := hw.below hb
  refine ⟨⟨fun k o' hk => ?_, fun f hf k => ?_, h.sat⟩, h.os, h.tape, h.output, h.size⟩
  · unfold blk at hk
    split at hk
    · rename_i e; subst e; cases hk; exact ho
    · cases hk
  · unfold blk
    split
    · rename_i e
      subst e
      cases hk : f k with
      | none => exact .inr rfl
      | some o' => exact absurd (hw.sat.lt hf hk) (by omega)
    · exact .inl rfl
theorem lex_Scan.ok {k : Nat} {a0 : ByteArray} {G : Frag} {r : List (Int × ByteArray × Int × Int) × Int × Int} (h : lex_Scan.f k a0 = some r) (hG : GlP G) :
    Ct Tryd.prog 10 #[.string a0] [] [G] fun e l1 => ∃ (H0_ : Frag) (A0_ : Option Addr) (c0_ : Nat), OwnT e36 36 4 H0_ (.slice A0_ r.1.length c0_) r.1 ∧ e = .returned (.tuple #[.slice A0_ r.1.length c0_, .agg #[.int .i64 r.2.1, .int .i64 r.2.2]]) ∧ l1 = [H0_] := by
  obtain rfl := Option.some.inj h
  intro A w X hh hw
  have hg := hG w (hw.sat.on G hh.1)
  refine (scan_any a0 w hg).mono fun e w' he => ?_
  unfold lexR
  cases hs : scanF (bs a0) with
  | inl ca =>
    obtain ⟨c, a⟩ := ca
    rw [hs] at he
    obtain ⟨rfl, hb⟩ := he
    exact ⟨[none_], ⟨none_, none, 0, OwnT.nil e36 36 4 none_, rfl, rfl⟩, by
      have := hw.below hb
      exact ⟨⟨fun _ _ h => (by cases h), fun _ _ _ => .inl rfl, this.sat⟩, this.os, this.tape, this.output, this.size⟩⟩
  | inr l =>
    rw [hs] at he
    obtain ⟨lv, rfl, hrow, hb⟩ := he
    obtain ⟨A0, c0, rfl, hc⟩ := own_row hrow
    rcases hc with ⟨he, rfl⟩ | ⟨g, cur, hg1, hA, hg2, hO⟩
    · cases he
      exact ⟨[none_], ⟨none_, none, 0, OwnT.nil e36 36 4 none_, rfl, rfl⟩, by
        have := hw.below hb
        exact ⟨⟨fun _ _ h => (by cases h), fun _ _ _ => .inl rfl, this.sat⟩, this.os, this.tape, this.output, this.size⟩⟩
    · exact ⟨[blk g _], ⟨_, A0, c0, hO, rfl, rfl⟩, hw.fresh hb hg1 hg2⟩
def law11_fixed.f (_k : Nat) : Option Bool := some true
theorem law11_fixed.ok {k : Nat} {G : Frag} {r : Bool} (h : law11_fixed.f k = some r) (hG : GlP G) : Ct Tryd.prog 12 #[] [] [G] fun e l1 => e = .returned (.bool r) ∧ l1 = [] := by
  obtain rfl := Option.some.inj h
  intro A w X hh hw
  exact (fixed_any w (hG w (hw.sat.on G hh.1))).mono fun e w' ⟨h1, h2⟩ => ⟨[], ⟨h1, rfl⟩, hw.below h2⟩
end Go.Proofs.YtadenjlehhopmaaDoor
