/- LexQuotes, where what it reads is of bulk at most 1048576: the call answers true, and the input reads as it did. -/
import Derived.Test.YtoaplbeojagjcaaDoorRows
import Derived.ProofKit
import Derived.Lay
import Derived.Lib.LaidU8T
import Derived.SevenTiedAt
import Derived.SizedLaws
import Derived.Deep.DeepHandedRow
import Derived.Test.YtoaplbeojagjcaaDoorCards
import Derived.Test.YtoaplbeojagjcaaDoorTie
import Derived.Test.YtoaplbeojagjcaaDoorQuC
set_option linter.unusedSimpArgs false
set_option linter.unusedVariables false
set_option linter.unusedSectionVars false
namespace Go.Proofs.YtoaplbeojagjcaaDoor
open Go Go.RowKit Go.ChangeShapes Go.WideShapes Go.ChangeAt Go.Lib
theorem first_eq : Rows.laid_unicode_utf8_first = firstData := by kernel_rfl
theorem accept_eq : (Rows.laid_unicode_utf8_acceptRanges : DataW Unit) = acceptData := by kernel_rfl
theorem space_eq : (Rows.laid_strings_asciiSpace : DataW Unit) = tabData .u8 asciiSpaceTab := by kernel_rfl
theorem u8extra : U8Extra Tryd.prog Tryd.lays260_ren := ⟨by kernel_rfl, by kernel_rfl, by kernel_rfl, by kernel_rfl, by kernel_rfl, by kernel_rfl, by kernel_rfl⟩
theorem tab_of_reads {P : Program} {W : World} {name : String} {k : IntKind} {zs : List Int} {g : Nat} {t e : TypeId} {n : Nat}
  (hg : P.globalNamed name = some g) (hty : (P.globals[g]?).map (·.type) = some t) (ht : P.underlying t = some (.array n e)) (he : P.underlying e = some (.int k)) (hce : P.cellsOf e = 1) (hct : P.cellsOf t = n)
  (h : VarReads P W name (tabData k zs)) : TabIs P W name k zs := by
 obtain ⟨g', t', cs, fuel, p, hg', ht', hvar, hd⟩ := h
 obtain rfl := Option.some.inj (hg.symm.trans hg')
 obtain rfl := Option.some.inj (hty.symm.trans ht')
 unfold TabIs
 rw [hvar, ← cells_of_tab ht he hce hct hd]
theorem size_of_open {P : Program} {W : World} {n : Nat} (h : W.ShapedOpen P) (h1 : P.globals.size ≤ n) (h2 : n < (begin P (fun _ _ => 0) default).world.heap.size) : n < W.heap.size := by
 obtain ⟨o, _, ho, _⟩ := h.2 n h1 h2
 rcases Nat.lt_or_ge n W.heap.size with h | h
 ·exact h
 ·rw [Array.getElem?_eq_none h] at ho
  cases ho
theorem gl_of {W : World} {l : List (String × DataW Unit)} (hsh : W.ShapedOpen Tryd.prog) (hL : laidMet Tryd.prog l W)
  (m1 : ("unicode/utf8.first", Rows.laid_unicode_utf8_first) ∈ l) (m2 : ("unicode/utf8.acceptRanges", (Rows.laid_unicode_utf8_acceptRanges : DataW Unit)) ∈ l) (m3 : ("strings.asciiSpace", (Rows.laid_strings_asciiSpace : DataW Unit)) ∈ l) : Gl W := by
 refine ⟨?_, ?_, ?_, ?_⟩
 ·exact utf8Tabs_of_readsT (U8Types.of260 Tryd.lays260) u8extra (first_eq ▸ laidMet.reads hL m1) (accept_eq ▸ laidMet.reads hL m2)
 ·exact tab_of_reads (g := 2) (by kernel_rfl) (by kernel_rfl) Tryd.lays260.t119 Tryd.lays260.t5 (by kernel_rfl) (by kernel_rfl) (space_eq ▸ laidMet.reads hL m3)
 ·exact Tryd.laysM144.s1_3 W hsh
 ·exact Nat.le_of_lt (size_of_open hsh (Nat.le_of_ble_eq_true (by kernel_rfl)) (Nat.lt_of_succ_le (Nat.le_of_ble_eq_true (by kernel_rfl))))
theorem Tryd.own : ownKnob Tryd.prog.godebug = none := by kernel_rfl
end Go.Proofs.YtoaplbeojagjcaaDoor
namespace Go.Proofs.YtoaplbeojagjcaaDoor
open Go Go.RowKit Go.ChangeShapes Go.WideShapes Go.ChangeAt Go.Lib
theorem pow_eq : (Rows.laid_internal_strconv_uint64pow10 : DataW Unit) = tabData .u64 pow10Tab := by kernel_rfl
theorem glT_of {W : World} {l : List (String × DataW Unit)} (hsh : W.ShapedOpen Tryd.prog) (hL : laidMet Tryd.prog l W) (m1 : ("unicode/utf8.first", Rows.laid_unicode_utf8_first) ∈ l) (m2 : ("unicode/utf8.acceptRanges", (Rows.laid_unicode_utf8_acceptRanges : DataW Unit)) ∈ l) (m3 : ("strings.asciiSpace", (Rows.laid_strings_asciiSpace : DataW Unit)) ∈ l)
  (m4 : ("internal/strconv.uint64pow10", (Rows.laid_internal_strconv_uint64pow10 : DataW Unit)) ∈ l) : GlT (old W) :=
 Gl.pieceT (gl_of hsh hL m1 m2 m3) (tab_of_reads (g := 5) (t := 116) (e := 78) (n := 20) (by kernel_rfl) (by kernel_rfl) (by kernel_rfl) (by kernel_rfl) (by kernel_rfl) (by kernel_rfl) (pow_eq ▸ laidMet.reads hL m4))
abbrev laid7 : List (String × DataW Unit) := [("math/bits.deBruijn32tab", Rows.laid_math_bits_deBruijn32tab), ("math/bits.deBruijn64tab", Rows.laid_math_bits_deBruijn64tab), ("internal/strconv.uint64pow10", Rows.laid_internal_strconv_uint64pow10), ("unicode/utf8.acceptRanges", Rows.laid_unicode_utf8_acceptRanges), ("unicode.White_Space", Rows.laid_unicode_White_Space), ("strings.asciiSpace", Rows.laid_strings_asciiSpace), ("unicode/utf8.first", Rows.laid_unicode_utf8_first)]
end Go.Proofs.YtoaplbeojagjcaaDoor
namespace Go.Proofs.YtoaplbeojagjcaaDoor
open Go Go.RowKit Go.ChangeShapes Go.WideShapes Go.ChangeAt Go.Lib Go.ChangeMaps Go.WideMaps Go.WideElems
theorem lexQuotes_any (s : ByteArray) (hs : s.size ≤ 1048576) (w : World) (hg : GlT (old w)) : Calls Tryd.prog 3 #[.string s] w fun e w' => e = .returned (.bool true) ∧ Below w.heap.size w w' :=
 (law11_LexQuotes.ok (quotes_true s hs 1048600 (Nat.le_refl _)) hg w w [old w] ⟨.head _, trivial⟩ (St.start w)).mono fun e w' ⟨l1, ⟨h1, h2⟩, h3⟩ => by
  subst h2
  exact ⟨h1, St.end_ (l := []) h3⟩
set_option maxRecDepth 100000 in
theorem lexQuotes_contract (H : Type) (enc : TypeId × Value → H) (W : World) (base : Nat) (args : Array Value) (ds gs : List (DataW H)) (before : List MemPlace)
  (hval0 : ∀ (j : Nat) t v, Tryd.f3.params[j]? = some t → args[j]? = some v → Value.okWide Tryd.prog W .any base t v)
  (hW : DataW.Whole enc Tryd.prog Tryd.f3.params.toList Rows.lexQuotesSpec.vars false W args.toList ds gs before) (hsh : W.ShapedOpen Tryd.prog)
  (hb : Rows.uptoSmall H (ds ++ gs) = true) (hL : laidMetH Tryd.prog laid7 W) :
  Calls Tryd.prog 3 args W fun e W' => ∃ v, e = .returned v ∧ Rows.lexQuotesSpec.post enc Tryd.prog Tryd.f3 false true false false W args v W' := by
 have hval : ∀ (j : Nat) t v, Tryd.f3.params[j]? = some t → args[j]? = some v → Value.okWide Tryd.prog W .any base t v := hval0
 have hW' := hW
 obtain ⟨p, q, hA0, hV, rfl, _, _⟩ := hW
 have hA : DataW.TrodAll enc Tryd.prog W 0 (fun _ => true) true Tryd.f3.params.toList args.toList ds p := hA0
 rw [Tryd.params3] at hA hval
 obtain ⟨v0, d0, rfl, rfl, h0⟩ := trodAll_one hA
 obtain ⟨rfl, rfl⟩ := trodVars_none hV
 obtain ⟨s0, rfl, rfl, rfl, ws0⟩ := open_string Tryd.underlying9 (hval 0 9 v0 rfl rfl) h0
 simp only [List.append_nil] at hW'
 rw [MakeChecks.laidMetH_plain _ _ _ (by kernel_rfl)] at hL
 have hs0 : s0.size ≤ 1048576 := by
  have h := of_decide_eq_true hb
  simp only [List.append_nil, Rows.uptoBulkAll, Rows.uptoBulk, Array.length_toList] at h
  have : s0.size = s0.data.size := rfl
  omega
 refine (lexQuotes_any s0 hs0 W (glT_of hsh hL (by simp [laid7]) (by simp [laid7]) (by simp [laid7]) (by simp [laid7]))).mono fun e W' ⟨he, hb⟩ => ?_
 subst he
 exact ⟨_, rfl, _, _, _, [], [], [], hW', trodAll_mk1 (shut_bool Tryd.underlying4 _), trodAll_mk1 (shut_string Tryd.underlying9 ws0), rfl, hb.frame _, fun h => by cases h⟩
theorem lexQuotes_reads (os : Os) {H : Type} (enc : TypeId × Value → H) : ∃ places, DataW.whole enc Tryd.prog ((World.laidAll Tryd.prog os laid7).forCall (fun _ _ => 0) ⟨#[], #[.string ByteArray.empty], []⟩).memory Tryd.f3.params.toList Rows.lexQuotesSpec.vars false #[Value.string ByteArray.empty].toList 8 = some ([.lit (.string [])], [], places) :=
 ⟨[], by kernel_rfl⟩
set_option maxRecDepth 100000 in
theorem lexQuotes_lifted (os : Os) (started : os.Started) (H : Type) (enc : TypeId × Value → H) (F : Stop.Interp) :
  ReturnsInHanded {} Tryd.checked os 3 .any ((Rows.OpenSpec.upto Rows.lexQuotesSpec).preRow enc Tryd.prog Tryd.f3 Rows.lexQuotesUptoRow.domain false Rows.lexQuotesUptoRow.laid)
   (((Rows.OpenSpec.upto Rows.lexQuotesSpec).at F).post enc Tryd.prog Tryd.f3 false true false false) := by
 obtain ⟨places, hx⟩ := lexQuotes_reads os enc
 have hok : Input.okWideB Tryd.prog ((World.laidAll Tryd.prog os laid7).forCall (fun _ _ => 0) ⟨#[], #[.string ByteArray.empty], []⟩) 3 ⟨#[], #[.string ByteArray.empty], []⟩ = true := by kernel_rfl
 refine returnsInHanded_of_row (C := Tryd.checked) (s := Rows.OpenSpec.upto Rows.lexQuotesSpec) Tryd.own started (by kernel_rfl) Tryd.func3
  ⟨World.laidAll Tryd.prog os laid7, fun _ _ => 0, ⟨#[], #[.string ByteArray.empty], []⟩, World.laidAll_os _ _ _, World.shaped_of_ZipB (by kernel_rfl) (by kernel_rfl), (Input.okWide_of_okWideB (base := 0) hok).1, (Input.okWide_of_okWideB hok).2,
   OpenSpec.preRow_of_cond 8 hx (by kernel_rfl) (fun k hk => by cases hk; kernel_rfl) (by kernel_rfl) (by
    show laidMetH Tryd.prog laid7 _
    rw [MakeChecks.laidMetH_plain _ _ _ (by kernel_rfl)]; exact laidMet_laidAll _ (by kernel_rfl) (by kernel_rfl)),
   by simp only [Assume.holds]; exact ⟨by simp, by simp, fun _ => Modest.zero, by simp, by simp⟩⟩ ?_
 intro W base args ds gs before hval hW _ hcond _ hL hsh _
 exact lexQuotes_contract H enc W base args ds gs before hval hW hsh (hcond _ rfl) hL
theorem lexQuotes_holds : Rows.LexQuotesUptoSaid :=
 OpenClaim.holds_of_cond 3 Tryd.f3 rfl rfl rfl rfl rfl rfl rfl ⟨rfl, rfl, rfl, rfl, rfl⟩ rfl rfl rfl rfl rfl (by kernel_rfl) Tryd.func3 (by kernel_rfl)
  (of_decide_eq_true (by kernel_rfl)) (by unfold Func.isWrapper; first | (rw [if_pos (by decide +kernel)]; kernel_rfl) | (rw [if_neg (by decide +kernel)]; exact ⟨rfl, rfl⟩))
  (fun os started H enc _ F => by rw [OpenClaim.pre_eq_preRow]; exact lexQuotes_lifted os started H enc F)
theorem lexQuotes_card : Rows.LexQuotesUptoCardSaid :=
 Claim7.holds_tied_plain_at .later [] _ _ _ _ lexQuotes_holds (fun _ h => by cases h) (by kernel_rfl) (fun _ h => by cases h) lexQuotesUpto_row_tie rfl ⟨rfl, rfl⟩ (by kernel_rfl) rfl
  (fun f fn hf hfn => by
   obtain rfl : f = 3 := Option.some.inj ((show Tryd.prog.funcNamed "trestle/trestlelaw11.LexQuotes" = some 3 by kernel_rfl).symm.trans hf) |>.symm
   obtain rfl : fn = Tryd.f3 := (Option.some.inj (Tryd.func3.symm.trans hfn)).symm
   exact ⟨by kernel_rfl, fun j t ht => by
    rw [Tryd.params3] at ht
    have hm : t ∈ [9] := by simpa using Array.mem_of_getElem? ht
    have hall : ([9].all fun u => !Tryd.prog.wantsStandIn u) = true := by kernel_rfl
    exact (show Tryd.prog.wantsStandIn t = false by simpa using List.all_eq_true.1 hall t hm)⟩)
  (by kernel_rfl)
#print axioms lexQuotes_card
end Go.Proofs.YtoaplbeojagjcaaDoor
