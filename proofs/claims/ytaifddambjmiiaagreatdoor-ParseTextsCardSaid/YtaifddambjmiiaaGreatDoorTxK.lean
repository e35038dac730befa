/- ParseTexts: for every text the call answers true, and the input reads as it did. No further condition. -/
import Derived.Test.YtaifddambjmiiaaGreatDoorRows
import Derived.ProofKit
import Derived.Lay
import Derived.Lib.LaidU8T
import Derived.SevenTiedAt
import Derived.Test.YtaifddambjmiiaaGreatDoorCards
import Derived.Test.YtaifddambjmiiaaGreatDoorTie
import Derived.Test.YtaifddambjmiiaaGreatDoorTxJ
set_option linter.unusedSimpArgs false
set_option linter.unusedVariables false
set_option linter.unusedSectionVars false
namespace Go.Proofs.YtaifddambjmiiaaGreatDoor
set_option maxRecDepth 100000
section
open Go Go.RowKit Go.ChangeShapes Go.WideShapes Go.ChangeAt Go.Lib
theorem first_eq:Rows.laid_unicode_utf8_first=firstData:=by kernel_rfl
theorem Axp:(Rows.laid_unicode_utf8_acceptRanges:DataW Unit)=acceptData:=by kernel_rfl
theorem B1w:(Rows.laid_strings_asciiSpace:DataW Unit)=tabData .u8 asciiSpaceTab:=by kernel_rfl
theorem B23:U8Extra Tryz.prog Tryz.Aj9:=⟨by kernel_rfl,by kernel_rfl,by kernel_rfl,by kernel_rfl,by kernel_rfl,by kernel_rfl,by kernel_rfl⟩
theorem Aqt {P:Program} {Ad:World} {name:String} {k:IntKind} {zs:List Int} {g:Nat} {t e:TypeId} {n:Nat}
  (hg:P.globalNamed name=some g) (hty:(P.globals[g]?).map (·.type)=some t) (ht:P.underlying t=some (.array n e)) (he:P.underlying e=some (.int k)) (hce:P.cellsOf e=1) (hct:P.cellsOf t=n)
  (h:VarReads P Ad name (tabData k zs)):TabIs P Ad name k zs:=by
 obtain ⟨g',t',cs,fuel,p,hg',ht',hvar,hd⟩:=h;obtain rfl:=Ap (hg.symm.trans hg');obtain rfl:=Ap (hty.symm.trans ht');unfold TabIs;rw [hvar,<- cells_of_tab ht he hce hct hd]
theorem B1p {P:Program} {Ad:World} {n:Nat} (h:Ad.ShapedOpen P) (h1:P.globals.size<=n) (h2:n < (begin P (λ_ _=>0) default).world.heap.size):n < Ad.heap.size:=by
 obtain ⟨o,_,ho,_⟩:=h.2 n h1 h2;rcases Nat.lt_or_ge n Ad.heap.size with h | h;exact h;rw [Array.getElem?_eq_none h] at ho;cases ho
theorem A5m {Ad:World} {l:List (String×DataW Unit)} (hsh:Ad.ShapedOpen Tryz.prog) (hL:laidMet Tryz.prog l Ad)
  (m1:("unicode/utf8.first",Rows.laid_unicode_utf8_first) ∈ l) (m2:("unicode/utf8.acceptRanges",(Rows.laid_unicode_utf8_acceptRanges:DataW Unit)) ∈ l) (m3:("strings.asciiSpace",(Rows.laid_strings_asciiSpace:DataW Unit)) ∈ l):Gl Ad:=by
 refine ⟨?_,?_,?_,?_⟩;exact utf8Tabs_of_readsT (U8Types.of260 Tryz.lays260) B23 (first_eq ▸ laidMet.reads hL m1) (Axp ▸ laidMet.reads hL m2);exact Aqt (g:=2) (by kernel_rfl) (by kernel_rfl) Tryz.lays260.t119 Tryz.lays260.t5 (by kernel_rfl) (by kernel_rfl) (B1w ▸ laidMet.reads hL m3);exact Tryz.laysM144.s1_3 Ad hsh;exact Nat.le_of_lt (B1p hsh (AY (by kernel_rfl)) (Nat.lt_of_succ_le (AY (by kernel_rfl))))
theorem Tryz.own:ownKnob Tryz.prog.godebug=none:=by kernel_rfl
section
variable {H:Type} {enc:TypeId×Value->H}
theorem A9o {a:Assume} {C:Checked} {os:Os} {f:FuncId} {fn:Func} {s:ChangeSpec} {conds:List PathCond} {apart fresh handsOn again:Bool} {X:World->Array Value->Prop}
  (hX:∀ (w w':World) (args:Array Value),w.heap=w'.heap->X w args->X w' args)
  (own:ownKnob C.prog.godebug=none) (started:os.Started) (noInit:C.prog.inits.idxOf? f=none) (hfn:C.prog.funcs[f]? = some fn)
  (witness:∃ (w:World) (tape:Tape) (i:Input),w.os=os/\(w.forCall tape i).Shaped C.prog/\i.vars=[]/\Input.okWide C.prog (w.forCall tape i) .any w.heap.size f i /\
   ((s.pre enc C.prog fn conds apart (w.forCall tape i).memory i.args/\X (w.forCall tape i).memory i.args)/\sizedMet enc C.prog fn (OpenSpec.ofChange s) apart (w.forCall tape i).memory i.args)/\a.holds C.prog (lone (Frame.enter C.prog f i.args .normal) [] (w.forCall tape i)))
  (contract:∀ (Ad:World) (base:Nat) (args:Array Value) (ds gs:List (DataW H)) (before:List MemPlace),
   (∀ (j:Nat) t v,fn.params[j]? = some t->args[j]? = some v->Value.okWide C.prog Ad .any base t v) ->
   DataW.Whole enc C.prog fn.params.toList s.vars apart Ad args.toList ds gs before ->
   Ad.ShapedOpen C.prog->(DataW.weightsEach C.prog (fn.params.toList++s.plain.varTypes C.prog) (ds++gs)).all (·<=reachBytes)=true->X Ad args ->
   Calls C.prog f args Ad λe W'=>∃ v,e=.returned v/\s.post enc C.prog fn apart fresh handsOn again Ad args v W') :
  ReturnsInHanded a C os f .any (λw args=>(s.pre enc C.prog fn conds apart w args/\X w args)/\sizedMet enc C.prog fn (OpenSpec.ofChange s) apart w args) (s.post enc C.prog fn apart fresh handsOn again):=by
 refine returnsInHanded_of_calls own started noInit witness ?_;intro w tape i _ hsh _ hok hpre hholds;obtain ⟨_,_,_,fn',hfn',_,_,_,_,hval⟩:=hok;have e:fn'=fn:=Ap (hfn'.symm.trans hfn);subst e;obtain ⟨⟨⟨ds,gs,before,hw,hc⟩,hx⟩,hz⟩:=hpre;have hw':=DataW.Whole.of_heap (w':=w.forCall tape i) (by rfl) hw;refine (contract (w.forCall tape i) w.heap.size i.args ds gs before hval hw' hsh (hz.weights hw) (hX _ _ _ (by rfl) hx)).mono λe W' ⟨v,he,hp⟩=>?_;subst he;exact ChangeSpec.post_blind hp
end
theorem pow_eq:(Rows.laid_internal_strconv_uint64pow10:DataW Unit)=tabData .u64 pow10Tab:=by kernel_rfl
theorem A5l {Ad:World} {l:List (String×DataW Unit)} (hsh:Ad.ShapedOpen Tryz.prog) (hL:laidMet Tryz.prog l Ad) (m1:("unicode/utf8.first",Rows.laid_unicode_utf8_first) ∈ l) (m2:("unicode/utf8.acceptRanges",(Rows.laid_unicode_utf8_acceptRanges:DataW Unit)) ∈ l) (m3:("strings.asciiSpace",(Rows.laid_strings_asciiSpace:DataW Unit)) ∈ l)
  (m4:("internal/strconv.uint64pow10",(Rows.laid_internal_strconv_uint64pow10:DataW Unit)) ∈ l):Hw (old Ad) :=
 Gl.Bxo (A5m hsh hL m1 m2 m3) (Aqt (g:=5) (t:=186) (e:=104) (n:=20) (by kernel_rfl) (by kernel_rfl) (by kernel_rfl) (by kernel_rfl) (by kernel_rfl) (by kernel_rfl) (pow_eq ▸ laidMet.reads hL m4))
abbrev laid7:List (String×DataW Unit):=[("math/bits.deBruijn32tab",Rows.laid_math_bits_deBruijn32tab),("math/bits.deBruijn64tab",Rows.laid_math_bits_deBruijn64tab),("internal/strconv.uint64pow10",Rows.laid_internal_strconv_uint64pow10),("unicode/utf8.acceptRanges",Rows.laid_unicode_utf8_acceptRanges),("unicode.White_Space",Rows.laid_unicode_White_Space),("strings.asciiSpace",Rows.laid_strings_asciiSpace),("unicode/utf8.first",Rows.laid_unicode_utf8_first)]
end
section
open Go Go.RowKit Go.ChangeShapes Go.WideShapes Go.ChangeAt Go.Lib Go.ChangeMaps Go.WideMaps Go.WideElems
theorem Bxe (s:Ah) (w:World) (hg:Hw (old w)):Calls Tryz.prog 3 #[.string s] w λe w'=>e=.returned (.bool true)/\Below w.heap.size w w' :=
 (NY.ok (Bxz s) hg w w [old w] ⟨.head _,Aj⟩ (St.start w)).mono λe w' ⟨l1,⟨h1,h2⟩,h3⟩=>by
  subst h2;exact ⟨h1,St.end_ (l:=[]) h3⟩
theorem Bxh (os:Os) (started:os.Started) (H:Type) (enc:TypeId×Value->H) :
  ReturnsInHanded {} Tryz.checked os 3 .any (λw args=>(Rows.parseTextsSpec.pre enc Tryz.prog Tryz.f3 [] false w args/\laidMetH Tryz.prog laid7 w)/\sizedMet enc Tryz.prog Tryz.f3 (OpenSpec.ofChange Rows.parseTextsSpec) false w args)
   (Rows.parseTextsSpec.post enc Tryz.prog Tryz.f3 false true false false):=by
 refine A9o (C:=Tryz.checked) (X:=λw _=>laidMetH Tryz.prog laid7 w) (λ_ _ _ hh h=>h.of_heap hh) Tryz.own started (by kernel_rfl) Tryz.func3
  (ChangeSpec.witness_shaped (enc:=enc) (C:=Tryz.checked) (os:=os) (X:=λw _=>laidMetH Tryz.prog laid7 w) false (World.laidAll Tryz.prog os laid7) #[.string ByteArray.empty] 8 (World.laidAll_os _ _ _)
   (World.shaped_of_ZipB (by kernel_rfl) (by kernel_rfl)) (by kernel_rfl) (by kernel_rfl) (by kernel_rfl)
   (by rw [MakeChecks.laidMetH_plain _ _ _ (by kernel_rfl)];exact laidMet_laidAll _ (by kernel_rfl) (by kernel_rfl))) ?_
 intro Ad base args ds gs before hval0 hW hsh _ hL;have hval:∀ (j:Nat) t v,Tryz.f3.params[j]? = some t->args[j]? = some v->Value.okWide Tryz.prog Ad .any base t v:=hval0;have hW':=hW;obtain ⟨p,q,hA0,hV,rfl,_,_⟩:=hW;have hA:DataW.TrodAll enc Tryz.prog Ad 0 (λ_=>true) true Tryz.f3.params.toList args.toList ds p:=hA0;rw [Tryz.params3] at hA hval;obtain ⟨v0,d0,rfl,rfl,h0⟩:=trodAll_one hA;obtain ⟨rfl,rfl⟩:=trodVars_none hV;obtain ⟨s0,rfl,rfl,rfl,ws0⟩:=open_string Tryz.underlying9 (hval 0 9 v0 rfl rfl) h0;simp only [List.append_nil] at hW';rw [MakeChecks.laidMetH_plain _ _ _ (by kernel_rfl)] at hL;refine (Bxe s0 Ad (A5l hsh hL (by simp [laid7]) (by simp [laid7]) (by simp [laid7]) (by simp [laid7]))).mono λe W' ⟨he,hb⟩=>?_;subst he;exact ⟨_,rfl,_,_,_,[],[],[],hW',trodAll_mk1 (shut_bool Tryz.underlying4 _),trodAll_mk1 (shut_string Tryz.underlying9 ws0),rfl,hb.frame _,λh=>by cases h⟩
theorem Bxg:Rows.ParseTextsSaid :=
 OpenClaim.holds_of_wide 3 Tryz.f3 rfl rfl rfl rfl rfl rfl rfl ⟨rfl,rfl,rfl,rfl,rfl⟩ rfl rfl rfl rfl rfl (by kernel_rfl) Tryz.func3 (by kernel_rfl)
  (of_decide_eq_true (by kernel_rfl)) (by unfold Func.isWrapper;first | (rw [if_pos (by decide +kernel)];kernel_rfl) | (rw [if_neg (by decide +kernel)];exact ⟨rfl,rfl⟩))
  (λos started H enc _=>Bxh os started H enc)
theorem parseTexts_card:Rows.ParseTextsCardSaid :=
 Claim7.holds_tied_plain_at .later [] [.data,.data,.data,.data,.listed,.data,.pinned] true (true, "2c0864cd25b546e17aac4b071a132239c0045263ad1bd23c31eba1f8a5b75dcc") true
  Bxg (λ_ h=>by cases h) (by kernel_rfl) (λ_ h=>by cases h) parseTexts_row_tie rfl ⟨rfl,rfl⟩ (by kernel_rfl) rfl
  (λf fn hf hfn=>by
   obtain rfl:f=3:=Ap ((show Tryz.prog.funcNamed "trestle/trestlelaw12.ParseTexts" =some 3 by kernel_rfl).symm.trans hf) |>.symm;obtain rfl:fn=Tryz.f3:=(Ap (Tryz.func3.symm.trans hfn)).symm;exact ⟨by kernel_rfl,λj t ht=>by
    rw [Tryz.params3] at ht;have hm:t ∈ [9]:=by simpa using Array.mem_of_getElem? ht
    have hall:([9].all λu=>!Tryz.prog.wantsStandIn u)=true:=by kernel_rfl
    exact (show Tryz.prog.wantsStandIn t=false by simpa using List.all_eq_true.1 hall t hm)⟩)
  (by kernel_rfl)
#print axioms parseTexts_card
end
end Go.Proofs.YtaifddambjmiiaaGreatDoor
