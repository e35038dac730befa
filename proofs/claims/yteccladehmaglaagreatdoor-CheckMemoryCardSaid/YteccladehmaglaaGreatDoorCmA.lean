/- Texts of mine for checkMemory_card, part 1. -/
import Derived.OrdersHeld
import Derived.Lib.Hide
import Derived.WalkKit
import Derived.WalkSpells
import Derived.WalkLawsBesides
import Derived.Defers
import GoSem.Core.Utf8
import Derived.Test.YteccladehmaglaaGreatDoorProg
set_option linter.unusedSimpArgs false
set_option linter.unusedVariables false
set_option linter.unusedSectionVars false
namespace Go.Proofs.YteccladehmaglaaGreatDoor
set_option maxRecDepth 100000
abbrev Ah:=ByteArray
theorem V.{u} {α:Sort u} {a:α}:a=a:=rfl
theorem Aj:True:=trivial
theorem Aq.{u,v} {α:Type u} {β:Type v} (a:α) (f:α->Option β):(some a).bind f=f a:=rfl
theorem Ao.{u} {α:Type u} {a b:α} (h:some a=some b):a=b:=Option.some.inj h
theorem BT.{u} {α:Type u} {l m:List α}:(l++m).length=l.length+m.length:=List.length_append
theorem AX.{u} {α:Type u} {a:α} {l:List α}:(a :: l).length=l.length+1:=rfl
theorem Bp.{u} {α:Type u}:([]:List α).length=0:=rfl
theorem C8.{u} {α:Type u} (l m r:List α):l++m++r=l++(m++r):=List.append_assoc l m r
theorem AV {n m:Nat} (h:Nat.ble n m=true):n<=m:=Nat.le_of_ble_eq_true h
theorem DT.{u} {α:Type u} {a:α} {l:List α}:a ∈ a :: l:=List.mem_cons_self
theorem EM.{u} {α:Type u} {a:α} (y:α) {l:List α} (h:a ∈ l):a ∈ y :: l:=List.mem_cons_of_mem y h
theorem Fc.{u} {α:Type u} {a b:α}:a ∈ [b] ↔ a=b:=List.mem_singleton
theorem EL.{u} {α:Type u} {a:α} {s t:List α}:a ∈ s++t ↔ a ∈ s\/a ∈ t:=List.mem_append
theorem BV.{u} {α:Type u} {i:Nat} {l:List α}:(l.drop i).length=l.length - i:=List.length_drop
abbrev TyA:=List (Int×Int×Int×Int)
abbrev Cj:=List (Int×Int×Ah)
abbrev Av:=List Ah
abbrev TyL:=List (List Int)
abbrev AD:=Option Addr
abbrev TyU:=List (Option (Ah×Int×Int×Cj×TyA))
abbrev Bg:=List (Ah×Int×Int×Int×Cj)
section
open Go Go.RowKit
section
variable {P:Program} {ops:Array Oper} {Q:Exit->Act->World->Prop} {md:Region.Mode} {S:World->Prop} {E:List Nat}
def Hj (md:Region.Mode) (ops:Array Oper):Nat->Nat->Nat->Bool
 | 0,_,_=>false
 | f+1,j,i =>
  match ops[j]? with
  | some oj=>oj.after.any λe=>Region.binds md e && (e.on == i || Hj md ops f e.on i)
  | none=>false
def Closed (md:Region.Mode) (ops:Array Oper) (listed:Array Bool):Prop :=
 ∀ j oj,ops[j]? = some oj->listed.getD j false=true->∀ e ∈ oj.after,Region.binds md e=true->listed.getD e.on false=true
theorem Closed.set {i:Nat} {listed:Array Bool} (h:Closed md ops listed) (hi:i ∈ Region.ready md ops listed):Closed md ops (listed.setIfInBounds i true):=by
 obtain ⟨_,oi,hoi,hall⟩:=mem_ready.1 hi;intro j oj hj hl e he hb;by_cases hij:i=j;subst hij;rw [hoi] at hj;cases hj;exact getD_set_true (hall e he hb);rw [getD_set_ne false hij] at hl;exact getD_set_true (h j oj hj hl e he hb)
theorem Closed.waits {listed:Array Bool} (h:Closed md ops listed) (i:Nat):∀ (f j:Nat),Hj md ops f j i=true->listed.getD j false=true->listed.getD i false=true
 | 0,_,hw,_=>by simp [Hj] at hw
 | f+1,j,hw,hl=>by
  simp only [Hj] at hw;split at hw;rename_i oj hoj;obtain ⟨e,he,hb⟩:=Array.any_eq_true'.1 hw;simp only [Bool.and_eq_true,Bool.or_eq_true,beq_iff_eq] at hb;have h1:=h j oj hoj hl e he hb.1;rcases hb.2 with h2 | h2;rw [<- h2];exact h1;exact Closed.waits h i f e.on h2 h1;cases hw
theorem Aam {i:Nat} {listed:Array Bool} (h0:listed.getD i true=false) (h1:listed.getD i false=true):False:=by
 rcases Nat.lt_or_ge i listed.size with h' | h';simp [h'] at h0 h1;rw [h0] at h1;cases h1;simp [h'] at h1
def Ng (md:Region.Mode) (ops:Array Oper) (E:List Nat) (j:Nat):Bool:=!(E.all λi=>Hj md ops ops.size j i)
theorem Ble {i j:Nat} {listed:Array Bool} (hc:Closed md ops listed) (hi:i ∈ E) (hl:listed.getD i true=false) (hj:j ∈ Region.ready md ops listed):Ng md ops E j=true:=by
 unfold Ng;rw [Bool.not_eq_true',Bool.eq_false_iff];intro hall;have hw:=List.all_eq_true.1 hall i hi;obtain ⟨_,oj,hoj,Bag⟩:=mem_ready.1 hj;cases hn:ops.size with
 | zero=>rw [hn] at hw;simp [Hj] at hw
 | succ f =>
  rw [hn] at hw;simp only [Hj,hoj] at hw;obtain ⟨e,he,hb⟩:=Array.any_eq_true'.1 hw;simp only [Bool.and_eq_true,Bool.or_eq_true,beq_iff_eq] at hb;have h1:=Bag e he hb.1;rcases hb.2 with h2 | h2;rw [h2] at h1;exact Aam hl h1;exact Aam hl (hc.waits i f e.on h2 h1)
def wpAnyS (P:Program) (md:Region.Mode) (ops:Array Oper) (Q:Exit->Act->World->Prop) (S:World->Prop) (E:List Nat):Nat->Array Bool->Act->World->Prop
 | 0,listed,a,w=>Region.ready md ops listed=[]/\Q .normal a w
 | fuel+1,listed,a,w =>
  (Region.ready md ops listed=[]->Q .normal a w) /\
  ∀ i ∈ Region.ready md ops listed,wpOp P ops Q i (λa' w'=>(Ng md ops E i=true->S w->S w')/\wpAnyS P md ops Q S E fuel (listed.setIfInBounds i true) a' w') a w
theorem Aea:∀ (fuel:Nat) (listed:Array Bool) (a:Act) (w:World),wpAnyS P md ops Q S E fuel listed a w->wpAny P md ops Q fuel listed a w
 | 0,_,_,_,h=>h
 | fuel+1,_,_,_,h=>⟨h.1,λi hi=>wpOp_mono (λa' w' h'=>Aea fuel _ a' w' h'.2) (h.2 i hi)⟩
theorem wpAnyS_first {T:World->Prop} {i:Nat} {oi:Oper} {v:Value} (hi:ops[i]? = some oi) (hsel:∀ (j:Nat) (o:Oper) cs b,ops[j]? = some o->o.op≠.select cs b)
  (hQ:∀ c a w,Q (.panic c) (a.put oi.dst v) w->Q (.panic c) a w) (hT:(∀ w,T w)\/(i ∈ E/\∀ w,S w->T w)) :
  ∀ (fuel:Nat) (listed:Array Bool) (a:Act) (w:World),Closed md ops listed ->
   (∀ j oj,ops[j]? = some oj->j≠i->listed.getD j true=false->(∀ e ∈ oj.after,Region.binds md e=true->e.on≠i)->oi.apart ops oj=true) ->
   i ∈ Region.ready md ops listed->YieldsIf P ops T oi v a->((∀ w,T w)\/S w) ->
   wpAnyS P md ops Q S E fuel (listed.setIfInBounds i true) (a.put oi.dst v) w->wpAnyS P md ops Q S E (fuel+1) listed a w:=by
 intro fuel;induction fuel with
 | zero =>
  intro listed a w _ _ hr hy hSw H;have hTw:T w:=hT.elim (λh=>h w) (λh=>hSw.elim (λh=>h w) (λh'=>h.2 w h'));refine ⟨λh=>(by rw [h] at hr;cases hr),λj hj=>?_⟩;by_cases hji:j=i;subst hji;exact hy.wpOp hi hTw ⟨λ_ h=>h,H⟩;have:=ready_mono hj hji;rw [H.1] at this;cases this
 | succ fuel ih =>
  intro listed a w hcl hfree hr hy hSw H;have hTw:T w:=hT.elim (λh=>h w) (λh=>hSw.elim (λh=>h w) (λh'=>h.2 w h'));refine ⟨λh=>(by rw [h] at hr;cases hr),λj hj=>?_⟩;by_cases hji:j=i;subst hji;exact hy.wpOp hi hTw ⟨λ_ h=>h,H⟩;have h1:=H.2 j (ready_mono hj hji);obtain ⟨hjun,oj,hoj,hall⟩:=mem_ready.1 hj;have hnot:∀ e ∈ oj.after,Region.binds md e=true->e.on≠i:=λe he hb heq=>by
   have h1:=hall e he hb;rw [heq] at h1;exact Aam (mem_ready.1 hr).1 h1
  have h2:=wpOp_putIf hoj (hfree j oj hoj hji hjun hnot) (λcs b=>hsel i oi cs b hi) (λcs b=>hsel j oj cs b hoj) hQ hy h1;have hfree':∀ k ok,ops[k]? = some ok->k≠i->(listed.setIfInBounds j true).getD k true=false ->
    (∀ e ∈ ok.after,Region.binds md e=true->e.on≠i)->oi.apart ops ok=true:=λk ok hk hki hun hno=>by
   refine hfree k ok hk hki ?_ hno;by_cases hjk:j=k;subst hjk;exact hjun;rw [getD_set_ne true hjk] at hun;exact hun
  refine wpOp_mono (λa' w' h3=>⟨h3.2.1,?_⟩) h2;have hH:=h3.2.2;rw [Array.setIfInBounds_comm _ _ (Ne.symm hji)] at hH;refine ih (listed.setIfInBounds j true) a' w' (hcl.set hj) hfree' (ready_mono hr (Ne.symm hji)) h3.1 ?_ hH;rcases hSw with h | h;exact .inl h;rcases hT with h' | h';exact .inl h';exact .inr (h3.2.1 (Ble hcl h'.1 (mem_ready.1 hr).1 hj) h)
def O5 (md:Region.Mode) (ops:Array Oper) (E:List Nat):Nat->Nat->Array Bool->Bool
 | 0,_,listed=>(Region.ready md ops listed).isEmpty
 | g+1,k,listed=>decide (Region.ready md ops listed=[k]) && !Ng md ops E k && O5 md ops E g (k+1) (listed.setIfInBounds k true)
theorem Axs:∀ (l:List Oper) (k:Nat) (listed:Array Bool) (a:Act) (w:World),(∀ j,l[j]? = ops[k+j]?) ->
  O5 md ops E l.length k listed=true->wpList P ops Q l a w->wpAnyS P md ops Q S E l.length listed a w
 | [],_,_,_,_,_,hB,h=>⟨by simpa [O5] using hB,h⟩
 | o :: l,k,listed,a,w,hl,hB,h=>by
  have h0:ops[k]? = some o:=by simpa using (hl 0).symm
  simp only [AX,O5,Bool.and_eq_true,decide_eq_true_eq,Bool.not_eq_true'] at hB;refine ⟨λh1=>(by rw [hB.1.1] at h1;cases h1),λi hi=>?_⟩;rw [hB.1.1] at hi;have hik:i=k:=by simpa using hi
  subst hik;have hw:wpOp P ops Q i (wpList P ops Q l) a w:=by unfold wpOp;simp only [h0];exact h
  exact wpOp_mono (λa' w' h'=>⟨λhc=>(by rw [hB.1.2] at hc;cases hc),Axs l (i+1) _ a' w' (λj=>by have:=hl (j+1);simpa [Nat.add_assoc,Nat.add_comm 1 j] using this) hB.2 h'⟩) hw
def BU (P:Program) (ops:Array Oper) (Q:Exit->Act->World->Prop) (S:World->Prop) (tail:Act->World->Prop):List (Oper×Nat)->Act->World->Prop
 | [],a,w=>tail a w
 | (o,0) :: rest,a,w=>∃ v,YieldsIf P ops (λ_=>True) o v a/\BU P ops Q S tail rest (a.put o.dst v) w
 | (o,1) :: rest,a,w=>∀ K:Act->World->Prop,(∀ a' w',(S w'/\BU P ops Q S tail rest a' w')->K a' w') ->
   if Region.wanted o (yielded ops a.tmps) then o.wp P a w K Q else K (a.put o.dst undef) w
 | (o,2) :: rest,a,w=>∀ K:Act->World->Prop,(∀ a' w',BU P ops Q S tail rest a' w'->K a' w') ->
   if Region.wanted o (yielded ops a.tmps) then o.wp P a w K Q else K (a.put o.dst undef) w
 | (o,_) :: rest,a,w=>∃ v,YieldsIf P ops S o v a/\BU P ops Q S tail rest (a.put o.dst v) w
def DP (ops:Array Oper) (plan:List (Nat×Nat)):List (Oper×Nat):=plan.filterMap λx=>(ops[x.1]?).map λo=>(o,x.2)
def Hb (ops:Array Oper) (E:List Nat) (n:Nat):List (Nat×Nat)->Array Bool->Bool
 | [],listed=>O5 .any ops E (ops.size - n) n listed
 | (i,0) :: rest,listed=>decide (i < ops.size) && (Region.ready .any ops listed).contains i && Region.free .any ops listed i && Hb ops E n rest (listed.setIfInBounds i true)
 | (i,1) :: rest,listed=>decide (i < ops.size) && decide (Region.ready .any ops listed=[i]) && Hb ops E n rest (listed.setIfInBounds i true)
 | (i,2) :: rest,listed=>decide (i < ops.size) && decide (Region.ready .any ops listed=[i]) && !Ng .any ops E i && !(rest.any (·.2 == 3)) && Hb ops E n rest (listed.setIfInBounds i true)
 | (i,k+3) :: rest,listed=>decide (k=0) && E.contains i && decide (i < ops.size) && (Region.ready .any ops listed).contains i && Region.free .any ops listed i && Hb ops E n rest (listed.setIfInBounds i true)
theorem Sh (l:List Oper) (n:Nat) (hsel:Region.noSelect l.toArray=true)
  (hQ:∀ c a d v w,Q (.panic c) (Act.put a d v) w->Q (.panic c) a w) :
  ∀ (plan:List (Nat×Nat)) (listed:Array Bool) (a:Act) (w:World),Closed .any l.toArray listed->Hb l.toArray E n plan listed=true->(plan.any (·.2 == 3)=true->S w) ->
   BU P l.toArray Q S (wpList P l.toArray Q (l.drop n)) (DP l.toArray plan) a w->wpAnyS P .any l.toArray Q S E (plan.length+(l.toArray.size - n)) listed a w
 | [],listed,a,w,_,hB,_,h=>by
  simp only [Hb] at hB;have hd:(l.drop n).length=l.toArray.size - n:=by simp
  have:=Axs (S:=S) (l.drop n) n listed a w (λj=>by simp) (by rw [hd];exact hB) h
  simpa using this
 | (i,0) :: rest,listed,a,w,hcl,hB,hS,h=>by
  simp only [Hb,Bool.and_eq_true,decide_eq_true_eq] at hB;obtain ⟨⟨⟨hi,hr⟩,hf⟩,hB'⟩:=hB;have ho:l.toArray[i]? = some l.toArray[i]:=by simp
  simp only [DP,List.filterMap_cons,ho,Option.map_some,BU] at h;obtain ⟨v,hy,h⟩:=h;have hr':i ∈ Region.ready .any l.toArray listed:=by simpa using hr
  rw [show (((i,0) :: rest:List (Nat×Nat)).length+(l.toArray.size - n))=(rest.length+(l.toArray.size - n))+1 by simp only [AX];omega];exact wpAnyS_first ho (Region.noSelect_spec hsel) (λc a w=>hQ c a _ v w) (.inl λ_=>Aj) _ listed a w hcl (Region.free_spec ho hf) hr' hy (.inl λ_=>Aj)
   (Sh l n hsel hQ rest _ _ w (hcl.set hr') hB' (λh=>hS (by simpa using h)) h)
 | (i,1) :: rest,listed,a,w,hcl,hB,hS,h=>by
  simp only [Hb,Bool.and_eq_true,decide_eq_true_eq] at hB;obtain ⟨⟨hi,hr⟩,hB'⟩:=hB;have ho:l.toArray[i]? = some l.toArray[i]:=by simp
  simp only [DP,List.filterMap_cons,ho,Option.map_some,BU] at h;rw [show (((i,1) :: rest:List (Nat×Nat)).length+(l.toArray.size - n))=(rest.length+(l.toArray.size - n))+1 by simp only [AX];omega];refine ⟨λh0=>(by rw [hr] at h0;cases h0),λj hj=>?_⟩;have hj':=hj;rw [hr] at hj;have hji:j=i:=by simpa using hj
  subst hji;have h:=h _ (λa' w' h=>h);unfold wpOp;rw [ho];simp only;have step:∀ a' w',(S w'/\BU P l.toArray Q S (wpList P l.toArray Q (l.drop n)) (DP l.toArray rest) a' w') ->
    ((Ng .any l.toArray E j=true->S w->S w')/\wpAnyS P .any l.toArray Q S E (rest.length+(l.toArray.size - n)) (listed.setIfInBounds j true) a' w') :=
   λa' w' ⟨hSw,hp⟩=>⟨λ_ _=>hSw,Sh l n hsel hQ rest _ _ w' (hcl.set hj') hB' (λ_=>hSw) hp⟩
  split;rename_i hw;rw [if_pos hw] at h;exact .inl (Oper.wp_mono step h);rename_i hw;rw [if_neg hw] at h;exact step _ _ h
 | (i,2) :: rest,listed,a,w,hcl,hB,hS,h=>by
  simp only [Hb,Bool.and_eq_true,decide_eq_true_eq,Bool.not_eq_true'] at hB;obtain ⟨⟨⟨⟨hi,hr⟩,hn⟩,hno⟩,hB'⟩:=hB;have ho:l.toArray[i]? = some l.toArray[i]:=by simp
  simp only [DP,List.filterMap_cons,ho,Option.map_some,BU] at h;rw [show (((i,2) :: rest:List (Nat×Nat)).length+(l.toArray.size - n))=(rest.length+(l.toArray.size - n))+1 by simp only [AX];omega];refine ⟨λh0=>(by rw [hr] at h0;cases h0),λj hj=>?_⟩;have hj':=hj;rw [hr] at hj;have hji:j=i:=by simpa using hj
  subst hji;have h:=h _ (λa' w' h=>h);unfold wpOp;rw [ho];simp only;have step:∀ a' w',BU P l.toArray Q S (wpList P l.toArray Q (l.drop n)) (DP l.toArray rest) a' w' ->
    ((Ng .any l.toArray E j=true->S w->S w')/\wpAnyS P .any l.toArray Q S E (rest.length+(l.toArray.size - n)) (listed.setIfInBounds j true) a' w') :=
   λa' w' hp=>⟨λhc=>(by rw [hn] at hc;cases hc),Sh l n hsel hQ rest _ _ w' (hcl.set hj') hB' (λhc=>(by rw [hno] at hc;cases hc)) hp⟩
  split;rename_i hw;rw [if_pos hw] at h;exact .inl (Oper.wp_mono step h);rename_i hw;rw [if_neg hw] at h;exact step _ _ h
 | (i,k+3) :: rest,listed,a,w,hcl,hB,hS,h=>by
  simp only [Hb,Bool.and_eq_true,decide_eq_true_eq] at hB;obtain ⟨⟨⟨⟨⟨hk,hE⟩,hi⟩,hr⟩,hf⟩,hB'⟩:=hB;subst hk;have ho:l.toArray[i]? = some l.toArray[i]:=by simp
  simp only [DP,List.filterMap_cons,ho,Option.map_some,BU] at h;obtain ⟨v,hy,h⟩:=h;have hr':i ∈ Region.ready .any l.toArray listed:=by simpa using hr
  have hSw:S w:=hS (by simp);rw [show (((i,0+3) :: rest:List (Nat×Nat)).length+(l.toArray.size - n))=(rest.length+(l.toArray.size - n))+1 by simp only [AX];omega];exact wpAnyS_first (T:=S) ho (Region.noSelect_spec hsel) (λc a w=>hQ c a _ v w) (.inr ⟨by simpa using hE,λ_ h=>h⟩) _ listed a w hcl (Region.free_spec ho hf) hr' hy (.inr hSw)
   (Sh l n hsel hQ rest _ _ w (hcl.set hr') hB' (λ_=>hSw) h)
def NQ (plan:List (Nat×Nat)):List Nat:=plan.filterMap λx=>if x.2 == 3 then some x.1 else none
theorem K9 {id:Nat} {a:Act} {w:World} {l:List Oper} (plan:List (Nat×Nat)) (S:World->Prop) (hm:P.follows .mixedOrders=true)
  (hB:(Region.noSelect l.toArray && decide (plan.length<=l.length) && Hb l.toArray (NQ plan) plan.length plan (Array.replicate l.toArray.size false))=true)
  (hQ:∀ c a d v w,Q (.panic c) (Act.put a d v) w->Q (.panic c) a w) (hS:S w.drew)
  (h:BU P l.toArray Q S (wpList P l.toArray Q (l.drop plan.length)) (DP l.toArray plan) a w.drew):(Code.region id l.toArray true).wp P Q a w:=by
 simp only [Bool.and_eq_true,decide_eq_true_eq] at hB
 obtain ⟨⟨hsel,hlen⟩,hB⟩:=hB
 refine wp_region_any hm ?_
 have hcl:Closed .any l.toArray (Array.replicate l.toArray.size false):=λj oj _ hl=>by
  rw [show (Array.replicate l.toArray.size false).getD j false=false by
   rcases Nat.lt_or_ge j l.toArray.size with h' | h' <;> (simp [Array.getD_eq_getD_getElem?,Array.getElem?_replicate];try split <;> rfl)] at hl
  cases hl
 have:=Sh (P:=P) (Q:=Q) (S:=S) l plan.length hsel hQ plan _ a w.drew hcl hB (λ_=>hS) h
 have:=Aea _ _ _ _ this
 rw [show plan.length+(l.toArray.size - plan.length)=l.toArray.size by simp only [List.size_toArray];omega] at this
 exact this
section steps
variable {T:Act->World->Prop} {o:Oper} {rest:List (Oper×Nat)} {a:Act} {w:World} {v:Value}
theorem DY (hg:Region.wanted o (yielded ops a.tmps)=true) (hy:∀ w,(execOp a.eval o).run P w=.ok (.value v) w) (h:BU P ops Q S T rest (a.put o.dst v) w) :
  BU P ops Q S T ((o,0) :: rest) a w:=⟨v,.inl ⟨hg,λw _=>hy w⟩,h⟩
theorem Bsv (hg:Region.wanted o (yielded ops a.tmps)=false) (h:BU P ops Q S T rest (a.put o.dst undef) w):BU P ops Q S T ((o,0) :: rest) a w:=⟨undef,.inr ⟨hg,rfl⟩,h⟩
theorem Bsw (hg:Region.wanted o (yielded ops a.tmps)=false) (h:BU P ops Q S T rest (a.put o.dst undef) w):BU P ops Q S T ((o,3) :: rest) a w:=⟨undef,.inr ⟨hg,rfl⟩,h⟩
theorem Gj (hg:Region.wanted o (yielded ops a.tmps)=true) (hy:∀ w,S w->(execOp a.eval o).run P w=.ok (.value v) w) (h:BU P ops Q S T rest (a.put o.dst v) w) :
  BU P ops Q S T ((o,3) :: rest) a w:=⟨v,.inl ⟨hg,hy⟩,h⟩
theorem Qg (hg:Region.wanted o (yielded ops a.tmps)=true)
  (h:∀ K:Act->World->Prop,(∀ a' w',(S w'/\BU P ops Q S T rest a' w')->K a' w')->o.wp P a w K Q):BU P ops Q S T ((o,1) :: rest) a w :=
 λK hK=>by rw [if_pos hg];exact h K hK
theorem Lf (h:T a w):BU P ops Q S T [] a w:=h
end steps
end
abbrev Au (x:Int):Int:=IntKind.i64.wrap x
abbrev N:=Nat->Option Obj
def blk (b:Nat) (o:Obj):N:=λk=>if k=b then some o else none
def N.Apart (f g:N):Prop:=∀ k,f k=none\/g k=none
def N.On (f:N) (w:World):Prop:=∀ k o,f k=some o->w.heap[k]? = some o
def Sat:List N->World->Prop
 | [],_=>True
 | f :: l,w=>f.On w/\(∀ g ∈ l,f.Apart g)/\Sat l w
theorem N.Apart.symm {f g:N} (h:f.Apart g):g.Apart f:=λk=>(h k).symm
theorem Sat.on:∀ {l:List N} {w:World},Sat l w->∀ f ∈ l,f.On w
 | _ :: _,_,h,f,hf=>by
  rcases List.mem_cons.1 hf with rfl | hf;exact h.1;exact h.2.2.on f hf
theorem Sat.perm {l l':List N} (hp:l.Perm l') {w:World} (h:Sat l w):Sat l' w:=by
 induction hp with
 | nil=>trivial
 | cons x hp ih=>exact ⟨h.1,λg hg=>h.2.1 g (hp.mem_iff.2 hg),ih h.2.2⟩
 | swap x y l =>
  obtain ⟨h1,h2,h3,h4,h5⟩:=h;refine ⟨h3,λg hg=>?_,h1,λg hg=>h2 g (EM _ hg),h5⟩;rcases List.mem_cons.1 hg with rfl | hg
  ·exact (h2 x (DT ..)).symm
  ·exact h4 g hg
 | trans _ _ ih1 ih2=>exact ih2 (ih1 h)
theorem Sat.lt {l:List N} {w:World} (h:Sat l w) {f:N} (hf:f ∈ l) {k:Nat} {o:Obj} (hk:f k=some o):k < w.heap.size :=
 (Array.getElem?_eq_some_iff.1 (h.on f hf k o hk)).1
theorem Sat.keep:∀ {l:List N} {w w':World},Sat l w->(∀ f ∈ l,∀ k o,f k=some o->w'.heap[k]? = w.heap[k]?)->Sat l w'
 | [],_,_,_,_=>trivial
 | f :: l,w,w',h,hk=>⟨λk o e=>(hk f (DT ..) k o e).trans (h.1 k o e),h.2.1,h.2.2.keep λg hg=>hk g (EM _ hg)⟩
theorem Sat.app {l l':List N} {w:World} (h:Sat (l++l') w):Sat l w/\Sat l' w:=by
 induction l with
 | nil=>exact ⟨Aj,h⟩
 | cons f l ih=>exact ⟨⟨h.1,λg hg=>h.2.1 g (List.mem_append_left _ hg),(ih h.2.2).1⟩,(ih h.2.2).2⟩
theorem Sat.new {l:List N} {w:World} (h:Sat l w) (o:Obj):Sat (blk w.heap.size o :: l) (w.alloc o):=by
 refine ⟨λk o' hk=>?_,λg hg k=>?_,h.keep λf hf k o' hk=>?_⟩;unfold blk at hk;split at hk;rename_i e;subst e;cases hk;exact heap_alloc_new w _;cases hk;unfold blk;split;rename_i e;subst e;cases hgk:g w.heap.size with
 | none=>exact .inr rfl
 | some o'=>exact absurd (h.lt hg hgk) (Nat.lt_irrefl _)
 exact .inl rfl;exact Below.heap_alloc w o k (h.lt hf hk)
theorem Sat.set {l:List N} {w:World} {b:Nat} {cs:Array Value} {e:TypeId} {z:Nat×Nat} (h:Sat (blk b (.cells cs e z) :: l) w) (i:Nat) (v:Value) :
  Sat (blk b (.cells (cs.setIfInBounds i v) e z) :: l) (w.setCell ⟨b,i,none⟩ v):=by
 refine ⟨λk o hk=>?_,λg hg k=>?_,h.2.2.keep λf hf k o hk=>?_⟩;unfold blk at hk;split at hk;rename_i e';subst e';cases hk;have:=h.1 k (.cells cs e z) (by simp [blk]);simp [World.setCell,Array.getElem?_modify,this];cases hk;rcases h.2.1 g hg k with h' | h';unfold blk at h' ⊢;split at h';cases h';rename_i e';rw [if_neg e'];exact .inl rfl;exact .inr h';refine Below.heap_setCell w ⟨b,i,none⟩ v k λe'=>?_;have e':k=b:=e';rcases h.2.1 f hf k with h' | h';simp [blk,e'] at h';rw [h'] at hk;cases hk
theorem Sat.cell {l:List N} {w:World} {b:Nat} {cs:Array Value} {e:TypeId} {z:Nat×Nat} (h:Sat l w) (hb:blk b (.cells cs e z) ∈ l) (i:Nat):w.cell? ⟨b,i,none⟩=cs[i]?:=by
 have:=h.on _ hb b (.cells cs e z) (by simp [blk]);simp [World.cell?,this]
theorem Sat.free {l:List N} {w:World} {b:Nat} {cs:Array Value} {e:TypeId} (h:Sat l w) (hb:blk b (.cells cs e (0,0)) ∈ l) (i:Nat):w.frozen? ⟨b,i,none⟩=false:=by
 have:=h.on _ hb b (.cells cs e (0,0)) (by simp [blk]);simp [World.frozen?,this]
structure St (A:World) (l:List N) (w:World):Prop where
 sat:Sat l w
 os:w.os=A.os
 tape:w.tape=A.tape
 output:w.output=A.output
 size:A.heap.size<=w.heap.size
section
variable {A w w':World} {l l':List N}
theorem St.perm (hp:l.Perm l') (h:St A l w):St A l' w:=⟨h.sat.perm hp,h.os,h.tape,h.output,h.size⟩
theorem St.new (h:St A l w) (o:Obj):St A (blk w.heap.size o :: l) (w.alloc o):=⟨h.sat.new o,h.os,h.tape,h.output,by have:=h.size;simp;omega⟩
theorem St.drew (h:St A l w):St A l w.drew:=⟨h.sat.keep λ_ _ _ _ _=>rfl,h.os,h.tape,h.output,h.size⟩
theorem St.tail {f:N} (h:St A (f :: l) w):St A l w:=⟨h.sat.2.2,h.os,h.tape,h.output,h.size⟩
theorem St.set {b:Nat} {cs:Array Value} {e:TypeId} {z:Nat×Nat} (h:St A (blk b (.cells cs e z) :: l) w) (i:Nat) (v:Value) :
  St A (blk b (.cells (cs.setIfInBounds i v) e z) :: l) (w.setCell ⟨b,i,none⟩ v):=⟨h.sat.set i v,h.os,h.tape,h.output,by have:=h.size;simp;omega⟩
theorem St.below (h:St A l w) (hb:Below w.heap.size w w'):St A l w' :=
 ⟨h.sat.keep λ_ hf k o hk=>hb.block k (h.sat.lt hf hk),hb.os.trans h.os,hb.tape.trans h.tape,hb.output.trans h.output,Nat.le_trans h.size hb.size⟩
def old (w:World):N:=λk=>w.heap[k]?
theorem St.start (w:World):St w [old w] w:=⟨⟨λ_ _ h=>h,λ_ h=>(by cases h),Aj⟩,rfl,rfl,rfl,Nat.le_refl _⟩
theorem St.end_ (h:St A (l++[old A]) w'):Below A.heap.size A w' :=
 ⟨h.os,h.tape,h.output,h.size,λk hk=>by
  have h1:=h.sat.on (old A) (by simp) k A.heap[k] (by simp [old,hk]);rw [h1];simp [hk]⟩
end
abbrev Env:=List (Nat×Value)
def Env.get:Env->Nat->Option Value
 | [],_=>none
 | (k,v) :: r,i=>cond (Nat.beq k i) (some v) (Env.get r i)
structure Holds (ds:List Deferred) (n:Nat) (env:Env) (a:Act):Prop where
 size:a.tmps.size=n
 defers:a.defers=ds
 at_:∀ i v,env.get i=some v->a.tmps.getD i undef=v
def BL (env:Env):Operand->Option Value
 | .tmp t=>env.get t
 | .const v=>some v
 | .global g=>some (.pointer (some ⟨g,0,none⟩))
 | .func f=>some (.func (.func f) #[] #[])
def rho (env:Env) (x:Operand):Value:=(BL env x).getD undef
def allB:List Operand->Env->Bool
 | [],_=>true
 | x :: r,env=>match BL env x with | some _=>allB r env | none=>false
theorem Holds.eval {ds:List Deferred} {n:Nat} {env:Env} {a:Act} (h:Holds ds n env a) {x:Operand} {v:Value} (hx:BL env x=some v):a.eval x=v:=by
 cases x with
 | tmp t=>exact h.at_ t v hx
 | const u=>exact Ao hx
 | global g=>exact Ao hx
 | func f=>exact Ao hx
theorem Holds.rho {ds:List Deferred} {n:Nat} {env:Env} {a:Act} (h:Holds ds n env a) {xs:List Operand} (hx:allB xs env=true):∀ x ∈ xs,a.eval x=rho env x:=by
 induction xs with
 | nil=>intro x hx;cases hx
 | cons y r ih =>
  intro x hm;unfold allB at hx;split at hx;rename_i v hv;rcases List.mem_cons.1 hm with rfl | hm;rw [h.eval hv];simp [Go.Proofs.YteccladehmaglaaGreatDoor.rho,hv];exact ih hx x hm;cases hx
theorem Holds.put {ds:List Deferred} {n:Nat} {env:Env} {a:Act} (h:Holds ds n env a) (d:Nat) (v:Value) (hd:d < n):Holds ds n ((d,v) :: env) (a.put (some d) v):=by
 refine ⟨by simp [Act.put,h.size],h.defers,λi u hi=>?_⟩;simp only [Env.get] at hi;simp only [Act.put,Array.getD_eq_getD_getElem?,Array.getElem?_setIfInBounds];cases hb:Nat.beq d i with
 | true =>
  have:d=i:=Nat.eq_of_beq_eq_true hb;subst this;rw [hb] at hi;cases hi;simp [h.size,hd]
 | false =>
  have:d≠i:=Nat.ne_of_beq_eq_false hb;rw [hb] at hi;rw [if_neg this];have:=h.at_ i u hi;rw [Array.getD_eq_getD_getElem?] at this;exact this
def Bl (env:Env):Option Nat->Value->Env
 | some d,v=>(d,v) :: env
 | none,_=>env
def inB (n:Nat):Option Nat->Bool
 | some d=>Nat.blt d n
 | none=>true
theorem Holds.Bl {ds:List Deferred} {n:Nat} {env:Env} {a:Act} (h:Holds ds n env a) {d:Option Nat} (v:Value) (hd:inB n d=true):Holds ds n (Bl env d v) (a.put d v):=by
 cases d with
 | none=>exact h
 | some d=>exact h.put d v (by simpa [inB,Nat.blt_eq] using hd)
def Sub (env:Env):Env->Prop
 | []=>True
 | (k,v) :: r=>env.get k=some v/\Sub env r
theorem Sub.get {env:Env}:∀ {sub:Env},Sub env sub->∀ i v,sub.get i=some v->env.get i=some v
 | (k,u) :: r,h,i,v,hi=>by
  simp only [Env.get] at hi;cases hb:Nat.beq k i with
  | true =>
   rw [hb] at hi;cases hi;rw [<- Nat.eq_of_beq_eq_true hb];exact h.1
  | false=>rw [hb] at hi;exact h.2.get i v hi
theorem Holds.sub {ds:List Deferred} {n:Nat} {env sub:Env} {a:Act} (h:Holds ds n env a) (hs:Sub env sub):Holds ds n sub a:=⟨h.size,h.defers,λi v hi=>h.at_ i v (hs.get i v hi)⟩
def K (ds:List Deferred) (A:World) (n:Nat) (env:Env) (l:List N) (q:Act->World->Prop):Prop:=∀ a w,Holds ds n env a->St A l w->q a w
section
variable {A:World} {ds:List Deferred} {n:Nat} {env env':Env} {l l':List N} {q:Act->World->Prop} {P:Program} {Q:Exit->Act->World->Prop}
theorem K.weak (h:K ds A n env' l q) (hs:Sub env env'):K ds A n env l q:=λa w ha hw=>h a w (ha.sub hs) hw
theorem K.perm (h:K ds A n env l' q) (hp:l.Perm l'):K ds A n env l q:=λa w ha hw=>h a w ha (hw.perm hp)
theorem Ar {f:N} (h:K ds A n env l q):K ds A n env (f :: l) q:=λa w ha hw=>h a w ha hw.tail
theorem Al {a b:N} (h:K ds A n env (b :: a :: l) q):K ds A n env (a :: b :: l) q:=h.perm (List.Perm.swap ..)
theorem Ay {a b c:N} (h:K ds A n env (c :: a :: b :: l) q):K ds A n env (a :: b :: c :: l) q:=h.perm ((List.Perm.swap c b l).cons a |>.trans (List.Perm.swap ..))
theorem Ap {a b c d:N} (h:K ds A n env (d :: a :: b :: c :: l) q):K ds A n env (a :: b :: c :: d :: l) q :=
 h.perm ((((List.Perm.swap d c l).cons b).cons a).trans (((List.Perm.swap d b _).cons a).trans (List.Perm.swap ..)))
theorem Bb {a b c d e:N} (h:K ds A n env (e :: a :: b :: c :: d :: l) q):K ds A n env (a :: b :: c :: d :: e :: l) q :=
 h.perm (((((List.Perm.swap e d l).cons c).cons b).cons a).trans ((((List.Perm.swap e c _).cons b).cons a).trans (((List.Perm.swap e b _).cons a).trans (List.Perm.swap ..))))
theorem AK (h:K ds A n env l (Q .normal)):K ds A n env l (Code.skip.wp P Q):=λa w ha hw=>wp_skip (h a w ha hw)
theorem CP {id:Nat} (h:K ds A n env l (Q (.exit id))):K ds A n env l ((Code.exit id).wp P Q):=λa w ha hw=>wp_exit (h a w ha hw)
theorem Ba (h:K ds A n env l (Q .ret)):K ds A n env l (Code.ret.wp P Q):=λa w ha hw=>wp_ret (h a w ha hw)
theorem Bw {id:Nat} {c:Code} (h:K ds A n env l (c.wp P (Exit.inBlock id Q))):K ds A n env l ((Code.block id c).wp P Q):=λa w ha hw=>wp_block (h a w ha hw)
theorem AR {x y:Code} (h:K ds A n env l (x.wp P (Exit.then (y.wp P Q) Q))):K ds A n env l ((Code.seq x y).wp P Q):=λa w ha hw=>wp_seq (h a w ha hw)
theorem CQ {id:Nat} (h:K ds A n env l (Q .normal)):K ds A n env l (Exit.inBlock id Q (.exit id)):=λa w ha hw=>by
 simp only [Exit.inBlock,if_true];exact h a w ha hw
theorem Tr {id id':Nat} (hne:Nat.beq id' id=false) (h:K ds A n env l (Q (.exit id'))):K ds A n env l (Exit.inBlock id Q (.exit id')):=λa w ha hw=>by
 simp only [Exit.inBlock,if_neg (Nat.ne_of_beq_eq_false hne)];exact h a w ha hw
theorem ZG {c:Operand} {x y:Code} (hc:BL env c=some (.bool true)) (hx:K ds A n env l (x.wp P Q)):K ds A n env l ((Code.cond c x y).wp P Q) :=
 λa w ha hw=>wp_cond_true (ha.eval hc) (hx a w ha hw)
theorem ZF {c:Operand} {x y:Code} (hc:BL env c=some (.bool false)) (hx:K ds A n env l (y.wp P Q)):K ds A n env l ((Code.cond c x y).wp P Q) :=
 λa w ha hw=>wp_cond_false (ha.eval hc) (hx a w ha hw)
theorem AO {id:Nat} {ops:List Oper} (h:K ds A n env l (wpList P ops.toArray Q ops)):K ds A n env l ((Code.region id ops.toArray false).wp P Q):=λa w ha hw=>wp_region_lit (h a w ha hw)
theorem KR {ops:Array Oper} (h:K ds A n env l (Q .normal)):K ds A n env l (wpList P ops Q []):=λa w ha hw=>wpList_nil (h a w ha hw)
theorem Bw1 {c:Code} {a:Act} {w:World} (Aa:Nat->Act->World->Prop) (m:Nat) (h0:Aa m a w)
  (round:∀ m a w,Aa m a w->c.wp P (Exit.then (λa' w'=>∃ k,k < m/\Aa k a' w') Q) a w):(Code.loop c).wp P Q a w:=by
 intro b k cs;have key:∀ m a w,Aa m a w->∃ e a' w',Q e a' w'/\Arrives P (lone (b.at a (.code c :: .inLoop c :: k)) cs w) b k cs e a' w':=by
  intro m;induction m using Nat.strongRecOn with
  | _ m ih =>
   intro a w hI;obtain ⟨e,a₁,w₁,hq,harr⟩:=round m a w hI b (.inLoop c :: k) cs;cases e with
   | normal =>
    obtain ⟨j,hlt,hI₁⟩:=hq;obtain ⟨e₂,a₂,w₂,hq₂,harr₂⟩:=ih j hlt a₁ w₁ hI₁;exact ⟨e₂,a₂,w₂,hq₂,.of_steps (Steps.trans harr (.one step_inLoop)) harr₂⟩
   | exit id=>exact ⟨_,a₁,w₁,hq,.pass (x:=.inLoop c) rfl (λ_ _=>.inl (by simp)) harr⟩
   | goto l=>exact ⟨_,a₁,w₁,hq,.pass (x:=.inLoop c) rfl (λ_ _=>.inl (by simp)) harr⟩
   | ret=>exact ⟨_,a₁,w₁,hq,.pass (x:=.inLoop c) rfl (λ_ _=>.inl (by simp)) harr⟩
   | panic ch=>exact ⟨_,a₁,w₁,hq,.pass (x:=.inLoop c) rfl (λ_ _=>.inl (by simp)) harr⟩
   | outgrown=>exact ⟨_,a₁,w₁,hq,.pass (x:=.inLoop c) rfl (λ_ _=>.inl (by simp)) harr⟩
 obtain ⟨e,a',w',hq,harr⟩:=key m a w h0;exact ⟨e,a',w',hq,.of_steps (.one step_loop) harr⟩
def Afs {τ:Type} (ds:List Deferred) (A:World) (n:Nat) (E:τ->Env) (L:τ->List N) (S:Nat->τ->Prop) (m:Nat) (a:Act) (w:World):Prop :=
 ∃ k,k < m/\∃ t,S k t/\Holds ds n (E t) a/\St A (L t) w
theorem Db {τ:Type} {c:Code} (E:τ->Env) (L:τ->List N) (S:Nat->τ->Prop) (m:Nat) (t:τ) (h0:S m t) (hs:Sub env (E t)) (hl:l=L t)
  (round:∀ m t,S m t->K ds A n (E t) (L t) (c.wp P (Exit.then (Afs ds A n E L S m) Q))):K ds A n env l ((Code.loop c).wp P Q):=λa w ha hw=>by
 subst hl;refine Bw1 (λm a w=>∃ t,S m t/\Holds ds n (E t) a/\St A (L t) w) m ⟨t,h0,ha.sub hs,hw⟩ ?_;rintro m a w ⟨t,hS,ha,hw⟩;exact round m t hS a w ha hw
theorem C5 {τ:Type} {E:τ->Env} {L:τ->List N} {S:Nat->τ->Prop} {m:Nat} (k:Nat) (t:τ) (hk:k < m) (hS:S k t) (hs:Sub env (E t)) (hl:l=L t):K ds A n env l (Afs ds A n E L S m) :=
 λ_ _ ha hw=>⟨k,hk,t,hS,ha.sub hs,by subst hl;exact hw⟩
end
def FZ (P:Program) {α:Type}:Sem α->Option α
 | .pure a=>some a
 | .program k=>FZ P (k P)
 | .mark _ k=>FZ P k
 | _=>none
theorem RO {P:Program} {α:Type}:∀ {e:Sem α} {x:α} {w:World},FZ P e=some x->e.run P w=.ok x w
 | .pure a,x,w,h=>by simp only [FZ,Option.some.injEq] at h;subst h;rfl
 | .program k,x,w,h=>by simp only [FZ] at h;simp only [Sem.run];exact RO h
 | .mark m k,x,w,h=>by simp only [FZ] at h;simp only [Sem.run];exact RO h
 | .load ..,_,_,h | .store ..,_,_,h | .new ..,_,_,h | .shape ..,_,_,h | .freeze ..,_,_,h | .frozen ..,_,_,h | .getObj ..,_,_,h | .setObj ..,_,_,h | .choose ..,_,_,h | .sys ..,_,_,h | .halt ..,_,_,h=>by simp [FZ] at h
def NU (P:Program) {α:Type}:Sem α->Option Halt
 | .halt h=>some h
 | .program k=>NU P (k P)
 | .mark _ k=>NU P k
 | _=>none
theorem Yx {P:Program} {α:Type}:∀ {e:Sem α} {x:Halt} {w:World},NU P e=some x->e.run P w=.halt x w
 | .halt a,x,w,h=>by simp only [NU,Option.some.injEq] at h;subst h;rfl
 | .program k,x,w,h=>by simp only [NU] at h;simp only [Sem.run];exact Yx h
 | .mark m k,x,w,h=>by simp only [NU] at h;simp only [Sem.run];exact Yx h
 | .load ..,_,_,h | .store ..,_,_,h | .new ..,_,_,h | .shape ..,_,_,h | .freeze ..,_,_,h | .frozen ..,_,_,h | .getObj ..,_,_,h | .setObj ..,_,_,h | .choose ..,_,_,h | .sys ..,_,_,h | .pure ..,_,_,h=>by simp [NU] at h
theorem PP {α β:Type} {f g:α->β} {xs:Array α} (h:∀ x ∈ xs,f x=g x):xs.map f=xs.map g:=Array.map_congr_left h
def DC:Op->Bool
 | .select ..=>false
 | _=>true
theorem execOp_congr (ρ ρ':Operand->Value) (o:Oper) (hs:DC o.op=true) (h:∀ x ∈ o.op.operands.toList,ρ x=ρ' x):execOp ρ o=execOp ρ' o:=by
 obtain ⟨dst,op,ty,pos,after,guard⟩:=o;have ha:∀ x ∈ op.operands,ρ x=ρ' x:=λx hx=>h x (Array.mem_toList_iff.2 hx);clear h;cases op with
 | select cs b=>cases hs
 | call c =>
  obtain ⟨callee,args,argTypes⟩:=c;have h2:args.map ρ=args.map ρ':=PP λx hx=>ha x (by cases callee <;> simp [Op.operands,Call.operands,hx]);cases callee with
  | value f=>have h1:ρ f=ρ' f:=ha f (by simp [Op.operands,Call.operands]);simp only [execOp,resolve,h1,h2]
  | invoke r m=>have h1:ρ r=ρ' r:=ha r (by simp [Op.operands,Call.operands]);simp only [execOp,resolve,h1,h2]
  | builtin b=>simp only [execOp,resolve,h2]
 | go c =>
  obtain ⟨callee,args,argTypes⟩:=c;have h2:args.map ρ=args.map ρ':=PP λx hx=>ha x (by cases callee <;> simp [Op.operands,Call.operands,hx]);cases callee with
  | value f=>have h1:ρ f=ρ' f:=ha f (by simp [Op.operands,Call.operands]);simp only [execOp,resolve,h1,h2]
  | invoke r m=>have h1:ρ r=ρ' r:=ha r (by simp [Op.operands,Call.operands]);simp only [execOp,resolve,h1,h2]
  | builtin b=>simp only [execOp,resolve,h2]
 | defer c =>
  obtain ⟨callee,args,argTypes⟩:=c;have h2:args.map ρ=args.map ρ':=PP λx hx=>ha x (by cases callee <;> simp [Op.operands,Call.operands,hx]);cases callee with
  | value f=>have h1:ρ f=ρ' f:=ha f (by simp [Op.operands,Call.operands]);simp only [execOp,resolve,h1,h2]
  | invoke r m=>have h1:ρ r=ρ' r:=ha r (by simp [Op.operands,Call.operands]);simp only [execOp,resolve,h1,h2]
  | builtin b=>simp only [execOp,resolve,h2]
 | build t ps =>
  have h1:(ps.map λ(i,x)=>(i,ρ x))=(ps.map λ(i,x)=>(i,ρ' x)):=PP λx hx=>by
   obtain ⟨i,y⟩:=x;have:=ha y (by simp only [Op.operands,List.mem_toArray,List.mem_map];exact ⟨(i,y),Array.mem_toList_iff.2 hx,rfl⟩);simp [this]
  simp only [execOp,h1]
 | buildSlice t n ps =>
  have h1:(ps.map λ(i,x)=>(i,ρ x))=(ps.map λ(i,x)=>(i,ρ' x)):=PP λx hx=>by
   obtain ⟨i,y⟩:=x;have:=ha y (by simp only [Op.operands,List.mem_toArray,List.mem_map];exact ⟨(i,y),Array.mem_toList_iff.2 hx,rfl⟩);simp [this]
  simp only [execOp,h1]
 | makeFunc fn first captured =>
  have h1:first.map ρ=first.map ρ':=PP λx hx=>ha x (by simp [Op.operands,hx])
  have h2:captured.map ρ=captured.map ρ':=PP λx hx=>ha x (by simp [Op.operands,hx]);simp only [execOp,h1,h2]
 | makeMap t r=>cases r with
  | none=>rfl
  | some x=>have h1:ρ x=ρ' x:=ha x (by simp [Op.operands]);simp only [execOp,Option.map_some,h1]
 | slice t x lo hi mx =>
  have h0:ρ x=ρ' x:=ha x (by simp [Op.operands]);have h1:lo.map ρ=lo.map ρ':=by cases lo with | none=>rfl | some y=>exact congrArg some (ha y (by simp [Op.operands]))
  have h2:hi.map ρ=hi.map ρ':=by cases hi with | none=>rfl | some y=>exact congrArg some (ha y (by simp [Op.operands]))
  have h3:mx.map ρ=mx.map ρ':=by cases mx with | none=>rfl | some y=>exact congrArg some (ha y (by simp [Op.operands]))
  simp only [execOp,h0,h1,h2,h3]
 | alloc | ready | waits=>rfl
 | move x | assign x | box _ x | load _ x | nilCheck x | unOp _ _ x | convert _ _ x | sliceToArrayPointer _ x | makeInterface _ x | makeChan _ x | fieldAddr _ x _ | field _ x _ | range _ x | next x _ | entry x | typeAssert x _ _ _ | extract x _ | panic x | recv _ x _ =>
  have h1:ρ x=ρ' x:=ha x (by simp [Op.operands]);simp only [execOp,h1]
 | pick x y z | mapUpdate _ x y z | entryStore _ x y z | insert _ x y z =>
  have h1:ρ x=ρ' x:=ha x (by simp [Op.operands]);have h2:ρ y=ρ' y:=ha y (by simp [Op.operands]);have h3:ρ z=ρ' z:=ha z (by simp [Op.operands]);simp only [execOp,h1,h2,h3]
 | store _ x y | binOp _ _ x y _ | makeSlice _ x y | indexAddr _ x y | index _ x y | lookup _ x y _ | mapEntry _ x y | send x y =>
  have h1:ρ x=ρ' x:=ha x (by simp [Op.operands]);have h2:ρ y=ρ' y:=ha y (by simp [Op.operands]);simp only [execOp,h1,h2]
def Ci (ops:Array Oper) (env:Env) (o:Oper):Option Bool :=
 match o.guard with
 | none=>some true
 | some (j,want) =>
  match (ops[j]?).bind (·.dst) with
  | none=>none
  | some d=>match env.get d with
   | some (.bool b)=>some (b == want)
   | some (.tuple _)=>some false
   | _=>none
theorem Hk {ops:Array Oper} {ds:List Deferred} {n:Nat} {env:Env} {a:Act} {o:Oper} {b:Bool} (ha:Holds ds n env a) (h:Ci ops env o=some b):Region.wanted o (yielded ops a.tmps)=b:=by
 unfold Ci at h;unfold Region.wanted;split at h;rename_i hg;rw [hg];exact Ao h;rename_i j want hg;rw [hg];split at h;cases h;rename_i d hd;have hy:∀ v,env.get d=some v->v≠undef->a.tmps[d]? = some v:=λv hv hne=>by
  have:=ha.at_ d v hv;rw [Array.getD_eq_getD_getElem?] at this;cases hq:a.tmps[d]? with
  | none=>rw [hq] at this;exact absurd this.symm hne
  | some u=>rw [hq] at this;exact congrArg some this
 split at h;rename_i b' hv;have:=hy _ hv (by intro e;cases e);simp only [yielded,hd,Aq,this];have:=Ao h;subst this;cases b' <;> cases want <;> rfl;rename_i t hv;have:=ha.at_ d _ hv;have hb:=Ao h;subst hb;rw [Array.getD_eq_getD_getElem?] at this;simp only [yielded,hd,Aq];cases hq:a.tmps[d]? with
 | none=>rfl
 | some u =>
  rw [hq] at this;simp only [Option.getD_some] at this;subst this;rfl
 cases h
def Hf (P:Program) (ops:Array Oper) (n:Nat):List Oper->Env->Option Env
 | [],env=>some env
 | o :: rest,env =>
  match Ci ops env o with
  | none=>none
  | some false=>match inB n o.dst with
   | true=>Hf P ops n rest (Bl env o.dst undef)
   | false=>none
  | some true=>match DC o.op && allB o.op.operands.toList env && inB n o.dst with
   | false=>none
   | true=>match FZ P (execOp (rho env) o) with
    | some (.value v)=>Hf P ops n rest (Bl env o.dst v)
    | _=>none
def picks:List Nat->Env->Option (List Value)
 | [],_=>some []
 | k :: ks,env=>match env.get k with
  | none=>none
  | some v=>(picks ks env).map (v :: ·)
theorem WA:∀ {sub:Env} {env:Env},picks (sub.map (·.1)) env=some (sub.map (·.2))->Sub env sub
 | [],_,_=>trivial
 | (k,v) :: r,env,h=>by
  simp only [List.map_cons,picks] at h;split at h;cases h;rename_i u hu;cases hp:picks (r.map (·.1)) env with
  | none=>rw [hp] at h;cases h
  | some vs =>
   rw [hp] at h;simp only [Option.map_some,Option.some.injEq,List.cons.injEq] at h;exact ⟨hu.trans (congrArg some h.1),WA (hp.trans (congrArg some h.2))⟩
section
variable {A:World} {ds:List Deferred} {n:Nat} {env env':Env} {l l' X:List N} {q:Act->World->Prop} {P:Program} {Q:Exit->Act->World->Prop} {ops:Array Oper} {os rest:List Oper} {o:Oper}
theorem F1 (hg:Ci ops env o=some true) (h:K ds A n env l (λa w=>o.wp P a w (wpList P ops Q rest) Q)):K ds A n env l (wpList P ops Q (o :: rest)):=λa w ha hw=>by
 unfold wpList;rw [if_pos (Hk ha hg)];exact .inl (h a w ha hw)
theorem Br1 {v:Value} (hs:(DC o.op && allB o.op.operands.toList env && inB n o.dst)=true) (hv:FZ P (execOp (rho env) o)=some (.value v)) {q:Act->World->Prop} (h:K ds A n (Bl env o.dst v) l q) :
  K ds A n env l (λa w=>o.wp P a w q Q):=λa w ha hw=>by
 simp only [Bool.and_eq_true] at hs;unfold Oper.wp;rw [execOp_congr a.eval (rho env) o hs.1.1 (ha.rho hs.1.2),RO hv];exact h _ _ (ha.Bl v hs.2) hw
theorem Bj3 (hg:Ci ops env o=some false) (hd:inB n o.dst=true) (h:K ds A n (Bl env o.dst undef) l (wpList P ops Q rest)):K ds A n env l (wpList P ops Q (o :: rest)):=λa w ha hw=>by
 unfold wpList;rw [if_neg (by rw [Hk ha hg];simp)];exact h _ _ (ha.Bl _ hd) hw
theorem Tt:∀ (os:List Oper) (env:Env),Hf P ops n os env=some env'->K ds A n env' l (wpList P ops Q rest)->K ds A n env l (wpList P ops Q (os++rest))
 | [],env,h,hk=>by simp only [Hf,Option.some.injEq] at h;subst h;exact hk
 | o :: os,env,h,hk=>by
  simp only [Hf] at h;split at h;cases h;rename_i hg;split at h;rename_i hd;exact Bj3 hg hd (Tt os _ h hk);cases h;rename_i hg;split at h;cases h;rename_i hs;split at h;rename_i v hv;exact F1 hg (Br1 hs hv (Tt os _ h hk));cases h
theorem Wa (m:Nat) (sub:Env) (h:(Hf P ops n (os.take m) env).bind (picks (sub.map (·.1)))=some (sub.map (·.2))) (hk:K ds A n sub l (wpList P ops Q (os.drop m))):K ds A n env l (wpList P ops Q os):=by
 cases hs:Hf P ops n (os.take m) env with
 | none=>rw [hs] at h;cases h
 | some Lz =>
  rw [hs] at h;have:=Tt (rest:=os.drop m) (os.take m) env hs (K.weak hk (WA h))
  rwa [List.take_append_drop] at this
inductive Orc where
 | val (v:Value)
 | num (b:Nat)
inductive Ev where
 | ld (a:Addr) (v:Value)
 | st (a:Addr) (v:Value)
 | nw (o:Obj) (b:Nat)
def follow (P:Program) {α:Type}:Sem α->List Orc->Option (α×List Ev)
 | .pure x,_=>some (x,[])
 | .program k,os=>follow P (k P) os
 | .mark _ k,os=>follow P k os
 | .load _ a k,.val v :: os=>match follow P (k v) os with
  | some (x,es)=>some (x,.ld a v :: es)
  | none=>none
 | .store _ a v k,os=>match follow P k os with
  | some (x,es)=>some (x,.st a v :: es)
  | none=>none
 | .new o k,.num b :: os=>match follow P (k b) os with
  | some (x,es)=>some (x,.nw o b :: es)
  | none=>none
 | _,_=>none
def NF:List Ev->World->World->Prop
 | [],w,w'=>w=w'
 | .ld a v :: es,w,w'=>w.cell? a=some v/\NF es w w'
 | .st a v :: es,w,w'=>v.oneCell'=true/\(∃ u,w.cell? a=some u)/\w.frozen? a=false/\NF es (w.setCell a v) w'
 | .nw o b :: es,w,w'=>b=w.heap.size/\NF es (w.alloc o) w'
theorem Jy {α:Type}:∀ {e:Sem α} {os:List Orc} {x:α} {es:List Ev} {w w':World},follow P e os=some (x,es)->NF es w w'->e.run P w=.ok x w'
 | .pure a,_,x,es,w,w',h,he=>by
  simp only [follow,Option.some.injEq,Prod.mk.injEq] at h;obtain ⟨rfl,rfl⟩:=h;cases he;rfl
 | .program k,os,x,es,w,w',h,he=>by simp only [follow] at h;simp only [Sem.run];exact Jy h he
 | .mark m k,os,x,es,w,w',h,he=>by simp only [follow] at h;simp only [Sem.run];exact Jy h he
 | .load m a k,[],x,es,w,w',h,he=>by simp [follow] at h
 | .load m a k,.num _ :: _,x,es,w,w',h,he=>by simp [follow] at h
 | .load m a k,.val v :: os,x,es,w,w',h,he=>by
  simp only [follow] at h;split at h;rename_i y es' hf;simp only [Option.some.injEq,Prod.mk.injEq] at h;obtain ⟨rfl,rfl⟩:=h;simp only [Sem.run,he.1];exact Jy hf he.2;cases h
 | .store m a v k,os,x,es,w,w',h,he=>by
  simp only [follow] at h;split at h;rename_i y es' hf;simp only [Option.some.injEq,Prod.mk.injEq] at h;obtain ⟨rfl,rfl⟩:=h;obtain ⟨h1,⟨u,h2⟩,h3,h4⟩:=he;have:=Jy hf h4;cases v <;> first | (simp [Value.oneCell'] at h1;done) | (simp only [Sem.run,h2,h3,Bool.false_eq_true,if_false];exact this)
  cases h
 | .new o k,[],x,es,w,w',h,he=>by simp [follow] at h
 | .new o k,.val _ :: _,x,es,w,w',h,he=>by simp [follow] at h
 | .new o k,.num b :: os,x,es,w,w',h,he=>by
  simp only [follow] at h;split at h;rename_i y es' hf;simp only [Option.some.injEq,Prod.mk.injEq] at h;obtain ⟨rfl,rfl⟩:=h;obtain ⟨rfl,h4⟩:=he;simp only [Sem.run];exact Jy hf h4;cases h
 | .shape ..,_,_,_,_,_,h,_ | .freeze ..,_,_,_,_,_,h,_ | .frozen ..,_,_,_,_,_,h,_ | .getObj ..,_,_,_,_,_,h,_ | .setObj ..,_,_,_,_,_,h,_ | .choose ..,_,_,_,_,_,h,_ | .sys ..,_,_,_,_,_,h,_ | .halt ..,_,_,_,_,_,h,_=>by simp [follow] at h
def JS (l:List N):List Ev->Prop
 | []=>True
 | .ld a v :: es=>(∃ (i:Nat) (cs:Array Value) (e:TypeId) (z:Nat×Nat),l[i]? = some (blk a.block (.cells cs e z))/\a.spot=none/\cs[a.off]? = some v)/\JS l es
 | _=>False
theorem JS.evs {w:World} (hw:St A l w):∀ {es:List Ev},JS l es->NF es w w
 | [],_=>rfl
 | .ld a v :: es,h=>by
  obtain ⟨⟨i,cs,e,z,h1,h2,h3⟩,h4⟩:=h;refine ⟨?_,h4.evs hw⟩;have:=hw.sat.cell (List.mem_of_getElem? h1) a.off;rw [h3] at this;have e':a=⟨a.block,a.off,none⟩:=by cases a;simp only at h2;subst h2;rfl
  rw [e'];exact this
 | Ev.st .. :: _,h=>h.elim
 | Ev.nw .. :: _,h=>h.elim
theorem Br0 {v:Value} {q:Act->World->Prop} (vs:List Orc) (es:List Ev) (hs:(DC o.op && allB o.op.operands.toList env && inB n o.dst)=true) (hf:follow P (execOp (rho env) o) vs=some (.value v,es)) (hl:JS l es) (h:K ds A n (Bl env o.dst v) l q) :
  K ds A n env l (λa w=>o.wp P a w q Q):=λa w ha hw=>by
 simp only [Bool.and_eq_true] at hs;unfold Oper.wp;rw [execOp_congr a.eval (rho env) o hs.1.1 (ha.rho hs.1.2),Jy hf (hl.evs hw)];exact h _ _ (ha.Bl v hs.2) hw
theorem Ao1 {v:Value} (vs:List Orc) (es:List Ev) (hg:Ci ops env o=some true) (hs:(DC o.op && allB o.op.operands.toList env && inB n o.dst)=true) (hf:follow P (execOp (rho env) o) vs=some (.value v,es)) (hl:JS l es)
  (h:K ds A n (Bl env o.dst v) l (wpList P ops Q rest)):K ds A n env l (wpList P ops Q (o :: rest)):=F1 hg (Br0 vs es hs hf hl h)
def O3 (b:Nat) (e:TypeId):List Ev->Array Value->Option (Array Value)
 | [],cs=>some cs
 | .st a v :: es,cs=>match a.spot,v.oneCell',Nat.blt a.off cs.size with
  | none,true,true=>O3 b e es (cs.setIfInBounds a.off v)
  | _,_,_=>none
 | _,_=>none
def U1 (b:Nat):List Ev->Prop
 | []=>True
 | .st a _ :: es=>a.block=b/\U1 b es
 | _=>False
theorem Au6 {b:Nat} {e:TypeId}:∀ {es:List Ev} {cs cs':Array Value} {w:World},St A (blk b (.cells cs e (0,0)) :: l) w->U1 b es->O3 b e es cs=some cs'->∃ w',NF es w w'/\St A (blk b (.cells cs' e (0,0)) :: l) w'
 | [],cs,cs',w,hw,_,h=>by simp only [O3,Option.some.injEq] at h;subst h;exact ⟨w,rfl,hw⟩
 | .st a v :: es,cs,cs',w,hw,hb,h=>by
  simp only [O3] at h;split at h;rename_i h1 h2 h3;have e':a=⟨b,a.off,none⟩:=by obtain ⟨x,y,z⟩:=a;simp only at h1;subst h1;have:=hb.1;simp only at this;subst this;rfl
  have h3:a.off < cs.size:=by simpa [Nat.blt_eq] using h3
  obtain ⟨w',hw1,hw2⟩:=Au6 (hw.set a.off v) hb.2 h;refine ⟨w',⟨h2,⟨cs[a.off],?_⟩,?_,?_⟩,hw2⟩;exact (congrArg w.cell? e').trans ((hw.sat.cell (DT ..) _).trans (by simp [h3]));exact (congrArg w.frozen? e').trans (hw.sat.free (DT ..) _);rw [e'];exact hw1;cases h
 | Ev.ld .. :: _,_,_,_,_,h,_=>h.elim
 | Ev.nw .. :: _,_,_,_,_,h,_=>h.elim
theorem W1 {b:Nat} {e:TypeId} {cs cs':Array Value} {q:Act->World->Prop} (es:List Ev) (hs:(DC o.op && allB o.op.operands.toList env && inB n o.dst)=true) (hf:follow P (execOp (rho env) o) []=some (.skip,es)) (hb:U1 b es)
  (hc:O3 b e es cs=some cs') (h:K ds A n (Bl env o.dst undef) (blk b (.cells cs' e (0,0)) :: l) q):K ds A n env (blk b (.cells cs e (0,0)) :: l) (λa w=>o.wp P a w q Q):=λa w ha hw=>by
 simp only [Bool.and_eq_true] at hs;obtain ⟨w',h1,h2⟩:=Au6 hw hb hc;unfold Oper.wp;rw [execOp_congr a.eval (rho env) o hs.1.1 (ha.rho hs.1.2),Jy hf h1];exact h _ _ (ha.Bl _ hs.2) h2
theorem Tv {b:Nat} {e:TypeId} {cs cs':Array Value} (es:List Ev) (hg:Ci ops env o=some true) (hs:(DC o.op && allB o.op.operands.toList env && inB n o.dst)=true) (hf:follow P (execOp (rho env) o) []=some (.skip,es)) (hb:U1 b es)
  (hc:O3 b e es cs=some cs') (h:K ds A n (Bl env o.dst undef) (blk b (.cells cs' e (0,0)) :: l) (wpList P ops Q rest)):K ds A n env (blk b (.cells cs e (0,0)) :: l) (wpList P ops Q (o :: rest)):=F1 hg (W1 es hs hf hb hc h)
theorem Abe {q:Act->World->Prop} (ob:Obj) (v:Nat->Value) (hs:(DC o.op && allB o.op.operands.toList env && inB n o.dst)=true) (hf:∀ b,follow P (execOp (rho env) o) [.num b]=some (.value (v b),[.nw ob b]))
  (h:∀ b,K ds A n (Bl env o.dst (v b)) (blk b ob :: l) q):K ds A n env l (λa w=>o.wp P a w q Q):=λa w ha hw=>by
 simp only [Bool.and_eq_true] at hs;unfold Oper.wp;rw [execOp_congr a.eval (rho env) o hs.1.1 (ha.rho hs.1.2),Jy (w':=w.alloc ob) (hf w.heap.size) ⟨rfl,rfl⟩];exact h _ _ _ (ha.Bl _ hs.2) (hw.new ob)
theorem V_ (ob:Obj) (v:Nat->Value) (hg:Ci ops env o=some true) (hs:(DC o.op && allB o.op.operands.toList env && inB n o.dst)=true) (hf:∀ b,follow P (execOp (rho env) o) [.num b]=some (.value (v b),[.nw ob b]))
  (h:∀ b,K ds A n (Bl env o.dst (v b)) (blk b ob :: l) (wpList P ops Q rest)):K ds A n env l (wpList P ops Q (o :: rest)):=F1 hg (Abe ob v hs hf h)
def IX:List N->List N->Prop
 | [],_=>True
 | h :: r,X=>h ∈ X/\IX r X
def Ct (P:Program) (f:FuncId) (args:Array Value) (l0 hs:List N) (R:Ending->List N->Prop):Prop :=
 ∀ A w X,IX hs X->St A (l0++X) w->Calls P f args w λe w'=>∃ l1,R e l1/\St A (l1++X) w'
theorem Ct.mono {f:FuncId} {args:Array Value} {l0 hs:List N} {R R':Ending->List N->Prop} (h:Ct P f args l0 hs R) (hr:∀ e l1,R e l1->R' e l1):Ct P f args l0 hs R' :=
 λA w X hh hw=>(h A w X hh hw).mono λe w' ⟨l1,h1,h2⟩=>⟨l1,hr e l1 h1,h2⟩
def Nx (ds:List Deferred) (A:World) (n:Nat) (env:Env) (d:Option Nat) (X:List N) (next:Act->World->Prop) (Q:Exit->Act->World->Prop):Ending->List N->Prop
 | .returned v,l1=>K ds A n (Bl env d v) (l1++X) next
 | .panicked c,l1=>K ds A n env (l1++X) (Q (.panic c))
 | .outgrown,_=>False
theorem Ub {f:FuncId} {args:Array Value} {l0 hs:List N} {R:Ending->List N->Prop} {next:Act->World->Prop} (hg1:(DC o.op && allB o.op.operands.toList env && inB n o.dst)=true) (hp:FZ P (execOp (rho env) o)=some (.enter f args)) (hc:Ct P f args l0 hs R)
  (hl:l=l0++X) (hh:IX hs X) (hk:∀ e l1,R e l1->Nx ds A n env o.dst X next Q e l1):K ds A n env l (λa w=>o.wp P a w next Q):=λa w ha hw=>by
 subst hl;simp only [Bool.and_eq_true] at hg1;unfold Oper.wp;rw [execOp_congr a.eval (rho env) o hg1.1.1 (ha.rho hg1.1.2),RO hp];refine (hc A w X hh hw).mono λe w' ⟨l1,h1,h2⟩=>?_;have:=hk e l1 h1;cases e with
 | returned v=>exact this _ _ (ha.Bl v hg1.2) h2
 | panicked c=>exact this _ _ ha h2
 | outgrown=>exact this.elim
theorem VY {f:FuncId} {args:Array Value} {l0 hs:List N} {R:Ending->List N->Prop} (X:List N) (hg:Ci ops env o=some true) (hg1:(DC o.op && allB o.op.operands.toList env && inB n o.dst)=true) (hp:FZ P (execOp (rho env) o)=some (.enter f args)) (hc:Ct P f args l0 hs R)
  (hl:l=l0++X) (hh:IX hs X) (hk:∀ e l1,R e l1->Nx ds A n env o.dst X (wpList P ops Q rest) Q e l1):K ds A n env l (wpList P ops Q (o :: rest)):=F1 hg (Ub hg1 hp hc hl hh hk)
theorem Ao3 {v:Value} (hg:Ci ops env o=some true) (hs:(DC o.op && allB o.op.operands.toList env)=true) (hp:NU P (execOp (rho env) o)=some (.panic v)) (hk:K ds A n env l (Q (.panic [{ v,recovered:=false }]))):K ds A n env l (wpList P ops Q (o :: rest)):=by
 refine F1 hg λa w ha hw=>?_;simp only [Bool.and_eq_true] at hs;unfold Oper.wp;rw [execOp_congr a.eval (rho env) o hs.1 (ha.rho hs.2),Yx hp];exact hk a w ha hw
def S8:Nat->List Value->Env
 | _,[]=>[]
 | i,v :: r=>(i,v) :: S8 (i+1) r
theorem X4:∀ (i:Nat) (vs:List Value) (j:Nat) (v:Value),(S8 i vs).get j=some v->i<=j/\vs[j - i]? = some v
 | i,v :: r,j,u,h=>by
  simp only [S8,Env.get] at h;cases hb:Nat.beq i j with
  | true =>
   rw [hb] at h;have:=Nat.eq_of_beq_eq_true hb;subst this;exact ⟨Nat.le_refl _,by simpa using h⟩
  | false =>
   rw [hb] at h;have:=X4 (i+1) r j u h;have hne:=Nat.ne_of_beq_eq_false hb;refine ⟨by omega,?_⟩;rw [show j - i=(j - (i+1))+1 by omega,List.getElem?_cons_succ];exact this.2
theorem BM {f:FuncId} {fn:Func} {c:Code} {args:List Value} {l0 hs:List N} {R:Ending->List N->Prop} (hf:P.funcs[f]? = some fn) (hb:fn.body=some c) (ha:args.length<=fn.ntmps)
  (h:∀ A X,IX hs X->K [] A fn.ntmps (S8 0 args) (l0++X) (c.wp P (bodyPost P fn λe w'=>∃ l1,R e l1/\St A (l1++X) w'))):Ct P f args.toArray l0 hs R:=λA w X hh hw=>by
 refine calls_of_wp hf hb (h A X hh _ w ⟨?_,rfl,λi v hi=>?_⟩ hw);simp;omega;have:=X4 0 args i v hi;simp only [Nat.sub_zero] at this;have hlt:=(List.getElem?_eq_some_iff.1 this.2).1;simp only [Array.getD_eq_getD_getElem?];rw [Array.getElem?_append_left (by simpa using hlt)];simp [this.2]
def Us (ρ:Nat->Value):ResultVar->Sem Value
 | .tmp t=>pure (ρ t)
 | .cell a t=>do loadVar t (<- asAddr (ρ a))
def Lg (rs:Array ResultVar) (ρ:Nat->Value):Sem Value:=do
 let vs <- rs.mapM (Us ρ)
 pure (if h:vs.size=1 then vs[0] else .tuple vs)
theorem results_eq (fn:Func) (tmps:Array Value):results fn tmps=Lg fn.results (λt=>tmps.getD t undef):=rfl
def RT:ResultVar->Nat
 | .tmp t=>t
 | .cell a _=>a
def hasAll:List ResultVar->Env->Bool
 | [],_=>true
 | r :: rs,env=>match env.get (RT r) with | some _=>hasAll rs env | none=>false
def Lh (env:Env) (t:Nat):Value:=(env.get t).getD undef
theorem Aqa {f g:ResultVar->Sem Value}:∀ (rs:List ResultVar),(∀ r ∈ rs,f r=g r)->rs.mapM f=rs.mapM g
 | [],_=>rfl
 | r :: rs,h=>by
  rw [List.mapM_cons,List.mapM_cons,h r (DT ..),Aqa rs λr' hr=>h r' (EM _ hr)]
theorem Ak2 {env:Env}:∀ {rs:List ResultVar},hasAll rs env=true->∀ r ∈ rs,∃ v,env.get (RT r)=some v
 | r0 :: rs,h,r,hr=>by
  simp only [hasAll] at h;split at h;rename_i v hv;rcases List.mem_cons.1 hr with rfl | hr;exact ⟨v,hv⟩;exact Ak2 h r hr;cases h
theorem WO {rs:Array ResultVar} {a:Act} (ha:Holds ds n env a) (h:hasAll rs.toList env=true):Lg rs (λt=>a.tmps.getD t undef)=Lg rs (Lh env):=by
 have hq:∀ r ∈ rs.toList,a.tmps.getD (RT r) undef=Lh env (RT r):=λr hr=>by
  obtain ⟨v,hv⟩:=Ak2 h r hr;rw [ha.at_ _ v hv];simp [Lh,hv]
 unfold Lg;rw [Array.mapM_eq_mapM_toList,Array.mapM_eq_mapM_toList];rw [Aqa (f:=Us λt=>a.tmps.getD t undef) (g:=Us (Lh env)) rs.toList λr hr=>by
  have:=hq r hr;cases r with
  | tmp t=>simp only [RT] at this;simp only [Us,this]
  | cell a t=>simp only [RT] at this;simp only [Us,this]]
theorem Gf {fn:Func} {R:Ending->List N->Prop} {v:Value} (vs:List Orc) (es:List Ev) (l1:List N) (hr:hasAll fn.results.toList env=true) (hf:follow P (Lg fn.results (Lh env)) vs=some (v,es)) (hl:JS l es)
  (hk:K [] A n env l λ_ w=>R (.returned v) l1/\St A (l1++X) w):K [] A n env l (bodyPost P fn (λe w'=>∃ l1,R e l1/\St A (l1++X) w') .ret):=λa w ha hw =>
 ⟨ha.defers,v,by rw [results_eq,WO ha hr];exact Jy hf (hl.evs hw),l1,hk a w ha hw⟩
theorem B3 {R:Prop} (h:R):K [] A n env l λ_ w=>R/\St A l w:=λ_ _ _ hw=>⟨h,hw⟩
theorem Dw {fn:Func} {R:Ending->World->Prop} (h:K [] A n env l (bodyPost P fn R .ret)):K [] A n env l (bodyPost P fn R .normal):=h
theorem Aow {fn:Func} {R:Ending->List N->Prop} {c:List PanicEntry} (l1:List N) (hk:K [] A n env l λ_ w=>R (.panicked c) l1/\St A (l1++X) w):K [] A n env l (bodyPost P fn (λe w'=>∃ l1,R e l1/\St A (l1++X) w') (.panic c)) :=
 λa w ha hw=>⟨ha.defers,l1,hk a w ha hw⟩
end
def force (n:Nat) (k:Nat->Bool):Bool:=match n with | 0=>k 0 | m+1=>k (m+1)
theorem force_eq (n:Nat) (k:Nat->Bool):force n k=k n:=by cases n <;> rfl
abbrev KB:=Nat×Nat×Nat
def JU (o:Oper):Nat:=o.after.toList.foldr (λe m=>if Region.binds .any e then m ||| 2 ^ e.on else m) 0
def R7 (os:Array Oper) (o:Oper):Nat:=(o.looksAt os).foldr (λt m=>m ||| 2 ^ t) 0
def QK (o:Oper):Nat:=match o.dst with | none=>0 | some d=>d+1
def Lt (os:Array Oper) (o:Oper):KB:=(JU o,R7 os o,QK o)
def Vm (os:Array Oper):List Oper->(List KB->Bool)->Bool
 | [],k=>k []
 | o :: r,k=>force (JU o) λa=>force (R7 os o) λb=>force (QK o) λd=>Vm os r λAe=>k ((a,b,d) :: Ae)
theorem Ahg (os:Array Oper):∀ (l:List Oper) (k:List KB->Bool),Vm os l k=k (l.map (Lt os))
 | [],k=>rfl
 | o :: r,k=>by simp only [Vm,force_eq,Ahg os r];rfl
def X1 (lk d lk' d':Nat):Bool:=(d == 0 || (!Nat.testBit lk' (d - 1) && d' != d)) && (d' == 0 || !Nat.testBit lk (d' - 1))
def V1 (i lk d mask:Nat):Nat->List KB->Bool
 | _,[]=>true
 | j,x :: r=>(j == i || Nat.testBit mask j || Nat.testBit x.1 i || X1 lk d x.2.1 x.2.2) && V1 i lk d mask (j+1) r
def RR (mask i a:Nat):Bool:=!Nat.testBit mask i && Nat.beq (a &&& mask) a
def W8 (Ae:List KB) (i mask:Nat):Bool:=match Ae[i]? with
 | none=>false
 | some x=>RR mask i x.1 && V1 i x.2.1 x.2.2 mask 0 Ae
def Qq (mask:Nat):Nat->List KB->List Nat
 | _,[]=>[]
 | j,x :: r=>cond (RR mask j x.1) (j :: Qq mask (j+1) r) (Qq mask (j+1) r)
def Ua (Ae:List KB) (i mask:Nat):Bool:=match Qq mask 0 Ae with | [k]=>Nat.beq k i | _=>false
def stepD (m:Nat):Nat->List KB->Nat->Nat
 | _,[],acc=>acc
 | j,x :: r,acc=>stepD m (j+1) r (cond (Nat.testBit m j) (acc ||| x.1) acc)
def WN (Ae:List KB):Nat->Nat->Nat
 | 0,m=>m
 | f+1,m=>WN Ae f (stepD m 0 Ae m)
def Xe (Ae:List KB) (E j:Nat):Bool:=match Ae[j]? with
 | none=>Nat.beq E 0
 | some x=>force (WN Ae (Ae.length - 1) x.1) λm=>Nat.beq (E &&& m) E
def tailD (Ae:List KB) (E:Nat):Nat->Nat->Nat->Bool
 | 0,_,mask=>(Qq mask 0 Ae).isEmpty
 | g+1,k,mask=>Ua Ae k mask && Xe Ae E k && force (mask ||| 2 ^ k) λm=>tailD Ae E g (k+1) m
def LW (Ae:List KB) (E n:Nat):List (Nat×Nat)->Nat->Bool
 | [],mask=>tailD Ae E (Ae.length - n) n mask
 | (i,0) :: rest,mask=>W8 Ae i mask && force (mask ||| 2 ^ i) λm=>LW Ae E n rest m
 | (i,1) :: rest,mask=>Ua Ae i mask && force (mask ||| 2 ^ i) λm=>LW Ae E n rest m
 | (i,2) :: rest,mask=>Ua Ae i mask && Xe Ae E i && !(rest.any (·.2 == 3)) && force (mask ||| 2 ^ i) λm=>LW Ae E n rest m
 | (i,k+3) :: rest,mask=>Nat.beq k 0 && Nat.testBit E i && W8 Ae i mask && force (mask ||| 2 ^ i) λm=>LW Ae E n rest m
def Ok (E:List Nat):Nat:=E.foldr (λt m=>m ||| 2 ^ t) 0
def Ug (os:List Oper) (plan:List (Nat×Nat)):Bool :=
 Region.noSelect os.toArray && decide (plan.length<=os.length) && force (Ok (NQ plan)) λE=>Vm os.toArray os λAe=>LW Ae E plan.length plan 0
theorem Wm (i:Nat):∀ (E:List Nat),Nat.testBit (Ok E) i=E.contains i
 | []=>by simp [Ok]
 | t :: E=>by
  have:=Wm i E;unfold Ok at this ⊢;rw [List.foldr_cons,Nat.testBit_or,this,Nat.testBit_two_pow,List.contains_cons];rw [Bool.or_comm];congr 1;rw [Bool.eq_iff_iff,decide_eq_true_eq,beq_iff_eq];exact eq_comm
theorem Aaa (os:Array Oper) (o:Oper) (d:Nat):Nat.testBit (R7 os o) d=(o.looksAt os).contains d:=Wm d _
theorem Vb (o:Oper) (i:Nat):Nat.testBit (JU o) i=true ↔ ∃ e ∈ o.after,Region.binds .any e=true/\e.on=i:=by
 have key:∀ l:List Edge,Nat.testBit (l.foldr (λe m=>if Region.binds .any e then m ||| 2 ^ e.on else m) 0) i=true ↔ ∃ e ∈ l,Region.binds .any e=true/\e.on=i:=by
  intro l;induction l with
  | nil=>simp
  | cons e l ih =>
   rw [List.foldr_cons];by_cases hb:Region.binds .any e=true;rw [if_pos hb,Nat.testBit_or,Nat.testBit_two_pow,Bool.or_eq_true,ih,decide_eq_true_eq];constructor;rintro (⟨x,hx,h⟩ | h);exact ⟨x,EM _ hx,h⟩;exact ⟨e,DT ..,hb,h⟩;rintro ⟨x,hx,h⟩;rcases List.mem_cons.1 hx with rfl | hx;exact .inr h.2;exact .inl ⟨x,hx,h⟩;rw [if_neg hb,ih];constructor;rintro ⟨x,hx,h⟩;exact ⟨x,EM _ hx,h⟩;rintro ⟨x,hx,h⟩;rcases List.mem_cons.1 hx with rfl | hx;exact absurd h.1 hb;exact ⟨x,hx,h⟩
 unfold JU;rw [key];constructor;rintro ⟨e,he,h⟩;exact ⟨e,Array.mem_toList_iff.1 he,h⟩;rintro ⟨e,he,h⟩;exact ⟨e,Array.mem_toList_iff.2 he,h⟩
structure Jr (n mask:Nat) (listed:Array Bool):Prop where
 size:listed.size=n
 bit:∀ k,Nat.testBit mask k=listed.getD k false
theorem Jr.none (n:Nat):Jr n 0 (Array.replicate n false):=⟨by simp,λk=>by
 rw [Nat.zero_testBit];rcases Nat.lt_or_ge k n with h | h <;> simp [Array.getD_eq_getD_getElem?,Array.getElem?_replicate,h] <;> omega⟩
theorem Jr.set {n mask i:Nat} {listed:Array Bool} (h:Jr n mask listed) (hi:i < n):Jr n (mask ||| 2 ^ i) (listed.setIfInBounds i true):=⟨by simp [h.size],λk=>by
 rw [Nat.testBit_or,Nat.testBit_two_pow,h.bit];simp only [Array.getD_eq_getD_getElem?,Array.getElem?_setIfInBounds];have:=h.size;by_cases hik:i=k;subst hik;simp [this,hi];simp [hik]⟩
theorem Jr.Agt {n mask k:Nat} {listed:Array Bool} (h:Jr n mask listed) (hk:k < n):listed.getD k true=Nat.testBit mask k:=by
 have:=h.size;rw [h.bit];simp only [Array.getD_eq_getD_getElem?];rw [Array.getElem?_eq_getElem (by omega)];rfl
section
variable {os:List Oper} {mask i:Nat} {listed:Array Bool}
theorem Atb (hr:Jr os.length mask listed) {o:Oper} (ho:os[i]? = some o):RR mask i (JU o)=true ↔ i ∈ Region.ready .any os.toArray listed:=by
 have hi:i < os.length:=(List.getElem?_eq_some_iff.1 ho).1;unfold RR;rw [mem_ready,Bool.and_eq_true,Bool.not_eq_true',hr.Agt hi];refine and_congr Iff.rfl ?_;rw [Nat.beq_eq];constructor;intro h;refine ⟨o,by simpa using ho,λe he hb=>?_⟩;have h1:Nat.testBit (JU o) e.on=true:=(Vb o e.on).2 ⟨e,he,hb,rfl⟩;rw [<- hr.bit];rw [<- h,Nat.testBit_and,Bool.and_eq_true] at h1;exact h1.2;rintro ⟨o',ho',h⟩;obtain rfl:o'=o:=Ao ((show os.toArray[i]? = some o by simpa using ho).symm.trans ho') |>.symm;refine Nat.eq_of_testBit_eq λk=>?_;rw [Nat.testBit_and];cases hk:Nat.testBit (JU o') k with
 | false=>rfl
 | true =>
  obtain ⟨e,he,hb,rfl⟩:=(Vb o' k).1 hk;rw [hr.bit,h e he hb];rfl
theorem As7 (hr:Jr os.length mask listed):Qq mask 0 (os.map (Lt os.toArray))=Region.ready .any os.toArray listed:=by
 have key:∀ (l:List Oper) (j:Nat),(∀ t,l[t]? = os[j+t]?)->Qq mask j (l.map (Lt os.toArray))=(List.range' j l.length).filter λi=>!listed.getD i true && ((os.toArray[i]?).map (·.after.all λe=>!Region.binds .any e || listed.getD e.on false)).getD false:=by
  intro l;induction l with
  | nil=>intro j _;rfl
  | cons o l ih =>
   intro j hl;have ho:os[j]? = some o:=by simpa using (hl 0).symm
   rw [List.map_cons,AX,List.range'_succ,List.filter_cons];unfold Qq;rw [ih (j+1) λt=>by have:=hl (t+1);simpa [Nat.add_assoc,Nat.add_comm 1 t] using this];have h1:=Atb hr ho;have h2:j ∈ Region.ready .any os.toArray listed ↔ (!listed.getD j true && ((os.toArray[j]?).map (·.after.all λe=>!Region.binds .any e || listed.getD e.on false)).getD false)=true:=by
    unfold Region.ready;rw [List.mem_filter,List.mem_range];exact and_iff_right (by simpa using (List.getElem?_eq_some_iff.1 ho).1)
   have h3:=h1.trans h2;show cond (RR mask j (JU o)) _ _=_;cases hx:RR mask j (JU o) with
   | true=>rw [if_pos (h3.1 hx)];rfl
   | false=>rw [if_neg (λh=>by rw [h3.2 h] at hx;cases hx)];rfl
 rw [key os 0 λt=>by rw [Nat.zero_add]];unfold Region.ready;rw [List.range_eq_range',List.size_toArray]
theorem Abb (hr:Jr os.length mask listed) (h:Ua (os.map (Lt os.toArray)) i mask=true):Region.ready .any os.toArray listed=[i]:=by
 unfold Ua at h;rw [As7 hr] at h;split at h;rename_i k hk;rw [hk,Nat.eq_of_beq_eq_true h];cases h
theorem Az8 (A:Array Oper) (x y:Oper):X1 (R7 A x) (QK x) (R7 A y) (QK y)=x.apart A y:=by
 unfold X1 Oper.apart QK;cases x.dst with
 | none=>cases y.dst with
  | none=>rfl
  | some d'=>simp [Aaa]
 | some d=>cases y.dst with
  | none=>simp [Aaa]
  | some d' =>
   simp only [Aaa,Nat.add_sub_cancel];have e1:(d+1 == 0)=false:=rfl;have e2:(d'+1 == 0)=false:=rfl;have e3:(d'+1 != d+1)=(some d' != some d):=by
    rw [Bool.eq_iff_iff,bne_iff_ne,bne_iff_ne];simp
   rw [e1,e2,e3];rfl
theorem Ase (hr:Jr os.length mask listed) (h:W8 (os.map (Lt os.toArray)) i mask=true):i < os.length/\i ∈ Region.ready .any os.toArray listed/\Region.free .any os.toArray listed i=true:=by
 unfold W8 at h;rw [List.getElem?_map] at h;cases ho:os[i]? with
 | none=>rw [ho] at h;cases h
 | some o =>
  rw [ho] at h;simp only [Option.map_some,Bool.and_eq_true] at h;have hi:i < os.length:=(List.getElem?_eq_some_iff.1 ho).1;refine ⟨hi,(Atb hr ho).1 h.1,?_⟩;have key:∀ (l:List Oper) (j:Nat),V1 i (R7 os.toArray o) (QK o) mask j (l.map (Lt os.toArray))=true->∀ t oj,l[t]? = some oj->((j+t == i) || Nat.testBit mask (j+t) || Nat.testBit (JU oj) i || o.apart os.toArray oj)=true:=by
   intro l;induction l with
   | nil=>intro j _ t oj h;cases h
   | cons x l ih =>
    intro j h t oj hoj;simp only [List.map_cons,V1,Bool.and_eq_true] at h;cases t with
    | zero =>
     cases hoj;have:=h.1;rw [<- Az8];exact this
    | succ t =>
     have:=ih (j+1) h.2 t oj hoj;rw [show j+1+t=j+(t+1) by omega] at this;exact this
  have hk:=key os 0 h.2;unfold Region.free;rw [show os.toArray[i]? = some o by simpa using ho];simp only;rw [List.all_eq_true];intro j hj;rw [List.mem_range,List.size_toArray] at hj;have hoj:os[j]? = some os[j]:=List.getElem?_eq_getElem hj;have:=hk j os[j] hoj;rw [Nat.zero_add] at this;rw [show os.toArray[j]? = some os[j] by simp [hj],hr.Agt hj];simp only [Bool.or_eq_true] at this ⊢;rcases this with ((h1 | h1) | h1) | h1;exact .inl (.inl h1);exact .inl (.inr h1);obtain ⟨e,he,hb,hon⟩:=(Vb _ _).1 h1;refine .inr (.inl ?_);rw [Array.any_eq_true'];exact ⟨e,he,by rw [hb,hon];simp⟩;exact .inr (.inr h1)
theorem UF {A:Array Oper} {f j i:Nat}:Hj .any A (f+1) j i=true ↔ ∃ oj,A[j]? = some oj/\∃ e ∈ oj.after,Region.binds .any e=true/\(e.on=i\/Hj .any A f e.on i=true):=by
 rw [Hj];cases hoj:A[j]? with
 | none=>simp
 | some oj =>
  simp only [Option.some.injEq,exists_eq_left'];rw [Array.any_eq_true'];simp only [Bool.and_eq_true,Bool.or_eq_true,beq_iff_eq]
theorem Aw7 {A:Array Oper}:∀ {f j i:Nat},Hj .any A f j i=true->Hj .any A (f+1) j i=true
 | 0,_,_,h=>by simp [Hj] at h
 | f+1,j,i,h=>by
  obtain ⟨oj,hoj,e,he,hb,h⟩:=UF.1 h;exact UF.2 ⟨oj,hoj,e,he,hb,h.imp id Aw7⟩
theorem Aw8 {A:Array Oper} {f k k':Nat} {ok:Oper} (hk:A[k]? = some ok) (hk':Nat.testBit (JU ok) k'=true):Hj .any A (f+1) k k'=true:=by
 obtain ⟨e,he,hb,hon⟩:=(Vb _ _).1 hk';exact UF.2 ⟨ok,hk,e,he,hb,.inl hon⟩
theorem Axc {A:Array Oper} {k k':Nat} {ok:Oper} (hk:A[k]? = some ok) (hk':Nat.testBit (JU ok) k'=true):∀ {f j:Nat},Hj .any A f j k=true->Hj .any A (f+1) j k'=true
 | 0,_,h=>by simp [Hj] at h
 | f+1,j,h=>by
  obtain ⟨oj,hoj,e,he,hb,h⟩:=UF.1 h;refine UF.2 ⟨oj,hoj,e,he,hb,.inr ?_⟩;rcases h with rfl | h;exact Aw8 hk hk';exact Axc hk hk' h
theorem Ava (m:Nat):∀ (l:List Oper) (j acc k:Nat),(∀ t,l[t]? = os[j+t]?)->Nat.testBit (stepD m j (l.map (Lt os.toArray)) acc) k=true->Nat.testBit acc k=true\/∃ q oq,os[q]? = some oq/\Nat.testBit m q=true/\Nat.testBit (JU oq) k=true
 | [],_,_,_,_,h=>.inl h
 | o :: l,j,acc,k,hl,h=>by
  rw [List.map_cons] at h;unfold stepD at h;have ho:os[j]? = some o:=by simpa using (hl 0).symm
  rcases Ava m l (j+1) _ k (λt=>by have:=hl (t+1);simpa [Nat.add_assoc,Nat.add_comm 1 t] using this) h with h | h;cases hm:Nat.testBit m j with
  | false=>rw [hm] at h;exact .inl h
  | true =>
   rw [hm,cond_true,Nat.testBit_or,Bool.or_eq_true] at h;rcases h with h | h;exact .inl h;exact .inr ⟨j,o,ho,hm,h⟩
  exact .inr h
theorem As4 (j:Nat):∀ (f g m:Nat),(∀ k,Nat.testBit m k=true->Hj .any os.toArray g j k=true)->∀ k,Nat.testBit (WN (os.map (Lt os.toArray)) f m) k=true->Hj .any os.toArray (g+f) j k=true
 | 0,_,_,hm,k,h=>hm k h
 | f+1,g,m,hm,k,h=>by
  unfold WN at h;have:=As4 j f (g+1) _ (λk hk=>by
   rcases Ava m os 0 m k (λt=>by rw [Nat.zero_add]) hk with h | ⟨q,oq,hq,hmq,hk⟩;exact Aw7 (hm k h);exact Axc (by simpa using hq) hk (hm q hmq)) k h
  rw [show g+1+f=g+(f+1) by omega] at this;exact this
theorem Axg {E:List Nat} {j:Nat} (hj:j < os.length) (h:Xe (os.map (Lt os.toArray)) (Ok E) j=true):Ng .any os.toArray E j=false:=by
 unfold Xe at h;have hoj:os[j]? = some os[j]:=List.getElem?_eq_getElem hj;rw [List.getElem?_map,hoj] at h;simp only [Option.map_some,force_eq,List.length_map,Nat.beq_eq] at h;unfold Ng;rw [Bool.not_eq_false',List.all_eq_true];intro i hi;have h1:Nat.testBit (Ok E) i=true:=by rw [Wm];simpa using hi
 rw [<- h,Nat.testBit_and,Bool.and_eq_true] at h1;have:=As4 (os:=os) j (os.length - 1) 1 _ (λk hk=>Aw8 (show os.toArray[j]? = some os[j] by simp [hj]) hk) i h1.2;rw [show 1+(os.length - 1)=os.toArray.size by rw [List.size_toArray];omega] at this;exact this
theorem Av0 {E:List Nat}:∀ (g k mask:Nat) (listed:Array Bool),Jr os.length mask listed->tailD (os.map (Lt os.toArray)) (Ok E) g k mask=true->O5 .any os.toArray E g k listed=true
 | 0,_,_,_,hr,h=>by unfold tailD at h;unfold O5;rw [As7 hr] at h;exact h
 | g+1,k,mask,listed,hr,h=>by
  simp only [tailD,force_eq,Bool.and_eq_true] at h;obtain ⟨⟨h1,h2⟩,h3⟩:=h;have ho:=Abb hr h1;have hk:k < os.length:=by
   have hm:k ∈ Region.ready .any os.toArray listed:=by rw [ho];exact Fc.2 rfl
   obtain ⟨_,o,hoq,_⟩:=mem_ready.1 hm
   simpa using (Array.getElem?_eq_some_iff.1 hoq).1
  unfold O5;rw [ho,Axg hk h2,Av0 g (k+1) _ _ (hr.set hk) h3];simp
theorem Ux {E:List Nat} {n:Nat}:∀ (plan:List (Nat×Nat)) (mask:Nat) (listed:Array Bool),Jr os.length mask listed->LW (os.map (Lt os.toArray)) (Ok E) n plan mask=true->Hb os.toArray E n plan listed=true
 | [],mask,listed,hr,h=>by
  unfold LW at h;unfold Hb;rw [List.length_map] at h;rw [List.size_toArray];exact Av0 _ _ _ _ hr h
 | (i,0) :: rest,mask,listed,hr,h=>by
  simp only [LW,force_eq,Bool.and_eq_true] at h;obtain ⟨h1,h2,h3⟩:=Ase hr h.1;unfold Hb;rw [h3,Ux rest _ _ (hr.set h1) h.2];simp [h1,h2]
 | (i,1) :: rest,mask,listed,hr,h=>by
  simp only [LW,force_eq,Bool.and_eq_true] at h;have ho:=Abb hr h.1;have hk:i < os.length:=by
   have hm:i ∈ Region.ready .any os.toArray listed:=by rw [ho];exact Fc.2 rfl
   obtain ⟨_,o,hoq,_⟩:=mem_ready.1 hm
   simpa using (Array.getElem?_eq_some_iff.1 hoq).1
  unfold Hb;rw [ho,Ux rest _ _ (hr.set hk) h.2];simp [hk]
 | (i,2) :: rest,mask,listed,hr,h=>by
  simp only [LW,force_eq,Bool.and_eq_true] at h;obtain ⟨⟨⟨h1,h2⟩,h4⟩,h3⟩:=h;have ho:=Abb hr h1;have hk:i < os.length:=by
   have hm:i ∈ Region.ready .any os.toArray listed:=by rw [ho];exact Fc.2 rfl
   obtain ⟨_,o,hoq,_⟩:=mem_ready.1 hm
   simpa using (Array.getElem?_eq_some_iff.1 hoq).1
  unfold Hb;rw [ho,h4,Axg hk h2,Ux rest _ _ (hr.set hk) h3];simp [hk]
 | (i,k+3) :: rest,mask,listed,hr,h=>by
  simp only [LW,force_eq,Bool.and_eq_true] at h;obtain ⟨⟨⟨h1,h2⟩,h4⟩,h3⟩:=h;obtain ⟨g1,g2,g3⟩:=Ase hr h4;rw [Wm] at h2;unfold Hb;rw [h2,g3,Ux rest _ _ (hr.set g1) h3];simp [g1,g2,Nat.eq_of_beq_eq_true h1]
end
theorem Bsm {os:List Oper} {plan:List (Nat×Nat)} (h:Ug os plan=true):(Region.noSelect os.toArray && decide (plan.length<=os.length) && Hb os.toArray (NQ plan) plan.length plan (Array.replicate os.toArray.size false))=true:=by
 unfold Ug at h;rw [force_eq,Ahg] at h;simp only [Bool.and_eq_true] at h ⊢;refine ⟨h.1,?_⟩;rw [List.size_toArray];exact Ux plan 0 _ (Jr.none _) h.2
theorem A0o {α β:Type} {x:Option α} {f:α->Option β} {r:β} (h:x.bind f=some r):∃ a,x=some a/\f a=some r:=by
 cases x with
 | none=>cases h
 | some a=>exact ⟨a,rfl,h⟩
theorem Jv {α:Type} {b:Bool} {x:Option α} {r:α} (h:cond b x none=some r):b=true/\x=some r:=by
 cases b with
 | true=>exact ⟨rfl,h⟩
 | false=>cases h
def Dm (s:Ah) (i:Int):Option UInt8:=if 0<=i then s[i.toNat]? else none
def Jl (s:Ah) (lo hi:Int):Option Ah:=cond (decide (0<=lo/\lo<=hi/\hi<=s.size)) (some (s.extract lo.toNat hi.toNat)) none
section
variable {A:World} {ds:List Deferred} {n:Nat} {env env':Env} {l l' X:List N} {q:Act->World->Prop} {P:Program} {Q:Exit->Act->World->Prop} {ops:Array Oper} {os rest:List Oper} {o:Oper}
def Meet {τ:Type} (ds:List Deferred) (A:World) (n:Nat) (E:τ->Env) (L:τ->List N) (S:τ->Prop) (a:Act) (w:World):Prop:=∃ t,S t/\Holds ds n (E t) a/\St A (L t) w
theorem BG {τ:Type} {x y:Code} (E:τ->Env) (L:τ->List N) (S:τ->Prop) (hy:∀ t,S t->K ds A n (E t) (L t) (y.wp P Q)) (hx:K ds A n env l (x.wp P (Exit.then (Meet ds A n E L S) Q))):K ds A n env l ((Code.seq x y).wp P Q):=λa w ha hw =>
 wp_seq (wp_mono (hx a w ha hw) λe a w h=>by
  cases e with
  | normal=>obtain ⟨t,hS,ha,hw⟩:=h;exact hy t hS a w ha hw
  | exit id=>exact h
  | goto l=>exact h
  | ret=>exact h
  | panic ch=>exact h
  | outgrown=>exact h)
theorem AG {τ:Type} {E:τ->Env} {L:τ->List N} {S:τ->Prop} (t:τ) (hS:S t) (hs:Sub env (E t)) (hl:l=L t):K ds A n env l (Meet ds A n E L S) :=
 λ_ _ ha hw=>⟨t,hS,ha.sub hs,by subst hl;exact hw⟩
theorem CH {x y:Code} (Lz:Env) (l1:List N) (hy:K ds A n Lz l1 (y.wp P Q)) (hx:K ds A n env l (x.wp P (Exit.then (λa w=>Holds ds n Lz a/\St A l1 w) Q))):K ds A n env l ((Code.seq x y).wp P Q):=λa w ha hw =>
 wp_seq (wp_mono (hx a w ha hw) λe a w h=>by
  cases e with
  | normal=>exact hy a w h.1 h.2
  | exit id=>exact h
  | goto l=>exact h
  | ret=>exact h
  | panic ch=>exact h
  | outgrown=>exact h)
theorem AY {Lz:Env} (hs:Sub env Lz):K ds A n env l (λa w=>Holds ds n Lz a/\St A l w):=λ_ _ ha hw=>⟨ha.sub hs,hw⟩
theorem Bjy {s:Ah} {kd:IntKind} {i:Int} {c:UInt8} {t:TypeId} {x ix:Operand} (ho:o.op=.index t x ix) (hg:Ci ops env o=some true) (hd:inB n o.dst=true) (hx:BL env x=some (.string s)) (hi:BL env ix=some (.int kd i)) (ht:P.underlying t=some .string)
  (hc:Dm s i=some c) (h:K ds A n (Bl env o.dst (.int .u8 c.toNat)) l (wpList P ops Q rest)):K ds A n env l (wpList P ops Q (o :: rest)) :=
 F1 hg λa w ha hw=>by
  unfold Oper.wp execOp;simp only [ho,ha.eval hx,ha.eval hi];have:(Instr.index t (.string s) (.int kd i)).run P w=.ok (.int .u8 c.toNat) w:=by
   unfold Dm at hc;simp [Instr.index,asIntOf,run_underlying ht,hc]
  simp only [Sem.run_bind,this,Result.andThen_ok,Sem.run_pure];exact h _ _ (ha.Bl _ hd) hw
theorem Tu {s r:Ah} {t:TypeId} {x:Operand} {lo hi:Option Operand} (L H:Int) (ho:o.op=.slice t x lo hi none) (hg:Ci ops env o=some true) (hd:inB n o.dst=true) (hx:BL env x=some (.string s))
  (hlo:(lo=none/\L=0)\/∃ y k,lo=some y/\BL env y=some (.int k L)) (hhi:(hi=none/\H=s.size)\/∃ y k,hi=some y/\BL env y=some (.int k H)) (ht:P.underlying t=some .string) (hc:Jl s L H=some r)
  (h:K ds A n (Bl env o.dst (.string r)) l (wpList P ops Q rest)):K ds A n env l (wpList P ops Q (o :: rest)):=by
 unfold Jl at hc;obtain ⟨hb,hr⟩:=Jv hc;obtain ⟨h1,h2,h3⟩:=of_decide_eq_true hb;cases hr;refine F1 hg λa w ha hw=>?_;have hsl:∀ (lv hv:Option Value),(lv=none/\L=0\/∃ k,lv=some (.int k L))->(hv=none/\H=s.size\/∃ k,hv=some (.int k H))->(Instr.sliceAt t (.string s) lv hv none).run P w=.ok (.string (s.extract L.toNat H.toNat)) w:=by
  have h4:L<=s.size:=by omega
  have h5:0<=H:=by omega
  have h6:L<=max H 0:=by omega
  rintro lv hv (⟨rfl,rfl⟩ | ⟨k,rfl⟩) (⟨rfl,rfl⟩ | ⟨k',rfl⟩);simp [Instr.sliceAt,Instr.slice,Instr.sliceBounds,run_underlying ht];simp [Instr.sliceAt,Instr.slice,Instr.sliceBounds,Instr.sliceBound,asIntOf,run_underlying ht,h3,h5];simp [Instr.sliceAt,Instr.slice,Instr.sliceBounds,Instr.sliceBound,asIntOf,run_underlying ht,h1,h4];simp [Instr.sliceAt,Instr.slice,Instr.sliceBounds,Instr.sliceBound,asIntOf,run_underlying ht,h1,h3,h5,h6,h2]
 have hrun:=hsl (lo.map a.eval) (hi.map a.eval) (hlo.imp (λ⟨e,e'⟩=>⟨by rw [e];rfl,e'⟩) (λ⟨y,k,e,e'⟩=>⟨k,by rw [e];exact congrArg some (ha.eval e')⟩)) (hhi.imp (λ⟨e,e'⟩=>⟨by rw [e];rfl,e'⟩) (λ⟨y,k,e,e'⟩=>⟨k,by rw [e];exact congrArg some (ha.eval e')⟩));unfold Oper.wp execOp;simp only [ho,ha.eval hx,Option.map_none,Sem.run_bind,hrun,Result.andThen_ok,Sem.run_pure];exact h _ _ (ha.Bl _ hd) hw
theorem PG {id:Nat} {os:List Oper} (plan:List (Nat×Nat)) (S:World->Prop) (hm:P.follows .mixedOrders=true)
  (hB:Ug os plan=true)
  (hQ:∀ c a d v w,Q (.panic c) (Act.put a d v) w->Q (.panic c) a w) (hS:∀ w,St A l w->S w)
  (h:K ds A n env l (BU P os.toArray Q S (wpList P os.toArray Q (os.drop plan.length)) (DP os.toArray plan))):K ds A n env l ((Code.region id os.toArray true).wp P Q):=λa w ha hw =>
 K9 plan S hm (Bsm hB) hQ (hS _ hw.drew) (h a _ ha hw.drew)
variable {S:World->Prop} {tail:Act->World->Prop} {pl:List (Oper×Nat)}
theorem ZM (h:K ds A n env l tail):K ds A n env l (BU P ops Q S tail []):=h
theorem Bkj {v:Value} (hg:Ci ops env o=some true) (hs:(DC o.op && allB o.op.operands.toList env && inB n o.dst)=true) (hv:FZ P (execOp (rho env) o)=some (.value v)) (h:K ds A n (Bl env o.dst v) l (BU P ops Q S tail pl)) :
  K ds A n env l (BU P ops Q S tail ((o,0) :: pl)):=λa w ha hw=>by
 simp only [Bool.and_eq_true] at hs;exact DY (Hk ha hg) (λw'=>by rw [execOp_congr a.eval (rho env) o hs.1.1 (ha.rho hs.1.2)];exact RO hv) (h _ _ (ha.Bl v hs.2) hw)
theorem Bkk (hg:Ci ops env o=some false) (hd:inB n o.dst=true) (h:K ds A n (Bl env o.dst undef) l (BU P ops Q S tail pl)):K ds A n env l (BU P ops Q S tail ((o,0) :: pl)):=λa w ha hw =>
 Bsv (Hk ha hg) (h _ _ (ha.Bl _ hd) hw)
theorem Ek (hg:Ci ops env o=some false) (hd:inB n o.dst=true) (h:K ds A n (Bl env o.dst undef) l (BU P ops Q S tail pl)):K ds A n env l (BU P ops Q S tail ((o,3) :: pl)):=λa w ha hw =>
 Bsw (Hk ha hg) (h _ _ (ha.Bl _ hd) hw)
theorem Tw:∀ (os:List Oper) (env:Env),Hf P ops n os env=some env'->K ds A n env' l (BU P ops Q S tail pl)->K ds A n env l (BU P ops Q S tail (os.map (·,0)++pl))
 | [],env,h,hk=>by simp only [Hf,Option.some.injEq] at h;subst h;exact hk
 | o :: os,env,h,hk=>by
  simp only [Hf] at h;split at h;cases h;rename_i hg;split at h;rename_i hd;exact Bkk hg hd (Tw os _ h hk);cases h;rename_i hg;split at h;cases h;rename_i hs;split at h;rename_i v hv;exact Bkj hg hs hv (Tw os _ h hk);cases h
theorem ZN:∀ (pl:List (Oper×Nat)),(pl.all λx=>Nat.beq x.2 0)=true->pl=(pl.map (·.1)).map (·,0)
 | [],_=>rfl
 | (o,k) :: pl,h=>by
  simp only [List.all_cons,Bool.and_eq_true] at h;have hk:k=0:=Nat.eq_of_beq_eq_true h.1;subst hk;simp only [List.map_cons];rw [<- ZN pl h.2]
theorem Apa (m:Nat) (sub:Env) (hz:((pl.take m).all λx=>Nat.beq x.2 0)=true) (h:(Hf P ops n ((pl.take m).map (·.1)) env).bind (picks (sub.map (·.1)))=some (sub.map (·.2))) (hk:K ds A n sub l (BU P ops Q S tail (pl.drop m))) :
  K ds A n env l (BU P ops Q S tail pl):=by
 rw [<- List.take_append_drop m pl,ZN _ hz];cases hs:Hf P ops n ((pl.take m).map (·.1)) env with
 | none=>rw [hs] at h;cases h
 | some Lz =>
  rw [hs] at h;exact Tw _ env hs (K.weak hk (WA h))
theorem Ao6 {s:Ah} {kd:IntKind} {i:Int} {c:UInt8} {t:TypeId} {x ix:Operand} (ho:o.op=.index t x ix) (hg:Ci ops env o=some true) (hd:inB n o.dst=true) (hx:BL env x=some (.string s)) (hi:BL env ix=some (.int kd i)) (ht:P.underlying t=some .string)
  (hc:Dm s i=some c) (h:K ds A n (Bl env o.dst (.int .u8 c.toNat)) l (BU P ops Q S tail pl)):K ds A n env l (BU P ops Q S tail ((o,0) :: pl)):=λa w ha hw=>by
 refine DY (Hk ha hg) (λw'=>?_) (h _ _ (ha.Bl _ hd) hw);unfold execOp;simp only [ho,ha.eval hx,ha.eval hi];have:(Instr.index t (.string s) (.int kd i)).run P w'=.ok (.int .u8 c.toNat) w':=by
  unfold Dm at hc;simp [Instr.index,asIntOf,run_underlying ht,hc]
 simp only [Sem.run_bind,this,Result.andThen_ok,Sem.run_pure]
theorem Ao9 {s r:Ah} {t:TypeId} {x:Operand} {lo hi:Option Operand} (L H:Int) (ho:o.op=.slice t x lo hi none) (hg:Ci ops env o=some true) (hd:inB n o.dst=true) (hx:BL env x=some (.string s))
  (hlo:(lo=none/\L=0)\/∃ y k,lo=some y/\BL env y=some (.int k L)) (hhi:(hi=none/\H=s.size)\/∃ y k,hi=some y/\BL env y=some (.int k H)) (ht:P.underlying t=some .string) (hc:Jl s L H=some r)
  (h:K ds A n (Bl env o.dst (.string r)) l (BU P ops Q S tail pl)):K ds A n env l (BU P ops Q S tail ((o,0) :: pl)):=by
 unfold Jl at hc;obtain ⟨hb,hr⟩:=Jv hc;obtain ⟨h1,h2,h3⟩:=of_decide_eq_true hb;cases hr;intro a w ha hw;have hsl:∀ (w:World) (lv hv:Option Value),(lv=none/\L=0\/∃ k,lv=some (.int k L))->(hv=none/\H=s.size\/∃ k,hv=some (.int k H))->(Instr.sliceAt t (.string s) lv hv none).run P w=.ok (.string (s.extract L.toNat H.toNat)) w:=by
  intro w;have h4:L<=s.size:=by omega
  have h5:0<=H:=by omega
  have h6:L<=max H 0:=by omega
  rintro lv hv (⟨rfl,rfl⟩ | ⟨k,rfl⟩) (⟨rfl,rfl⟩ | ⟨k',rfl⟩);simp [Instr.sliceAt,Instr.slice,Instr.sliceBounds,run_underlying ht];simp [Instr.sliceAt,Instr.slice,Instr.sliceBounds,Instr.sliceBound,asIntOf,run_underlying ht,h3,h5];simp [Instr.sliceAt,Instr.slice,Instr.sliceBounds,Instr.sliceBound,asIntOf,run_underlying ht,h1,h4];simp [Instr.sliceAt,Instr.slice,Instr.sliceBounds,Instr.sliceBound,asIntOf,run_underlying ht,h1,h3,h5,h6,h2]
 refine DY (Hk ha hg) (λw'=>?_) (h _ _ (ha.Bl _ hd) hw);have hrun:=hsl w' (lo.map a.eval) (hi.map a.eval) (hlo.imp (λ⟨e,e'⟩=>⟨by rw [e];rfl,e'⟩) (λ⟨y,k,e,e'⟩=>⟨k,by rw [e];exact congrArg some (ha.eval e')⟩)) (hhi.imp (λ⟨e,e'⟩=>⟨by rw [e];rfl,e'⟩) (λ⟨y,k,e,e'⟩=>⟨k,by rw [e];exact congrArg some (ha.eval e')⟩));unfold execOp;simp only [ho,ha.eval hx,Option.map_none,Sem.run_bind,hrun,Result.andThen_ok,Sem.run_pure]
theorem Ao8 {v:Value} (vs:List Orc) (es:List Ev) (hg:Ci ops env o=some true) (hs:(DC o.op && allB o.op.operands.toList env && inB n o.dst)=true) (hf:follow P (execOp (rho env) o) vs=some (.value v,es)) (hS:∀ w,S w->NF es w w)
  (h:K ds A n (Bl env o.dst v) l (BU P ops Q S tail pl)):K ds A n env l (BU P ops Q S tail ((o,3) :: pl)):=λa w ha hw=>by
 simp only [Bool.and_eq_true] at hs;exact Gj (Hk ha hg) (λw' hw'=>by rw [execOp_congr a.eval (rho env) o hs.1.1 (ha.rho hs.1.2)];exact Jy hf (hS w' hw')) (h _ _ (ha.Bl v hs.2) hw)
theorem ZP (hg:Ci ops env o=some true) (h:K ds A n env l (λa w=>o.wp P a w (λa w=>S w/\BU P ops Q S tail pl a w) Q)):K ds A n env l (BU P ops Q S tail ((o,1) :: pl)):=λa w ha hw =>
 Qg (Hk ha hg) λ_ hK=>Oper.wp_mono hK (h a w ha hw)
theorem LF (hS:∀ w,St A l w->S w) (h:K ds A n env l q):K ds A n env l (λa w=>S w/\q a w):=λa w ha hw=>⟨hS w hw,h a w ha hw⟩
theorem At {next:Act->World->Prop} (h:K ds A n env l next):K ds A n env l (Exit.then next Q .normal):=h
theorem BJ {next:Act->World->Prop} {id:Nat} (h:K ds A n env l (Q (.exit id))):K ds A n env l (Exit.then next Q (.exit id)):=h
theorem Bm {next:Act->World->Prop} (h:K ds A n env l (Q .ret)):K ds A n env l (Exit.then next Q .ret):=h
theorem Bh {next:Act->World->Prop} {c:List PanicEntry} (h:K ds A n env l (Q (.panic c))):K ds A n env l (Exit.then next Q (.panic c)):=h
theorem Bf {id:Nat} (h:K ds A n env l (Q .normal)):K ds A n env l (Exit.inBlock id Q .normal):=h
theorem Ca {id:Nat} (h:K ds A n env l (Q .ret)):K ds A n env l (Exit.inBlock id Q .ret):=h
theorem BP {id:Nat} {c:List PanicEntry} (h:K ds A n env l (Q (.panic c))):K ds A n env l (Exit.inBlock id Q (.panic c)):=h
theorem Arz {f:FuncId} {args:Array Value} {hs:List N} {v:Value} {next:Act->World->Prop} (hg1:(DC o.op && allB o.op.operands.toList env && inB n o.dst)=true) (hp:FZ P (execOp (rho env) o)=some (.enter f args))
  (hc:Ct P f args [] hs λe l1=>e=.returned v/\l1=[]) (hh:IX hs l) (hk:K ds A n (Bl env o.dst v) l next):K ds A n env l (λa w=>o.wp P a w next Q) :=
 Ub (X:=l) hg1 hp hc rfl hh (by rintro e l1 ⟨rfl,rfl⟩;exact hk)
theorem Bjn {f:FuncId} {args:Array Value} {hs:List N} {v:Value} (hg:Ci ops env o=some true) (hg1:(DC o.op && allB o.op.operands.toList env && inB n o.dst)=true) (hp:FZ P (execOp (rho env) o)=some (.enter f args))
  (hc:Ct P f args [] hs λe l1=>e=.returned v/\l1=[]) (hh:IX hs l) (hk:K ds A n (Bl env o.dst v) l (wpList P ops Q rest)):K ds A n env l (wpList P ops Q (o :: rest)):=F1 hg (Arz hg1 hp hc hh hk)
end
def AN {γ β:Type} (f:γ) (g:γ->Option β):Option β:=g f
theorem BF {γ β:Type} {f:γ} {g:γ->Option β} {r:β} (h:AN f g=some r):∃ J,J=f/\g J=some r:=⟨f,rfl,h⟩
def Ly (s:Ah):List Int:=s.data.toList.map λb=>(b.toNat:Int)
def Own (T:TypeId) (sz:Nat) (h:N) (v:Value) (n:Nat) (cs:List Value):Prop :=
 cs.length=n * sz/\(∀ u ∈ cs,u.oneCell'=true)/\((v=.slice none 0 0/\n=0) \/
  ∃ g cap cur,v=.slice (some ⟨g,0,none⟩) n cap/\h=blk g (.cells cur T (0,0))/\n<=cap/\cap<=maxLen/\cur.size=cap * sz/\cur.toList.take (n * sz)=cs)
def Rd (sz:Nat) (h:N) (v:Value) (n:Nat) (cs:List Value):Prop :=
 cs.length=n * sz/\(∀ u ∈ cs,u.oneCell'=true)/\((v=.slice none 0 0/\n=0) \/
  ∃ b off cap cur T z,v=.slice (some ⟨b,off,none⟩) n cap/\h b=some (.cells cur T z)/\n<=cap/\cap<=maxLen/\∀ j u,cs[j]? = some u->cur[off+j]? = some u)
theorem Own.rd {T:TypeId} {sz:Nat} {h:N} {v:Value} {n:Nat} {cs:List Value} (ho:Own T sz h v n cs):Rd sz h v n cs:=by
 obtain ⟨h1,h2,h3⟩:=ho;refine ⟨h1,h2,?_⟩;rcases h3 with h3 | ⟨g,cap,cur,rfl,rfl,h4,h5,h6,h7⟩;exact .inl h3;refine .inr ⟨g,0,cap,cur,T,(0,0),rfl,by simp [blk],h4,h5,λj u hj=>?_⟩;rw [<- h7,List.getElem?_take] at hj;split at hj
 simpa using hj
 cases hj
theorem Own.nil (T:TypeId) (sz:Nat) (h:N):Own T sz h (.slice none 0 0) 0 []:=⟨by simp,by simp,.inl ⟨rfl,rfl⟩⟩
theorem Own.blk (T:TypeId) (sz b n:Nat) (cs:List Value) (hl:cs.length=n * sz) (h1:(cs.all (·.oneCell'))=true) (hm:n<=maxLen):Own T sz (blk b (.cells cs.toArray T (0,0))) (.slice (some ⟨b,0,none⟩) n n) n cs :=
 ⟨hl,λu hu=>List.all_eq_true.1 h1 u hu,.inr ⟨b,n,cs.toArray,rfl,rfl,Nat.le_refl _,hm,by simpa using hl,by simp [<- hl]⟩⟩
theorem Own.max {T:TypeId} {sz:Nat} {h:N} {v:Value} {n:Nat} {cs:List Value} (ho:Own T sz h v n cs):n<=maxLen:=by
 rcases ho.2.2 with ⟨_,rfl⟩ | ⟨g,cap,cur,_,_,h4,h5,_⟩;exact Nat.zero_le _;exact Nat.le_trans h4 h5
structure FG (P:Program) (TS T:TypeId) (sz by_:Nat) (i:TypeInfo) (z:Value):Prop where
 slice:P.underlying TS=some (.slice T)
 info:P.info? T=some i
 zero:i.zero=some z
 size:i.size=sz
 bytes:i.bytes=by_
 cells:z.cells.size=sz
 pos:0 < by_
structure Src (P:Program) (sz:Nat) (w:World) (y:Value) (m:Nat) (news:List Value):Prop where
 len:∀ w',(Builtin.lenOf y).run P w'=.ok m w'
 now:(Builtin.firstCells sz m y).run P w=.ok news.toArray w
 drew:(Builtin.firstCells sz m y).run P w.drew=.ok news.toArray w.drew
def KZ (P:Program) (U:TypeId):Bool :=
 match P.underlying U with
 | some (.slice _)=>true
 | some .string=>true
 | _=>false
theorem Aah {P:Program} {U:TypeId} (h:KZ P U=true):(∃ e,P.underlying U=some (.slice e))\/P.underlying U=some .string:=by
 unfold KZ at h;split at h;rename_i e hd;exact .inl ⟨e,hd⟩;rename_i hd;exact .inr hd;cases h
section
variable {P:Program} {w:World} {TS U T:TypeId} {sz bytes:Nat} {i:TypeInfo} {z y:Value} {m:Nat} {news:List Value} {ty:TypeId}
theorem At7 (he:FG P TS T sz bytes i z) (hu:KZ P U=true) (hs:Src P sz w y 0 []):(Builtin.append_ #[TS,U] ty #[.slice none 0 0,y]).run P w=.ok (.slice none 0 0) w:=by
 have h1:=hs.now;have h2:=he.size;rcases Aah hu with ⟨e',hd⟩ | hd <;> simp [Builtin.append_,run_underlying he.slice,run_underlying hd,sizeOf,typeInfo,he.info,h2,hs.len,h1]
theorem WQ (he:FG P TS T sz bytes i z) (hu:KZ P U=true) (hs:Src P sz w y m news) (a:Option Addr) (sLen sCap:Nat) (olds:List Value) (hg:sCap < sLen+m)
  (hold:(Builtin.firstCells sz sLen (.slice a sLen sCap)).run P w.drew=.ok olds.toArray w.drew)
  (h63:((sLen+m:Nat):Int)<=9223372036854775807) (hfit:Builtin.nextslicecap (sLen+m) sCap * bytes<=281474976710656) :
  (Builtin.append_ #[TS,U] ty #[.slice a sLen sCap,y]).run P w =
   .ok (.slice (some ⟨w.heap.size,0,none⟩) (sLen+m) (grownCap w (sLen+m) sCap T)) (w.drew.alloc (.cells (olds.toArray++news.toArray++Builtin.zeroCells z.cells (grownCap w (sLen+m) sCap T - (sLen+m))) T)):=by
 have hn:¬ (sLen+m<=sCap):=by omega
 have h63':¬ (9223372036854775807 < ((sLen:Int)+(m:Int))):=by omega
 have h48':¬ (281474976710656 < Builtin.nextslicecap (sLen+m) sCap * bytes):=by omega
 have hb:=he.bytes;have hsz:=he.size;have hp:=he.pos;have hp':¬ bytes=0:=by omega
 rcases Aah hu with ⟨e',hd⟩ | hd <;>
 ·simp [Builtin.append_,run_underlying he.slice,run_underlying hd,sizeOf,typeInfo,zeroValue,he.info,he.zero,hsz,hb,hs.len,hn,h63',h48',hp',Question.forced,hs.drew,hold,newRow,grownCap]
  congr 2;apply Array.ext';simp [C8]
theorem At9 (he:FG P TS T sz bytes i z) (hu:KZ P U=true) (hs:Src P sz w y m news) (hl:news.length=m * sz) (h1:∀ u ∈ news,u.oneCell'=true) (g sLen sCap:Nat) (cur:Array Value) (hg:w.heap[g]? = some (.cells cur T (0,0)))
  (hroom:sLen+m<=sCap) (hfit:sLen * sz+news.length<=cur.size) :
  (Builtin.append_ #[TS,U] ty #[.slice (some ⟨g,0,none⟩) sLen sCap,y]).run P w =
   .ok (.slice (some ⟨g,0,none⟩) (sLen+m) sCap) (w.setRow g (cur.toList.take (sLen * sz)++news++cur.toList.drop (sLen * sz+news.length)).toArray):=by
 have hst:=run_storeCells_at P g (sLen * sz) T news 0 cur w hg (by simpa using hfit) h1;simp only [Nat.add_zero] at hst;have hsz:=he.size;rcases Aah hu with ⟨e',hd⟩ | hd <;> simp [Builtin.append_,run_underlying he.slice,run_underlying hd,sizeOf,typeInfo,he.info,hsz,hs.len,hroom,hs.now,Addr.add_lit,hst]
end
section
variable {A:World} {ds:List Deferred} {n0:Nat} {env env':Env} {l l' X:List N} {q:Act->World->Prop} {P:Program} {Q:Exit->Act->World->Prop} {ops:Array Oper} {os rest:List Oper} {o:Oper}
theorem St.setRow {w:World} {g:Nat} {cur:Array Value} {T:TypeId} (h:St A (blk g (.cells cur T (0,0)) :: l) w) (cs:Array Value):St A (blk g (.cells cs T (0,0)) :: l) (w.setRow g cs):=by
 have hg:w.heap[g]? = some (.cells cur T (0,0)):=h.sat.1 g _ (by simp [blk]);refine ⟨⟨λk o hk=>?_,λf hf k=>?_,h.sat.2.2.keep λf hf k o hk=>?_⟩,h.os,h.tape,h.output,?_⟩;unfold blk at hk;split at hk;rename_i e;subst e;cases hk;exact setRow_heap w k cur cs T _ hg;cases hk;rcases h.sat.2.1 f hf k with h' | h';unfold blk at h' ⊢;split at h';cases h';rename_i e';rw [if_neg e'];exact .inl rfl;exact .inr h';refine setRow_other w g k cs λe'=>?_;subst e';rcases h.sat.2.1 f hf k with h' | h';simp [blk] at h';rw [h'] at hk;cases hk;have:=h.size;simp [World.setRow];omega
theorem XI {w:World} {f:N} {l:List N} (h:Sat l w) (hf:f ∈ l) {b:Nat} {cur:Array Value} {T:TypeId} {z:Nat×Nat} (hb:f b=some (.cells cur T z)) (i:Nat):w.cell? ⟨b,i,none⟩=cur[i]?:=by
 have:=h.on f hf b _ hb;simp [World.cell?,this]
theorem addr_add (b off j:Nat):(⟨b,off,none⟩:Addr).add j=⟨b,off+j,none⟩:=by unfold Addr.add;split <;> simp_all
theorem Rd.src {sz:Nat} {h:N} {v:Value} {m:Nat} {news:List Value} (hr:Rd sz h v m news) {w:World} (hw:Sat l w) (hm:h ∈ l):Src P sz w v m news:=by
 obtain ⟨h1,h2,h3⟩:=hr;rcases h3 with ⟨rfl,rfl⟩ | ⟨b,off,cap,cur,T,z,rfl,hb,_,_,hc⟩;have:news=[]:=List.eq_nil_of_length_eq_zero (by simpa using h1);subst this;exact ⟨λ_=>rfl,rfl,rfl⟩;have hcell:∀ j u,news[j]? = some u->w.cell? ((⟨b,off,none⟩:Addr).add j)=some u:=λj u hj=>by rw [addr_add,XI hw hm hb];exact hc j u hj
 exact ⟨λ_=>rfl,run_firstCells_some w sz m _ _ _ _ h1 hcell,run_firstCells_some w.drew sz m _ _ _ _ h1 (by simpa using hcell)⟩
theorem Aox {T TS U:TypeId} {sz bytes:Nat} {i:TypeInfo} {z:Value} {h:N} {v y:Value} {n m:Nat} {cs news:List Value} {s x:Operand} (ho:o.op=.call { callee:=.builtin .append,args:=#[s,x],argTypes:=#[TS,U] })
  (he:FG P TS T sz bytes i z) (hg:Ci ops env o=some true) (hd:inB n0 o.dst=true) (hs:BL env s=some v) (hx:BL env x=some y) (hu:KZ P U=true) (hO:Own T sz h v n cs) (hsrc:∀ w,Sat (h :: l) w->Src P sz w y m news)
  (hl:news.length=m * sz) (h1:∀ u ∈ news,u.oneCell'=true) (hb:(n+m) * bytes<=140737488355328)
  (hk:∀ h' v',Own T sz h' v' (n+m) (cs++news)->K ds A n0 (Bl env o.dst v') (h' :: l) (wpList P ops Q rest)):K ds A n0 env (h :: l) (wpList P ops Q (o :: rest)):=by
 refine F1 hg λa w ha hw=>?_;have hsr:=hsrc w hw.sat;have hlen:(cs++news).length=(n+m) * sz:=by rw [BT,hO.1,hl,Nat.add_mul]
 have Jb:∀ u ∈ cs++news,u.oneCell'=true:=λu hu=>(EL.1 hu).elim (hO.2.1 u) (h1 u);have hpos:=he.pos;have hnm:n+m<=140737488355328:=Nat.le_trans (Nat.le_mul_of_pos_right _ hpos) hb;have hmax:n+m<=maxLen:=by unfold maxLen;omega
 have hex:∃ v' w',(Builtin.append_ #[TS,U] o.type #[v,y]).run P w=.ok v' w'/\∃ h',Own T sz h' v' (n+m) (cs++news)/\St A (h' :: l) w':=by
  have grown:∀ (old:Nat),old < n+m ->
    Own T sz (blk w.heap.size (.cells (cs.toArray++news.toArray++Builtin.zeroCells z.cells (grownCap w (n+m) old T - (n+m))) T (0,0))) (.slice (some ⟨w.heap.size,0,none⟩) (n+m) (grownCap w (n+m) old T)) (n+m) (cs++news) /\
    St A (blk w.heap.size (.cells (cs.toArray++news.toArray++Builtin.zeroCells z.cells (grownCap w (n+m) old T - (n+m))) T (0,0)) :: l) (w.drew.alloc (.cells (cs.toArray++news.toArray++Builtin.zeroCells z.cells (grownCap w (n+m) old T - (n+m))) T)):=by
   intro old hold;have hge:=grownCap_ge w (n+m) old T;have hcm:grownCap w (n+m) old T<=maxLen:=grownCap_le_maxLen w (n+m) old T hmax;refine ⟨⟨hlen,Jb,.inr ⟨w.heap.size,_,_,rfl,rfl,hge,hcm,?_,?_⟩⟩,hw.tail.drew.new _⟩;simp only [Array.size_append,List.size_toArray,size_zeroCells,he.cells,hO.1,hl,<- Nat.add_mul];congr 1;omega;simp only [Array.toList_append,C8];rw [<- C8,<- hlen];exact List.take_left
  rcases hO.2.2 with ⟨rfl,rfl⟩ | ⟨g,cap,cur,rfl,rfl,h4,h5,h6,h7⟩;have hcs:cs=[]:=List.eq_nil_of_length_eq_zero (by simpa using hO.1);subst hcs;by_cases hm:m=0;subst hm;have hn:news=[]:=List.eq_nil_of_length_eq_zero (by simpa using hl);subst hn;exact ⟨_,w,At7 he hu hsr,h,Own.nil T sz h,hw⟩;have hr:=WQ (ty:=o.type) he hu hsr none 0 0 [] (by omega) rfl (by omega) (growslice_fits (by omega) hb);have hgr:=grown 0 (by omega);simp only [Nat.zero_add,List.nil_append] at hr hgr ⊢;exact ⟨_,_,hr,_,hgr.1,hgr.2⟩;by_cases hroom:n+m<=cap;have hfit:n * sz+news.length<=cur.size:=by rw [hl,h6,<- Nat.add_mul];exact Nat.mul_le_mul_right _ hroom
  have hgc:w.heap[g]? = some (.cells cur T (0,0)):=hw.sat.1 g _ (by simp [blk]);refine ⟨_,_,At9 he hu hsr hl h1 g n cap cur hgc hroom hfit,_,⟨hlen,Jb,.inr ⟨g,cap,_,rfl,rfl,hroom,h5,?_,?_⟩⟩,hw.setRow _⟩;simp only [List.size_toArray,BT,List.length_take,BV,Array.length_toList];omega;rw [h7,<- hlen];exact List.take_left;have hold:(Builtin.firstCells sz n (.slice (some ⟨g,0,none⟩) n cap)).run P w.drew=.ok cs.toArray w.drew :=
   ((Own.rd ⟨hO.1,hO.2.1,.inr ⟨g,cap,cur,rfl,rfl,h4,h5,h6,h7⟩⟩:Rd sz _ _ n cs).src (l:=blk g (.cells cur T (0,0)) :: l) hw.sat (DT ..)).drew
  have hr:=WQ (ty:=o.type) he hu hsr (some ⟨g,0,none⟩) n cap cs (by omega) hold (by omega) (growslice_fits (by omega) hb);have hgr:=grown cap (by omega);exact ⟨_,_,hr,_,hgr.1,hgr.2⟩
 obtain ⟨v',w',hr,h',hO',hw'⟩:=hex;unfold Oper.wp execOp;simp only [ho,resolve,invoke,builtin,Sem.run_bind,Sem.run_pure,Result.andThen_ok,List.map_toArray,List.map_cons,List.map_nil,ha.eval hs,ha.eval hx,hr];exact hk h' v' hO' _ _ (ha.Bl v' hd) hw'
end
def apd {α:Type} (b:Nat) (l ys:List α):Option (List α):=cond (decide ((l.length+ys.length) * b<=140737488355328)) (some (l++ys)) none
theorem X3 {α:Type} {b:Nat} {l ys l':List α} (h:apd b l ys=some l'):(l.length+ys.length) * b<=140737488355328/\l'=l++ys:=by
 obtain ⟨h1,h2⟩:=Jv h;exact ⟨of_decide_eq_true h1,(Ao h2).symm⟩
def B5 {α:Type} (l:List α) (i:Int):Option α:=if 0<=i then l[i.toNat]? else none
theorem Mt {α:Type} {l:List α} {i:Int} {x:α} (h:B5 l i=some x):0<=i/\i < l.length/\l[i.toNat]? = some x:=by
 unfold B5 at h;split at h;rename_i h0;have:=(List.getElem?_eq_some_iff.1 h).1;exact ⟨h0,by omega,h⟩;cases h
structure EA {α:Type} (E:α->List Value) (sz:Nat):Prop where
 len:∀ x,(E x).length=sz
 one:∀ x,((E x).all (·.oneCell'))=true
section
variable {α:Type} {E:α->List Value} {sz:Nat}
theorem EA.lens (h:EA E sz) (l:List α):(l.flatMap E).length=l.length * sz:=by
 induction l with
 | nil=>simp
 | cons x l ih=>rw [List.flatMap_cons,BT,ih,h.len,AX,Nat.add_mul,Nat.one_mul,Nat.add_comm]
theorem EA.ones (h:EA E sz) (l:List α):∀ u ∈ l.flatMap E,u.oneCell'=true:=λu hu=>by
 obtain ⟨x,_,hx⟩:=List.mem_flatMap.1 hu;exact List.all_eq_true.1 (h.one x) u hx
theorem EA.at_ (h:EA E sz):∀ (l:List α) (k:Nat) (x:α),l[k]? = some x->((l.flatMap E).drop (k * sz)).take sz=E x
 | y :: l,0,x,hx=>by
  simp only [List.getElem?_cons_zero,Option.some.injEq] at hx;subst hx;rw [List.flatMap_cons,Nat.zero_mul,List.drop_zero,<- h.len y,List.take_left]
 | y :: l,k+1,x,hx=>by
  rw [List.getElem?_cons_succ] at hx;rw [List.flatMap_cons,Nat.add_mul,Nat.one_mul,Nat.add_comm,<- List.drop_drop,show (E y++l.flatMap E).drop sz=l.flatMap E by rw [<- h.len y,List.drop_left]];exact h.at_ l k x hx
end
def AL {α:Type} (E:α->List Value) (T:TypeId) (sz:Nat) (h:N) (v:Value) (l:List α):Prop:=Own T sz h v l.length (l.flatMap E)
def AZ {α:Type} (E:α->List Value) (sz:Nat) (h:N) (v:Value) (l:List α):Prop:=Rd sz h v l.length (l.flatMap E)
theorem Own.val {T:TypeId} {sz:Nat} {h:N} {v:Value} {n:Nat} {cs:List Value} (ho:Own T sz h v n cs):∃ a c,v=.slice a n c:=by
 rcases ho.2.2 with ⟨rfl,rfl⟩ | ⟨g,cap,cur,rfl,_⟩;exact ⟨none,0,rfl⟩;exact ⟨_,cap,rfl⟩
theorem Rd.val {sz:Nat} {h:N} {v:Value} {n:Nat} {cs:List Value} (ho:Rd sz h v n cs):∃ a c,v=.slice a n c:=by
 rcases ho.2.2 with ⟨rfl,rfl⟩ | ⟨b,off,cap,cur,T,z,rfl,_⟩;exact ⟨none,0,rfl⟩;exact ⟨_,cap,rfl⟩
theorem AL.rd {α:Type} {E:α->List Value} {T:TypeId} {sz:Nat} {h:N} {v:Value} {l:List α} (ho:AL E T sz h v l):AZ E sz h v l:=Own.rd ho
theorem AL.nil {α:Type} (E:α->List Value) (T:TypeId) (sz:Nat) (h:N):AL E T sz h (.slice none 0 0) []:=Own.nil T sz h
theorem AZ.nil {α:Type} (E:α->List Value) (sz:Nat) (h:N):AZ E sz h (.slice none 0 0) []:=(Own.nil 0 sz h).rd
theorem AL.blk {α:Type} {E:α->List Value} (T:TypeId) {sz:Nat} (hE:EA E sz) (b:Nat) (l:List α) (cs:Array Value) (n:Nat) (hc:(l.flatMap E).toArray=cs) (hn:l.length=n) (hm:n<=maxLen):AL E T sz (blk b (.cells cs T (0,0))) (.slice (some ⟨b,0,none⟩) n n) l:=by
 subst hc hn;exact Own.blk T sz b l.length (l.flatMap E) (hE.lens l) (List.all_eq_true.2 (hE.ones l)) hm
def none_:N:=λ_=>none
def Elem (h:N) (p:Value) (us:List Value):Prop:=∃ b off cur T z,p=.pointer (some ⟨b,off,none⟩)/\h b=some (.cells cur T z)/\∀ j u,us[j]? = some u->cur[off+j]? = some u
section
variable {A:World} {ds:List Deferred} {n0:Nat} {env env':Env} {l l' X:List N} {q:Act->World->Prop} {P:Program} {Q:Exit->Act->World->Prop} {ops:Array Oper} {os rest:List Oper} {o:Oper}
theorem Bjj {α:Type} {E:α->List Value} {xs ys xs':List α} {T TS U:TypeId} {sz bytes:Nat} {i:TypeInfo} {z:Value} {h:N} {v y:Value} {s x:Operand} (hE:EA E sz) (ho:o.op=.call { callee:=.builtin .append,args:=#[s,x],argTypes:=#[TS,U] })
  (he:FG P TS T sz bytes i z) (hg:Ci ops env o=some true) (hd:inB n0 o.dst=true) (hs:BL env s=some v) (hx:BL env x=some y) (hu:KZ P U=true) (hap:apd bytes xs ys=some xs') (hO:AL E T sz h v xs) (hsrc:∀ w,Sat (h :: l) w->Src P sz w y ys.length (ys.flatMap E))
  (hk:∀ h' a' c',AL E T sz h' (.slice a' xs'.length c') xs'->K ds A n0 (Bl env o.dst (.slice a' xs'.length c')) (h' :: l) (wpList P ops Q rest)):K ds A n0 env (h :: l) (wpList P ops Q (o :: rest)):=by
 obtain ⟨hb,rfl⟩:=X3 hap;refine Aox ho he hg hd hs hx hu hO hsrc (hE.lens ys) (hE.ones ys) hb λh' v' hO'=>?_;have hO2:AL E T sz h' v' (xs++ys):=by
  unfold AL;rw [BT,List.flatMap_append];exact hO'
 obtain ⟨a',c',rfl⟩:=hO2.val;exact hk h' a' c' hO2
theorem M2 {α:Type} {E:α->List Value} {sz:Nat} (hE:EA E sz) (ys:List α) {T:TypeId} {b n:Nat} {cs:Array Value} (hc:(ys.flatMap E).toArray=cs) (hn:ys.length=n) (hm:n<=maxLen) (j:Nat) (hj:l[j]? = some (blk b (.cells cs T (0,0)))) (w:World) (hw:Sat l w) :
  Src P sz w (.slice (some ⟨b,0,none⟩) n n) ys.length (ys.flatMap E):=by
 have:=(AL.blk T hE b ys cs n hc hn hm).rd;exact Rd.src this hw (List.mem_of_getElem? hj)
theorem Au4 {α:Type} {E:α->List Value} {sz:Nat} {ys:List α} {h2:N} {v:Value} (hr:AZ E sz h2 v ys) (hm:h2 ∈ l) (w:World) (hw:Sat l w):Src P sz w v ys.length (ys.flatMap E):=Rd.src hr hw hm
def encI (k:IntKind) (x:Int):List Value:=[.int k x]
theorem IY (k:IntKind):EA (encI k) 1:=⟨λ_=>rfl,λ_=>rfl⟩
def encS (x:Ah):List Value:=[.string x]
theorem Ep:EA encS 1:=⟨λ_=>rfl,λ_=>rfl⟩
theorem Aje (k:IntKind) (l:List Int):l.flatMap (encI k)=l.map (Value.int k):=by
 induction l with
 | nil=>rfl
 | cons x l ih=>rw [List.flatMap_cons,ih];rfl
theorem Bjl {s:Ah} {S T U:TypeId} {x:Operand} (ho:o.op=.convert S T x) (hg:Ci ops env o=some true) (hd:inB n0 o.dst=true) (hx:BL env x=some (.string s)) (h1:P.underlying S=some .string) (h2:P.underlying T=some (.slice U)) (h3:P.underlying U=some (.int .u8)) (hs:s.size<=maxLen)
  (hk:∀ h' a' c',AZ (encI .u8) 1 h' (.slice a' (Ly s).length c') (Ly s)->K ds A n0 (Bl env o.dst (.slice a' (Ly s).length c')) (h' :: l) (wpList P ops Q rest)):K ds A n0 env l (wpList P ops Q (o :: rest)):=by
 refine F1 hg λa w ha hw=>?_;have hr:=run_bytes_of_string (P:=P) w S T U s h1 h2 h3;unfold Oper.wp execOp;simp only [ho,ha.eval hx,Sem.run_bind,hr,Result.andThen_ok,Sem.run_pure];have hlen:(Ly s).length=s.size:=by simp [Ly]
 rw [<- hlen];refine hk _ _ _ ?_ _ _ (ha.Bl _ hd) (hw.drew.new _);unfold AZ;rw [Aje,hlen];have hge:=grownCap_ge w s.size 0 U;refine ⟨by simp [Ly],λu hu=>?_,.inr ⟨w.heap.size,0,_,_,U,_,rfl,if_pos rfl,hge,grownCap_le_maxLen w _ _ _ hs,λj u hj=>?_⟩⟩;obtain ⟨n,_,rfl⟩:=List.mem_map.1 hu;rfl;have hlt:j < s.data.size:=by
  have:=(List.getElem?_eq_some_iff.1 hj).1
  simpa [Ly] using this
 rw [Nat.zero_add];simp only [bytesRow];rw [Array.getElem?_append_left (by simpa using hlt)];simp only [Ly,List.map_map,List.getElem?_map] at hj;rw [Array.getElem?_map]
 simpa using hj
theorem ZL {h:N} {v:Value} {xs:List Int} {S T U:TypeId} {x:Operand} (ho:o.op=.convert S T x) (hg:Ci ops env o=some true) (hd:inB n0 o.dst=true) (hx:BL env x=some v) (h1:P.underlying S=some (.slice U)) (h2:P.underlying T=some .string) (h3:P.underlying U=some (.int .u8))
  (hR:AZ (encI .u8) 1 h v xs) (hm:h ∈ l) (hk:K ds A n0 (Bl env o.dst (.string (strOfNums xs))) l (wpList P ops Q rest)):K ds A n0 env l (wpList P ops Q (o :: rest)):=by
 refine F1 hg λa w ha hw=>?_;have hr:(convert S T v).run P w=.ok (.string (strOfNums xs)) w:=by
  unfold AZ at hR;rw [Aje] at hR;obtain ⟨_,_,hc⟩:=hR;rcases hc with ⟨rfl,h0⟩ | ⟨b,off,cap,cur,E,z,rfl,hb,_,_,hc⟩;have:xs=[]:=List.eq_nil_of_length_eq_zero h0;subst this;rw [run_convert_bytes_nil w S U h1 h3 0 0 T h2];rfl;exact run_convert_bytes_arg w S U h1 h3 b off xs.length cap xs rfl (λi hi=>by
   rw [XI hw.sat hm hb];exact hc i _ (by simp [List.getD,List.getElem?_eq_getElem hi])) T h2
 unfold Oper.wp execOp;simp only [ho,ha.eval hx,Sem.run_bind,hr,Result.andThen_ok,Sem.run_pure];exact hk _ _ (ha.Bl _ hd) hw
def mkd {α:Type} (b:Nat) (z:α) (n:Int):Option (List α):=cond (decide (0<=n/\b * n<=140737488355328)) (some (List.replicate n.toNat z)) none
theorem Ap9 {α:Type} {E:α->List Value} {sz:Nat} (hE:EA E sz) (zz:α) (n:Nat):madeCells (E zz).toArray (n * sz)=((List.replicate n zz).flatMap E).toArray:=by
 apply Array.ext;simp [size_madeCells,hE.len,List.length_flatMap];intro i h1 h2;rw [size_madeCells] at h1;have hp:0 < sz:=by
  rcases Nat.eq_zero_or_pos sz with h | h;subst h;simp at h1;exact h
 have hq:i / sz < n:=(Nat.div_lt_iff_lt_mul hp).2 h1;have ha:=hE.at_ (List.replicate n zz) (i / sz) zz (by simp [hq]);have hmod:i % sz < sz:=Nat.mod_lt _ hp;have hi:i / sz * sz+i % sz=i:=by rw [Nat.mul_comm];exact Nat.div_add_mod i sz
 have hg:((List.replicate n zz).flatMap E)[i]? = (E zz)[i % sz]?:=by
  rw [<- ha,List.getElem?_take,if_pos hmod,List.getElem?_drop,hi]
 have h3:(E zz)[i % sz]? = some ((E zz)[i % sz]'(by rw [hE.len];exact hmod)):=List.getElem?_eq_getElem _;rw [h3] at hg;have h4:=(List.getElem?_eq_some_iff.1 hg).2;simp only [List.getElem_toArray];rw [h4];simp only [madeCells,Array.getElem_map,Array.getElem_range,List.size_toArray,hE.len];rw [Array.getElem!_eq_getD,Array.getD_eq_getD_getElem?];simp [h3]
theorem Bj0 {α:Type} {E:α->List Value} {xs:List α} {n:Int} {T TS:TypeId} {sz bytes:Nat} {i:TypeInfo} {z:Value} (zz:α) {kl kc:IntKind} {x y:Operand} (hE:EA E sz) (hz:z.cells=(E zz).toArray) (ho:o.op=.makeSlice TS x y) (he:FG P TS T sz bytes i z) (hg:Ci ops env o=some true)
  (hd:inB n0 o.dst=true) (hx:BL env x=some (.int kl n)) (hy:BL env y=some (.int kc n)) (hmk:mkd bytes zz n=some xs) (hk:∀ h' a' c',AL E T sz h' (.slice a' xs.length c') xs->K ds A n0 (Bl env o.dst (.slice a' xs.length c')) (h' :: l) (wpList P ops Q rest)):K ds A n0 env l (wpList P ops Q (o :: rest)):=by
 refine F1 hg λa w ha hw=>?_;obtain ⟨hb,hxs⟩:=Jv hmk;cases hxs;obtain ⟨h0,h1⟩:=of_decide_eq_true hb;have hp:=he.pos;have hnb:n<=bytes * n:=by
  have h2:(1:Int)<=bytes:=by omega
  have:=Int.mul_le_mul_of_nonneg_right h2 h0;omega
 have hr:=run_make (P:=P) w TS T i z he.slice he.info he.zero kl kc n n h0 (Int.le_refl _) (by rw [he.bytes];omega) (by omega);unfold Oper.wp execOp;simp only [ho,ha.eval hx,ha.eval hy,Sem.run_bind,hr,Result.andThen_ok,Sem.run_pure];have hO:AL E T sz (blk w.heap.size (.cells (madeCells z.cells (n.toNat * i.size)) T (0,0))) (.slice (some ⟨w.heap.size,0,none⟩) n.toNat n.toNat) (List.replicate n.toNat zz):=by
  rw [he.size,hz,Ap9 hE];exact AL.blk T hE _ _ _ n.toNat rfl (by simp) (by unfold maxLen;omega)
 have e:(Value.slice (some ⟨w.heap.size,0,none⟩) n.toNat n.toNat)=.slice (some ⟨w.heap.size,0,none⟩) (List.replicate n.toNat zz).length n.toNat:=by rw [List.length_replicate]
 rw [e] at hO ⊢;exact hk _ _ _ hO _ _ (ha.Bl _ hd) (hw.new _)
theorem At4 {P:Program} {T:TypeId} (w:World) (h:(match P.underlying T with | some (.struct _)=>true | some (.array _ _)=>true | _=>false)=true):(isAgg T).run P w=.ok true w:=by
 split at h;rename_i hd;simp [isAgg,run_underlying hd];rename_i hd;simp [isAgg,run_underlying hd];cases h
theorem Aug {P:Program} {T:TypeId} (w:World) (h:(match P.underlying T with | some (.struct _)=>true | some (.array _ _)=>true | some _=>false | none=>true)=false):(isAgg T).run P w=.ok false w:=by
 unfold isAgg;cases hd:P.underlying T with
 | none=>rw [hd] at h;cases h
 | some d=>cases d <;> simp_all [run_underlying hd]
theorem Elem.cell {h:N} {p:Value} {us:List Value} (he:Elem h p us) {w:World} (hw:Sat l w) (hm:h ∈ l):∃ a,p=.pointer (some a)/\∀ j u,us[j]? = some u->w.cell? (a.add j)=some u:=by
 obtain ⟨b,off,cur,T,z,rfl,hb,hc⟩:=he;exact ⟨_,rfl,λj u hj=>by rw [addr_add,XI hw hm hb];exact hc j u hj⟩
theorem FX {h:N} {p u:Value} {us:List Value} {T:TypeId} {x:Operand} (ho:o.op=.load T x) (hg:Ci ops env o=some true) (hd:inB n0 o.dst=true) (hx:BL env x=some p) (hT:(match P.underlying T with | some (.struct _)=>true | some (.array _ _)=>true | some _=>false | none=>true)=false) (hE:Elem h p (u :: us)) (hm:h ∈ l)
  (hk:K ds A n0 (Bl env o.dst u) l (wpList P ops Q rest)):K ds A n0 env l (wpList P ops Q (o :: rest)):=by
 refine F1 hg λa w ha hw=>?_;obtain ⟨ad,rfl,hc⟩:=hE.cell hw.sat hm;have h0:=hc 0 u rfl;rw [show ad.add 0=ad from rfl] at h0;have hr:(Instr.loadAt T (.pointer (some ad))).run P w=.ok u w:=by
  simp [Instr.loadAt,Instr.sureAddr,loadVar,Aug w hT,load,Sem.run,h0]
 unfold Oper.wp execOp;simp only [ho,ha.eval hx,Sem.run_bind,hr,Result.andThen_ok,Sem.run_pure];exact hk _ _ (ha.Bl _ hd) hw
theorem Bjs {h:N} {p:Value} {us:List Value} {T:TypeId} {x:Operand} (ho:o.op=.load T x) (hg:Ci ops env o=some true) (hd:inB n0 o.dst=true) (hx:BL env x=some p) (hT:(match P.underlying T with | some (.struct _)=>true | some (.array _ _)=>true | _=>false)=true) (hs:(P.info? T).map (·.size)=some us.length) (hE:Elem h p us) (hm:h ∈ l)
  (hk:K ds A n0 (Bl env o.dst (.agg us.toArray)) l (wpList P ops Q rest)):K ds A n0 env l (wpList P ops Q (o :: rest)):=by
 refine F1 hg λa w ha hw=>?_;obtain ⟨ad,rfl,hc⟩:=hE.cell hw.sat hm;cases hif:P.info? T with
 | none=>rw [hif] at hs;cases hs
 | some i =>
  rw [hif] at hs;have hsz:i.size=us.length:=Ao hs;have hr:(Instr.loadAt T (.pointer (some ad))).run P w=.ok (.agg us.toArray) w:=by
   simp [Instr.loadAt,Instr.sureAddr,loadVar,At4 w hT,sizeOf,typeInfo,hif,hsz,run_loadCells_list w ad us hc]
  unfold Oper.wp execOp;simp only [ho,ha.eval hx,Sem.run_bind,hr,Result.andThen_ok,Sem.run_pure];exact hk _ _ (ha.Bl _ hd) hw
theorem C6 (h:K ds A n0 env (none_ :: l) q):K ds A n0 env l q:=λa w ha hw=>h a w ha ⟨⟨λ_ _ h=>(by cases h),λ_ _ _=>.inl rfl,hw.sat⟩,hw.os,hw.tape,hw.output,hw.size⟩
theorem IG {d:Option Nat} {v:Value} {l1:List N} {next:Act->World->Prop} (h:K ds A n0 (Bl env d v) (l1++X) next):Nx ds A n0 env d X next Q (.returned v) l1:=h
theorem QE (pre:List N) (f:N) (post:List N) (h:K ds A n0 env (f :: (pre++post)) q):K ds A n0 env (pre++f :: post) q:=h.perm List.perm_middle
theorem AT {a b c d e f:N} {l:List N} (h:K ds A n0 env (f :: a :: b :: c :: d :: e :: l) q):K ds A n0 env (a :: b :: c :: d :: e :: f :: l) q:=QE [a,b,c,d,e] f l h
theorem BH {a b c d e f g:N} {l:List N} (h:K ds A n0 env (g :: a :: b :: c :: d :: e :: f :: l) q):K ds A n0 env (a :: b :: c :: d :: e :: f :: g :: l) q:=QE [a,b,c,d,e,f] g l h
theorem S6 {a b c d e f g i:N} {l:List N} (h:K ds A n0 env (i :: a :: b :: c :: d :: e :: f :: g :: l) q):K ds A n0 env (a :: b :: c :: d :: e :: f :: g :: i :: l) q:=QE [a,b,c,d,e,f,g] i l h
theorem Du {a b c d e f g i j:N} {l:List N} (h:K ds A n0 env (j :: a :: b :: c :: d :: e :: f :: g :: i :: l) q):K ds A n0 env (a :: b :: c :: d :: e :: f :: g :: i :: j :: l) q:=QE [a,b,c,d,e,f,g,i] j l h
theorem By3 {a b c d e f g i j k:N} {l:List N} (h:K ds A n0 env (k :: a :: b :: c :: d :: e :: f :: g :: i :: j :: l) q):K ds A n0 env (a :: b :: c :: d :: e :: f :: g :: i :: j :: k :: l) q:=QE [a,b,c,d,e,f,g,i,j] k l h
theorem By2 {a b c d e f g i j k m:N} {l:List N} (h:K ds A n0 env (m :: a :: b :: c :: d :: e :: f :: g :: i :: j :: k :: l) q):K ds A n0 env (a :: b :: c :: d :: e :: f :: g :: i :: j :: k :: m :: l) q:=QE [a,b,c,d,e,f,g,i,j,k] m l h
end
section
variable {A:World} {ds:List Deferred} {n0:Nat} {env:Env} {d:Option Nat} {X:List N} {next:Act->World->Prop} {Q:Exit->Act->World->Prop} {v:Value} {f1 f2 f3 f4:N}
theorem Gw (h:K ds A n0 (Bl env d v) X next):Nx ds A n0 env d X next Q (.returned v) []:=h
theorem E3 (h:K ds A n0 (Bl env d v) (f1 :: X) next):Nx ds A n0 env d X next Q (.returned v) [f1]:=h
theorem BI (h:K ds A n0 (Bl env d v) (f1 :: f2 :: X) next):Nx ds A n0 env d X next Q (.returned v) [f1,f2]:=h
theorem K_ (h:K ds A n0 (Bl env d v) (f1 :: f2 :: f3 :: X) next):Nx ds A n0 env d X next Q (.returned v) [f1,f2,f3]:=h
theorem GW (h:K ds A n0 (Bl env d v) (f1 :: f2 :: f3 :: f4 :: X) next):Nx ds A n0 env d X next Q (.returned v) [f1,f2,f3,f4]:=h
end
def Place (A:Option Addr) (k:Nat) (p:Value):Prop:=∃ b off,A=some ⟨b,off,none⟩/\p=.pointer (some ⟨b,off+k,none⟩)
def FK {α:Type} (l:List α) (i:Int) (x:α):Option (List α):=cond (decide (0<=i/\i < l.length)) (some (l.set i.toNat x)) none
theorem ZW {α:Type} {l l':List α} {i:Int} {x:α} (h:FK l i x=some l'):0<=i/\i < l.length/\l'=l.set i.toNat x:=by
 obtain ⟨h1,h2⟩:=Jv h;obtain ⟨h3,h4⟩:=of_decide_eq_true h1;exact ⟨h3,h4,(Ao h2).symm⟩
theorem Og {α:Type} {l l':List α} {i:Int} {x:α} (h:FK l i x=some l'):l'.length=l.length:=by
 obtain ⟨_,_,rfl⟩:=ZW h;exact List.length_set
theorem EA.set {α:Type} {E:α->List Value} {sz:Nat} (hE:EA E sz) (x:α):∀ (l:List α) (k:Nat),k < l.length->(l.set k x).flatMap E=(l.flatMap E).take (k * sz)++E x++(l.flatMap E).drop (k * sz+sz)
 | y :: l,0,_=>by
  rw [List.set_cons_zero,List.flatMap_cons,List.flatMap_cons,Nat.zero_mul,List.take_zero,List.nil_append,Nat.zero_add,<- hE.len y,List.drop_left]
 | y :: l,k+1,h=>by
  have h':k < l.length:=by simpa using h
  rw [List.set_cons_succ,List.flatMap_cons,List.flatMap_cons,hE.set x l k h'];rw [show (k+1) * sz=(E y).length+k * sz by rw [hE.len,Nat.add_mul,Nat.one_mul,Nat.add_comm]];rw [List.take_length_add_append,show (E y).length+k * sz+sz=(E y).length+(k * sz+sz) by omega,List.drop_length_add_append];simp [C8]
theorem Auy {α:Type} (C Ab:List α) (kk off sz nn:Nat) (h1:off+Ab.length<=sz) (h2:kk+sz<=nn) (h3:nn<=C.length) :
  (C.take (kk+off)++Ab++C.drop (kk+off+Ab.length)).take nn =
   (C.take nn).take kk++((((C.take nn).drop kk).take sz).take off++Ab++(((C.take nn).drop kk).take sz).drop (off+Ab.length))++(C.take nn).drop (kk+sz):=by
 apply List.ext_getElem?;intro j;by_cases j1:j < kk;rw [List.getElem?_take,if_pos (by omega),List.getElem?_append_left (by simp;omega),List.getElem?_append_left (by simp;omega),List.getElem?_take,if_pos (by omega)];rw [List.getElem?_append_left (by simp;omega),List.getElem?_append_left (by simp;omega),List.getElem?_take,if_pos j1,List.getElem?_take,if_pos (by omega)];obtain ⟨i,rfl⟩:∃ i,j=kk+i:=⟨j - kk,by omega⟩;have hL:∀ (m:Nat),i < m->m<=nn - kk->((C.take nn).drop kk)[i]? = C[kk+i]?:=λm h h'=>by rw [List.getElem?_drop,List.getElem?_take,if_pos (by omega)]
 rw [C8 ((C.take nn).take kk),List.getElem?_append_right (l₁:=(C.take nn).take kk) (by simp;omega)];rw [show ((C.take nn).take kk).length=kk by simp;omega,Nat.add_sub_cancel_left];by_cases j2:i < off;rw [List.getElem?_take,if_pos (by omega),C8,List.getElem?_append_left (by simp;omega),List.getElem?_take,if_pos (by omega)];rw [C8,C8,List.getElem?_append_left (by simp;omega),List.getElem?_take,if_pos j2,List.getElem?_take,if_pos (by omega),hL (i+1) (by omega) (by omega)];by_cases j3:i < off+Ab.length;rw [List.getElem?_take,if_pos (by omega),C8,List.getElem?_append_right (by simp;omega),List.getElem?_append_left (by simp;omega)];rw [C8,C8,List.getElem?_append_right (by simp;omega),List.getElem?_append_left (by simp;omega)];congr 1;simp;omega;by_cases j4:i < sz;rw [List.getElem?_take,if_pos (by omega),C8,List.getElem?_append_right (by simp;omega),List.getElem?_append_right (by simp;omega),List.getElem?_drop];rw [C8,C8,List.getElem?_append_right (by simp;omega),List.getElem?_append_right (by simp;omega),List.getElem?_append_left (by simp;omega),List.getElem?_drop,List.getElem?_take,if_pos (by simp;omega),List.getElem?_drop,List.getElem?_take,if_pos (by simp;omega)];congr 1;simp;omega;by_cases j5:kk+i < nn;rw [List.getElem?_take,if_pos (by omega),C8,List.getElem?_append_right (by simp;omega),List.getElem?_append_right (by simp;omega),List.getElem?_drop];rw [C8,C8,List.getElem?_append_right (by simp;omega),List.getElem?_append_right (by simp;omega),List.getElem?_append_right (by simp;omega),List.getElem?_drop,List.getElem?_take,if_pos (by simp;omega)];congr 1;simp;omega;rw [List.getElem?_take,if_neg (by omega)]
 symm
 apply List.getElem?_eq_none;simp;omega
def EB:List N->World->Prop
 | [],_=>True
 | f :: l,w=>f.On w/\EB l w
theorem EB.mem:∀ {l:List N} {w:World},EB l w->∀ f ∈ l,f.On w
 | _ :: _,_,h,f,hf=>by
  rcases List.mem_cons.1 hf with rfl | hf;exact h.1;exact h.2.mem f hf
theorem EB.evs {l:List N} {w:World} (hw:EB l w):∀ {es:List Ev},JS l es->NF es w w
 | [],_=>rfl
 | .ld a v :: es,h=>by
  obtain ⟨⟨i,cs,e,z,h1,h2,h3⟩,h4⟩:=h;refine ⟨?_,hw.evs h4⟩;have hb:=hw.mem _ (List.mem_of_getElem? h1) a.block (.cells cs e z) (by simp [blk]);obtain ⟨x,y,s⟩:=a;simp only at h2 h3 hb;subst h2;simp [World.cell?,hb,h3]
 | Ev.st .. :: _,h=>h.elim
 | Ev.nw .. :: _,h=>h.elim
section
variable {A:World} {ds:List Deferred} {n0:Nat} {env env':Env} {l l' X:List N} {q:Act->World->Prop} {P:Program} {Q:Exit->Act->World->Prop} {ops:Array Oper} {os rest:List Oper} {o:Oper}
theorem K.eq (he:env=env') (hl:l=l') (h:K ds A n0 env' l' q):K ds A n0 env l q:=by subst he hl;exact h
theorem Bjq {α:Type} {E:α->List Value} {xs:List α} {a:α} {ix:Int} {kd:IntKind} {h:N} {A':AD} {c:Nat} {T TS:TypeId} {sz:Nat} {x y:Operand} (hE:EA E sz) (ho:o.op=.indexAddr TS x y) (hg:Ci ops env o=some true) (hd:inB n0 o.dst=true) (hx:BL env x=some (.slice A' xs.length c)) (hy:BL env y=some (.int kd ix))
  (h1:P.underlying TS=some (.slice T)) (h2:(P.info? T).map (·.size)=some sz) (hi:B5 xs ix=some a) (hR:AZ E sz h (.slice A' xs.length c) xs) (hk:∀ p,Elem h p (E a)->Place A' (ix.toNat * sz) p->K ds A n0 (Bl env o.dst p) l (wpList P ops Q rest)):K ds A n0 env l (wpList P ops Q (o :: rest)):=by
 refine F1 hg λa' w ha hw=>?_;obtain ⟨hi0,hi1,hi2⟩:=Mt hi;obtain ⟨hl,_,hc⟩:=hR;cases hif:P.info? T with
 | none=>rw [hif] at h2;cases h2
 | some i =>
  rw [hif] at h2;have hsz:i.size=sz:=Ao h2;rcases hc with ⟨_,h0⟩ | ⟨b,off,cap,cur,T',z,he,hb,_,_,hc⟩;omega;cases he;have hr:(Instr.indexAt TS (.slice (some ⟨b,off,none⟩) xs.length c) (.int kd ix)).run P w=.ok (.pointer (some ⟨b,off+ix.toNat * sz,none⟩)) w:=by
   simp [Instr.indexAt,run_underlying h1,asIntOf,hi0,hi1,sizeOf,typeInfo,hif,hsz,addr_add]
  unfold Oper.wp execOp;simp only [ho,ha.eval hx,ha.eval hy,Sem.run_bind,hr,Result.andThen_ok,Sem.run_pure];refine hk _ ⟨b,off+ix.toNat * sz,cur,T',z,rfl,hb,λj u hj=>?_⟩ ⟨b,off,rfl,rfl⟩ _ _ (ha.Bl _ hd) hw;rw [<- hE.at_ xs ix.toNat a hi2,List.getElem?_take] at hj;split at hj;rw [List.getElem?_drop] at hj;rw [Nat.add_assoc];exact hc _ u hj;cases hj
theorem Bjo {h:N} {p:Value} {us:List Value} {T:TypeId} {k off k0:Nat} {A':Option Addr} {x:Operand} (ho:o.op=.fieldAddr T x k) (hg:Ci ops env o=some true) (hd:inB n0 o.dst=true) (hx:BL env x=some p)
  (hT:(match P.underlying T with | some (.struct fs)=>(match fs[k]? with | some f=>(match (P.info? f.type).map (·.size) with | some (s+1)=>some f.offset | _=>none) | none=>none) | _=>none)=some off) (hE:Elem h p us) (hp:Place A' k0 p) (hk:∀ p',Elem h p' (us.drop off)->Place A' (k0+off) p'->K ds A n0 (Bl env o.dst p') l (wpList P ops Q rest)):K ds A n0 env l (wpList P ops Q (o :: rest)):=by
 refine F1 hg λa w ha hw=>?_;obtain ⟨b1,Mw,rfl,rfl⟩:=hp;obtain ⟨b,of_,cur,T',z,he,hb,hc⟩:=hE;cases he;split at hT;rename_i fs hfs;split at hT;rename_i f hf;split at hT;rename_i s hs;cases hT;cases hif:P.info? f.type with
 | none=>rw [hif] at hs;cases hs
 | some i =>
  rw [hif] at hs;have hsz:i.size=s+1:=Ao hs;have hr:(Instr.fieldAt T (.pointer (some ⟨b1,Mw+k0,none⟩)) k).run P w=.ok (.pointer (some ⟨b1,Mw+k0+f.offset,none⟩)) w:=by
   simp [Instr.fieldAt,run_underlying hfs,hf,Instr.sureAddr,fieldPlace,sizeOf,typeInfo,hif,hsz,addr_add]
  unfold Oper.wp execOp;simp only [ho,ha.eval hx,Sem.run_bind,hr,Result.andThen_ok,Sem.run_pure];refine hk _ ⟨b1,Mw+k0+f.offset,cur,T',z,rfl,hb,λj u hj=>?_⟩ ⟨b1,Mw,rfl,by rw [Nat.add_assoc]⟩ _ _ (ha.Bl _ hd) hw;rw [List.getElem?_drop] at hj;rw [Nat.add_assoc];exact hc _ u hj
 cases hT;cases hT;cases hT
theorem VZ {α:Type} {E:α->List Value} {xs xs':List α} {x x':α} {ix:Int} {h:N} {A':AD} {c:Nat} {T T1:TypeId} {sz off:Nat} {p v:Value} {s y:Operand} (hE:EA E sz) (ho:o.op=.store T1 s y) (hg:Ci ops env o=some true) (hd:inB n0 o.dst=true)
  (hs:BL env s=some p) (hy:BL env y=some v) (hsz:(P.info? T1).map (·.size)=some v.cells.size) (hp:Place A' (ix.toNat * sz+off) p) (hO:AL E T sz h (.slice A' xs.length c) xs) (hx:B5 xs ix=some x) (hx':E x'=(E x).take off++v.cells.toList++(E x).drop (off+v.cells.toList.length))
  (hfit:Nat.ble (off+v.cells.toList.length) sz=true) (hset:FK xs ix x'=some xs') (hk:∀ h',AL E T sz h' (.slice A' xs'.length c) xs'->K ds A n0 (Bl env o.dst undef) (h' :: l) (wpList P ops Q rest)):K ds A n0 env (h :: l) (wpList P ops Q (o :: rest)):=by
 refine F1 hg λa w ha hw=>?_;obtain ⟨hi0,hi1,hxi⟩:=Mt hx;obtain ⟨_,_,rfl⟩:=ZW hset;have hfit:off+v.cells.toList.length<=sz:=AV hfit;cases hif:P.info? T1 with
 | none=>rw [hif] at hsz;cases hsz
 | some i =>
  rw [hif] at hsz;have hsize:i.size=v.cells.size:=Ao hsz;rcases hO.2.2 with ⟨he,h0⟩ | ⟨g,cap,cur,he,rfl,h4,h5,h6,h7⟩;omega;cases he;obtain ⟨b,of_,he,rfl⟩:=hp;cases he;have hgc:w.heap[g]? = some (.cells cur T (0,0)):=hw.sat.1 g _ (by simp [blk]);have hk1:ix.toNat < xs.length:=by omega
  have hle:ix.toNat * sz+sz<=xs.length * sz:=by
   have:=Nat.mul_le_mul_right sz (show ix.toNat+1<=xs.length by omega);rw [Nat.add_mul,Nat.one_mul] at this;exact this
  have hcc:xs.length * sz<=cur.size:=by rw [h6];exact Nat.mul_le_mul_right _ h4
  have hone:∀ u ∈ v.cells.toList,u.oneCell'=true:=λu hu=>by
   have:u ∈ E x':=by rw [hx'];simp [hu]
   exact List.all_eq_true.1 (hE.one x') u this
  have hst:=run_storeCells_at P g (ix.toNat * sz+off) T v.cells.toList 0 cur w hgc (by omega) hone;simp only [Nat.add_zero] at hst;have hr:(Instr.storeAt T1 (.pointer (some ⟨g,0+(ix.toNat * sz+off),none⟩)) v).run P w=.ok () (w.setRow g (cur.toList.take (ix.toNat * sz+off)++v.cells.toList++cur.toList.drop (ix.toNat * sz+off+v.cells.toList.length)).toArray):=by
   simp [Instr.storeAt,Instr.sureAddr,storeVar,sizeOf,typeInfo,hif,hsize]
   simpa using hst
  unfold Oper.wp execOp;simp only [ho,ha.eval hs,ha.eval hy,Sem.run_bind,hr,Result.andThen_ok,Sem.run_pure];refine hk _ ?_ _ _ (ha.Bl _ hd) (hw.setRow _);rw [List.length_set];unfold AL;rw [List.length_set];refine ⟨by rw [hE.lens,List.length_set],hE.ones _,.inr ⟨g,c,_,rfl,rfl,h4,h5,?_,?_⟩⟩;simp only [List.size_toArray,BT,List.length_take,BV,Array.length_toList];rw [Nat.min_eq_left (by omega)];have:v.cells.toList.length=v.cells.size:=Array.length_toList;omega;rw [hE.set x' xs _ hk1];have ha1:=hE.at_ xs ix.toNat x hxi;rw [hx',<- ha1,<- h7];exact Auy cur.toList v.cells.toList _ off sz _ hfit (by omega) (by simpa using hcc)
theorem Wb {S:World->Prop} {tail:Act->World->Prop} {pl:List (Oper×Nat)} {v:Value} (s:List N) (vs:List Orc) (es:List Ev) (hg:Ci ops env o=some true) (hs:(DC o.op && allB o.op.operands.toList env && inB n0 o.dst)=true) (hf:follow P (execOp (rho env) o) vs=some (.value v,es)) (hS:∀ w,S w->EB s w) (hl:JS s es)
  (h:K ds A n0 (Bl env o.dst v) l (BU P ops Q S tail pl)):K ds A n0 env l (BU P ops Q S tail ((o,3) :: pl)):=Ao8 vs es hg hs hf (λw hw=>(hS w hw).evs hl) h
variable {S:World->Prop} {tail:Act->World->Prop} {pl:List (Oper×Nat)}
theorem Bke {α:Type} {E:α->List Value} {xs:List α} {a:α} {ix:Int} {kd:IntKind} {h:N} {A':AD} {c:Nat} {T TS:TypeId} {sz:Nat} {x y:Operand} (hE:EA E sz) (ho:o.op=.indexAddr TS x y) (hg:Ci ops env o=some true) (hd:inB n0 o.dst=true) (hx:BL env x=some (.slice A' xs.length c)) (hy:BL env y=some (.int kd ix))
  (h1:P.underlying TS=some (.slice T)) (h2:(P.info? T).map (·.size)=some sz) (hi:B5 xs ix=some a) (hR:AZ E sz h (.slice A' xs.length c) xs) (hk:∀ p,Elem h p (E a)->Place A' (ix.toNat * sz) p->K ds A n0 (Bl env o.dst p) l (BU P ops Q S tail pl)):K ds A n0 env l (BU P ops Q S tail ((o,0) :: pl)):=by
 intro a' w ha hw;obtain ⟨hi0,hi1,hi2⟩:=Mt hi;obtain ⟨hl,_,hc⟩:=hR;cases hif:P.info? T with
 | none=>rw [hif] at h2;cases h2
 | some i =>
  rw [hif] at h2;have hsz:i.size=sz:=Ao h2;rcases hc with ⟨_,h0⟩ | ⟨b,off,cap,cur,T',z,he,hb,_,_,hc⟩;omega;cases he;refine DY (v:=.pointer (some ⟨b,off+ix.toNat * sz,none⟩)) (Hk ha hg) (λw'=>?_) (hk _ ⟨b,off+ix.toNat * sz,cur,T',z,rfl,hb,λj u hj=>?_⟩ ⟨b,off,rfl,rfl⟩ _ _ (ha.Bl _ hd) hw);have hr:(Instr.indexAt TS (.slice (some ⟨b,off,none⟩) xs.length c) (.int kd ix)).run P w'=.ok (.pointer (some ⟨b,off+ix.toNat * sz,none⟩)) w':=by
   simp [Instr.indexAt,run_underlying h1,asIntOf,hi0,hi1,sizeOf,typeInfo,hif,hsz,addr_add]
  unfold execOp;simp only [ho,ha.eval hx,ha.eval hy,Sem.run_bind,hr,Result.andThen_ok,Sem.run_pure];rw [<- hE.at_ xs ix.toNat a hi2,List.getElem?_take] at hj;split at hj;rw [List.getElem?_drop] at hj;rw [Nat.add_assoc];exact hc _ u hj;cases hj
theorem Bkd {h:N} {p:Value} {us:List Value} {T:TypeId} {k off k0:Nat} {A':Option Addr} {x:Operand} (ho:o.op=.fieldAddr T x k) (hg:Ci ops env o=some true) (hd:inB n0 o.dst=true) (hx:BL env x=some p)
  (hT:(match P.underlying T with | some (.struct fs)=>(match fs[k]? with | some f=>(match (P.info? f.type).map (·.size) with | some (s+1)=>some f.offset | _=>none) | none=>none) | _=>none)=some off) (hE:Elem h p us) (hp:Place A' k0 p) (hk:∀ p',Elem h p' (us.drop off)->Place A' (k0+off) p'->K ds A n0 (Bl env o.dst p') l (BU P ops Q S tail pl)):K ds A n0 env l (BU P ops Q S tail ((o,0) :: pl)):=by
 intro a w ha hw;obtain ⟨b1,Mw,rfl,rfl⟩:=hp;obtain ⟨b,of_,cur,T',z,he,hb,hc⟩:=hE;cases he;split at hT;rename_i fs hfs;split at hT;rename_i f hf;split at hT;rename_i s hs;cases hT;cases hif:P.info? f.type with
 | none=>rw [hif] at hs;cases hs
 | some i =>
  rw [hif] at hs;have hsz:i.size=s+1:=Ao hs;refine DY (v:=.pointer (some ⟨b1,Mw+k0+f.offset,none⟩)) (Hk ha hg) (λw'=>?_) (hk _ ⟨b1,Mw+k0+f.offset,cur,T',z,rfl,hb,λj u hj=>?_⟩ ⟨b1,Mw,rfl,by rw [Nat.add_assoc]⟩ _ _ (ha.Bl _ hd) hw);have hr:(Instr.fieldAt T (.pointer (some ⟨b1,Mw+k0,none⟩)) k).run P w'=.ok (.pointer (some ⟨b1,Mw+k0+f.offset,none⟩)) w':=by
   simp [Instr.fieldAt,run_underlying hfs,hf,Instr.sureAddr,fieldPlace,sizeOf,typeInfo,hif,hsz,addr_add]
  unfold execOp;simp only [ho,ha.eval hx,Sem.run_bind,hr,Result.andThen_ok,Sem.run_pure];rw [List.getElem?_drop] at hj;rw [Nat.add_assoc];exact hc _ u hj
 cases hT;cases hT;cases hT
theorem Elem.cellS {h:N} {p:Value} {us:List Value} (he:Elem h p us) {w:World} (hw:h.On w):∃ a,p=.pointer (some a)/\∀ j u,us[j]? = some u->w.cell? (a.add j)=some u:=by
 obtain ⟨b,off,cur,T,z,rfl,hb,hc⟩:=he;refine ⟨_,rfl,λj u hj=>?_⟩;rw [addr_add];have:=hw b _ hb;simp [World.cell?,this,hc j u hj]
theorem LG {h:N} {p u:Value} {us:List Value} {T:TypeId} {x:Operand} (ho:o.op=.load T x) (hg:Ci ops env o=some true) (hd:inB n0 o.dst=true) (hx:BL env x=some p) (hT:(match P.underlying T with | some (.struct _)=>true | some (.array _ _)=>true | some _=>false | none=>true)=false) (hE:Elem h p (u :: us)) (hm:∀ w,S w->h.On w)
  (hk:K ds A n0 (Bl env o.dst u) l (BU P ops Q S tail pl)):K ds A n0 env l (BU P ops Q S tail ((o,3) :: pl)):=by
 intro a w ha hw;refine Gj (v:=u) (Hk ha hg) (λw' hw'=>?_) (hk _ _ (ha.Bl _ hd) hw);obtain ⟨ad,rfl,hc⟩:=hE.cellS (hm w' hw');have h0:=hc 0 u rfl;rw [show ad.add 0=ad from rfl] at h0;have hr:(Instr.loadAt T (.pointer (some ad))).run P w'=.ok u w':=by
  simp [Instr.loadAt,Instr.sureAddr,loadVar,Aug w' hT,load,Sem.run,h0]
 unfold execOp;simp only [ho,ha.eval hx,Sem.run_bind,hr,Result.andThen_ok,Sem.run_pure]
theorem Bki {h:N} {p:Value} {us:List Value} {T:TypeId} {x:Operand} (ho:o.op=.load T x) (hg:Ci ops env o=some true) (hd:inB n0 o.dst=true) (hx:BL env x=some p) (hT:(match P.underlying T with | some (.struct _)=>true | some (.array _ _)=>true | _=>false)=true) (hs:(P.info? T).map (·.size)=some us.length) (hE:Elem h p us) (hm:∀ w,S w->h.On w)
  (hk:K ds A n0 (Bl env o.dst (.agg us.toArray)) l (BU P ops Q S tail pl)):K ds A n0 env l (BU P ops Q S tail ((o,3) :: pl)):=by
 intro a w ha hw;refine Gj (v:=.agg us.toArray) (Hk ha hg) (λw' hw'=>?_) (hk _ _ (ha.Bl _ hd) hw);obtain ⟨ad,rfl,hc⟩:=hE.cellS (hm w' hw');cases hif:P.info? T with
 | none=>rw [hif] at hs;cases hs
 | some i =>
  rw [hif] at hs;have hsz:i.size=us.length:=Ao hs;have hr:(Instr.loadAt T (.pointer (some ad))).run P w'=.ok (.agg us.toArray) w':=by
   simp [Instr.loadAt,Instr.sureAddr,loadVar,At4 w' hT,sizeOf,typeInfo,hif,hsz,run_loadCells_list w' ad us hc]
  unfold execOp;simp only [ho,ha.eval hx,Sem.run_bind,hr,Result.andThen_ok,Sem.run_pure]
end
def eqF (P:Program) (xs ys:Array Value):List Field->Option Bool
 | []=>some true
 | f :: fs =>
  match f.name == "_",P.underlying f.type,xs[f.offset]?,ys[f.offset]? with
  | false,some (.int _),some (.int k a),some (.int k' b)=>(match decide (k=k') with | true=>(eqF P xs ys fs).map λr=>(a == b) && r | false=>none)
  | false,some .string,some (.string a),some (.string b)=>(eqF P xs ys fs).map λr=>(a.toList == b.toList) && r
  | false,some .bool,some (.bool a),some (.bool b)=>(eqF P xs ys fs).map λr=>(a == b) && r
  | _,_,_,_=>none
theorem RV {P:Program} {t:TypeId} (w:World) {cs:Array Value} {off:Nat} {v:Value} (ht:∀ fs,P.underlying t≠some (.struct fs)) (ha:∀ n e,P.underlying t≠some (.array n e)) (hd:(P.underlying t).isSome=true) (h:cs[off]? = some v):(part t cs off).run P w=.ok v w:=by
 unfold part isAgg;cases hq:P.underlying t with
 | none=>rw [hq] at hd;cases hd
 | some d =>
  cases d <;> first | exact absurd hq (ht _) | exact absurd hq (ha _ _) | simp [run_underlying hq,h]
theorem Vv {P:Program} {xs ys:Array Value} (d:Nat) (w:World):∀ (fs:List Field) (r:Bool),eqF P xs ys fs=some r->(Op.eqFields (d+1) xs ys fs).run P w=.ok r w
 | [],r,h=>by simp only [eqF,Option.some.injEq] at h;subst h;rfl
 | f :: fs,r,h=>by
  simp only [eqF] at h;split at h;rename_i k0 k a k' b hn hu hx hy;split at h;rename_i hk;have hk:=of_decide_eq_true hk;subst hk;obtain ⟨r',hr',rfl⟩:=Option.map_eq_some_iff.1 h;have hn:f.name≠ "_" :=by simpa using hn
  have h1:=RV (P:=P) (t:=f.type) w (by intro fs e;rw [hu] at e;cases e) (by intro n e' e;rw [hu] at e;cases e) (by rw [hu];rfl) hx;have h2:=RV (P:=P) (t:=f.type) w (by intro fs e;rw [hu] at e;cases e) (by intro n e' e;rw [hu] at e;cases e) (by rw [hu];rfl) hy;have h3:=run_equalIn_int (P:=P) w d f.type k k0 a b hu;have ih:=Vv d w fs r' hr';simp only [Op.eqFields,if_pos hn,Sem.run_bind,h1,h2,h3,Result.andThen_ok];cases hab:(a == b) with
  | true=>simp only [Bool.not_true,Bool.false_eq_true,if_false,Bool.true_and];exact ih
  | false=>simp only [Bool.not_false,if_true,Bool.false_and,Sem.run_pure]
  cases h;rename_i a b hn hu hx hy;obtain ⟨r',hr',rfl⟩:=Option.map_eq_some_iff.1 h;have hn:f.name≠ "_" :=by simpa using hn
  have h1:=RV (P:=P) (t:=f.type) w (by intro fs e;rw [hu] at e;cases e) (by intro n e' e;rw [hu] at e;cases e) (by rw [hu];rfl) hx;have h2:=RV (P:=P) (t:=f.type) w (by intro fs e;rw [hu] at e;cases e) (by intro n e' e;rw [hu] at e;cases e) (by rw [hu];rfl) hy;have h3:=run_equalIn_string (P:=P) w d f.type a b hu;have ih:=Vv d w fs r' hr';simp only [Op.eqFields,if_pos hn,Sem.run_bind,h1,h2,h3,Result.andThen_ok];cases hab:(a.toList == b.toList) with
  | true=>simp only [Bool.not_true,Bool.false_eq_true,if_false,Bool.true_and];exact ih
  | false=>simp only [Bool.not_false,if_true,Bool.false_and,Sem.run_pure]
  rename_i a b hn hu hx hy;obtain ⟨r',hr',rfl⟩:=Option.map_eq_some_iff.1 h;have hn:f.name≠ "_" :=by simpa using hn
  have h1:=RV (P:=P) (t:=f.type) w (by intro fs e;rw [hu] at e;cases e) (by intro n e' e;rw [hu] at e;cases e) (by rw [hu];rfl) hx;have h2:=RV (P:=P) (t:=f.type) w (by intro fs e;rw [hu] at e;cases e) (by intro n e' e;rw [hu] at e;cases e) (by rw [hu];rfl) hy;have h3:=run_equalIn_bool' (P:=P) w d f.type a b hu;have ih:=Vv d w fs r' hr';simp only [Op.eqFields,if_pos hn,Sem.run_bind,h1,h2,h3,Result.andThen_ok];cases hab:(a == b) with
  | true=>simp only [Bool.not_true,Bool.false_eq_true,if_false,Bool.true_and];exact ih
  | false=>simp only [Bool.not_false,if_true,Bool.false_and,Sem.run_pure]
  cases h
def Ya (P:Program) (t:TypeId):Option (List Field) :=
 match P.underlying t with
 | some (.struct fs)=>some fs.toList
 | _=>none
section
variable {A:World} {ds:List Deferred} {n:Nat} {env env':Env} {l l' X:List N} {q:Act->World->Prop} {P:Program} {Q:Exit->Act->World->Prop} {ops:Array Oper} {os rest:List Oper} {o:Oper}
theorem Bul {t:TypeId} {xs ys:Array Value} {r:Bool} {x y:Operand} {ty:TypeId} (hf:((Ya P t).bind (eqF P xs ys))=some r) (hp:P.stoodInHeld t=false) (hm:P.eqGuardType P.depth t=false) (w:World) :
  (Op.equal t (.agg xs) (.agg ys)).run P w=.ok r w:=by
 unfold Ya at hf;cases hu:P.underlying t with
 | none=>rw [hu] at hf;cases hf
 | some d =>
  rw [hu] at hf;cases d with
  | struct fs =>
   have hfs:P.fieldsOf t=fs:=by unfold Program.fieldsOf;rw [hu]
   have:=run_equalIn_struct (P:=P) w 9999 t xs ys (by rw [hfs];exact hu) hp;rw [hfs] at this;show (Op.equalIn 10000 t _ _).run P w=_;rw [this];exact Vv 9998 w fs.toList r hf
  | _=>cases hf
theorem PI {bo:BinOp} {t t2:TypeId} {xs ys:Array Value} {r:Bool} {x y:Operand} (neg:Bool) (hb:(match bo,neg with | .eql,false=>true | .neq,true=>true | _,_=>false)=true) (ho:o.op=.binOp bo t x y t2) (hg:Ci ops env o=some true) (hd:inB n o.dst=true) (hx:BL env x=some (.agg xs)) (hy:BL env y=some (.agg ys))
  (hp:P.stoodInHeld t=false) (hm:P.eqGuardType P.depth t=false) (hf:((Ya P t).bind (eqF P xs ys))=some r) (h:K ds A n (Bl env o.dst (.bool (cond neg (!r) r))) l (wpList P ops Q rest)):K ds A n env l (wpList P ops Q (o :: rest)) :=
 F1 hg λa w ha hw=>by
  have h1:=Bul (P:=P) (ty:=0) (x:=x) (y:=y) hf hp hm w;have h2:∀ bo,(eqGuard bo t x y (.agg xs) (.agg ys)).run P w=.ok () w:=λbo=>run_eqGuard_agg w bo t x y xs ys hm;unfold Oper.wp execOp;simp only [ho,ha.eval hx,ha.eval hy,Sem.run_bind,h2,Result.andThen_ok];split at hb;simp only [binOp,Sem.run_bind,h1,Result.andThen_ok,Sem.run_pure];exact h _ _ (ha.Bl _ hd) hw;simp only [binOp,Sem.run_bind,h1,Result.andThen_ok,Sem.run_pure];exact h _ _ (ha.Bl _ hd) hw;cases hb
def O1 (a b:Ah):Option Ah:=cond (decide (a.size+b.size<=9223372036854775807)) (some (a++b)) none
theorem ZJ {a b r:Ah} {t t2:TypeId} {x y:Operand} (ho:o.op=.binOp .add t x y t2) (hg:Ci ops env o=some true) (hd:inB n o.dst=true) (hx:BL env x=some (.string a)) (hy:BL env y=some (.string b)) (hc:O1 a b=some r)
  (h:K ds A n (Bl env o.dst (.string r)) l (wpList P ops Q rest)):K ds A n env l (wpList P ops Q (o :: rest)) :=
 F1 hg λac w ha hw=>by
  obtain ⟨h1,h2⟩:=Jv hc;cases h2;have h1:=of_decide_eq_true h1;have h3:¬ (((a.size+b.size:Nat):Int) > IntKind.i64.max):=by
   have:IntKind.i64.max=9223372036854775807:=by decide
   omega
  unfold Oper.wp execOp;simp only [ho,ha.eval hx,ha.eval hy,Sem.run_bind,eqGuard];simp only [binOp,Op.stringOp,if_neg h3];exact h _ _ (ha.Bl _ hd) hw
end
def N.or (f g:N):N:=λk=>match f k with | some o=>some o | none=>g k
theorem N.or_none (f:N):f.or none_=f:=by
 funext k
 unfold N.or none_;cases f k <;> rfl
theorem N.none_or (f:N):none_.or f=f:=rfl
theorem N.or_assoc (f g h:N):(f.or g).or h=f.or (g.or h):=by
 funext k
 unfold N.or;cases f k <;> rfl
theorem N.RK {f g:N} {k:Nat} {o:Obj} (h:f k=some o):(f.or g) k=some o:=by simp [N.or,h]
theorem N.W3 {f g:N} (ha:f.Apart g) {k:Nat} {o:Obj} (h:g k=some o):(f.or g) k=some o:=by
 rcases ha k with h' | h';simp [N.or,h',h];rw [h'] at h;cases h
theorem N.or_some {f g:N} {k:Nat} {o:Obj} (h:(f.or g) k=some o):f k=some o\/g k=some o:=by
 unfold N.or at h;split at h;rename_i o' ho;cases h;exact .inl ho;exact .inr h
theorem N.Apart.Nn {f g h:N} (h1:f.Apart h) (h2:g.Apart h):(f.or g).Apart h:=λk=>by
 rcases h1 k with e | e;rcases h2 k with e' | e';exact .inl (by simp [N.or,e,e']);exact .inr e';exact .inr e
theorem N.Apart.LO {f g h:N} (hfg:f.Apart g) (h1:(f.or g).Apart h):f.Apart h/\g.Apart h:=by
 refine ⟨λk=>?_,λk=>?_⟩;rcases h1 k with e | e;left;cases hf:f k with
 | none=>rfl
 | some o=>rw [N.RK hf] at e;cases e
 exact .inr e;rcases h1 k with e | e;left;cases hg:g k with
 | none=>rfl
 | some o=>rw [N.W3 hfg hg] at e;cases e
 exact .inr e
theorem N.Aal (f:N):none_.Apart f:=λ_=>.inl rfl
theorem N.A0c (f:N):f.Apart none_:=λ_=>.inr rfl
def N.In (f g:N):Prop:=∀ k o,f k=some o->g k=some o
theorem N.In.refl (f:N):f.In f:=λ_ _ h=>h
theorem N.In.trans {f g h:N} (h1:f.In g) (h2:g.In h):f.In h:=λk o e=>h2 k o (h1 k o e)
theorem N.Tm (f g:N):f.In (f.or g):=λ_ _ h=>N.RK h
theorem N.Ra {f g:N} (h:f.Apart g):g.In (f.or g):=λ_ _ e=>N.W3 h e
theorem Sat.Ar1 {f g:N} {l:List N} {w:World} (ha:f.Apart g):Sat (f.or g :: l) w ↔ Sat (f :: g :: l) w:=by
 constructor;rintro ⟨h1,h2,h3⟩;refine ⟨λk o e=>h1 k o (N.RK e),λx hx=>?_,λk o e=>h1 k o (N.W3 ha e),λx hx=>(N.Apart.LO ha (h2 x hx)).2,h3⟩;rcases List.mem_cons.1 hx with rfl | hx;exact ha;exact (N.Apart.LO ha (h2 x hx)).1;rintro ⟨h1,h2,h3,h4,h5⟩;refine ⟨λk o e=>(N.or_some e).elim (h1 k o) (h3 k o),λx hx=>(h2 x (EM _ hx)).Nn (h4 x hx),h5⟩
theorem St.join {A w:World} {f g:N} {l:List N} (h:St A (f :: g :: l) w):f.Apart g/\St A (f.or g :: l) w:=by
 have ha:=h.sat.2.1 g (DT ..);exact ⟨ha,(Sat.Ar1 ha).2 h.sat,h.os,h.tape,h.output,h.size⟩
theorem St.split {A w:World} {f g:N} {l:List N} (ha:f.Apart g) (h:St A (f.or g :: l) w):St A (f :: g :: l) w:=⟨(Sat.Ar1 ha).1 h.sat,h.os,h.tape,h.output,h.size⟩
structure Gn (α:Type) where
 sz:Nat
 own:α->N->List Value->Prop
 rd:α->N->List Value->Prop
 len:∀ {x H cs},own x H cs->cs.length=sz/\∀ u ∈ cs,u.oneCell'=true
 lenr:∀ {x H cs},rd x H cs->cs.length=sz/\∀ u ∈ cs,u.oneCell'=true
 U7:∀ {x H H' cs},own x H cs->H.In H'->rd x H' cs
section
variable {α:Type} (R:Gn α)
def B7:List α->N->List Value->Prop
 | [],_,cs=>cs=[]
 | x :: l,H,cs=>∃ H1 H2 c1 c2,H=H1.or H2/\H1.Apart H2/\cs=c1++c2/\R.own x H1 c1/\B7 l H2 c2
def GM:List α->N->List Value->Prop
 | [],_,cs=>cs=[]
 | x :: l,H,cs=>∃ c1 c2,cs=c1++c2/\R.rd x H c1/\GM l H c2
variable {R}
theorem B7.U7:∀ {l:List α} {H H':N} {cs:List Value},B7 R l H cs->H.In H'->GM R l H' cs
 | [],_,_,_,h,_=>h
 | x :: l,_,H',_,⟨H1,H2,c1,c2,rfl,ha,rfl,h1,h2⟩,hi=>⟨c1,c2,rfl,R.U7 h1 ((N.Tm H1 H2).trans hi),h2.U7 ((N.Ra ha).trans hi)⟩
theorem B7.len:∀ {l:List α} {H:N} {cs:List Value},B7 R l H cs->cs.length=l.length * R.sz/\∀ u ∈ cs,u.oneCell'=true
 | [],_,_,h=>by cases h;simp
 | x :: l,_,_,⟨H1,H2,c1,c2,_,_,rfl,h1,h2⟩=>by
  obtain ⟨e1,e2⟩:=R.len h1;obtain ⟨e3,e4⟩:=h2.len;refine ⟨by rw [BT,e1,e3,AX,Nat.add_mul,Nat.one_mul,Nat.add_comm],λu hu=>(EL.1 hu).elim (e2 u) (e4 u)⟩
theorem GM.len:∀ {l:List α} {H:N} {cs:List Value},GM R l H cs->cs.length=l.length * R.sz/\∀ u ∈ cs,u.oneCell'=true
 | [],_,_,h=>by cases h;simp
 | x :: l,_,_,⟨c1,c2,rfl,h1,h2⟩=>by
  obtain ⟨e1,e2⟩:=R.lenr h1;obtain ⟨e3,e4⟩:=h2.len;refine ⟨by rw [BT,e1,e3,AX,Nat.add_mul,Nat.one_mul,Nat.add_comm],λu hu=>(EL.1 hu).elim (e2 u) (e4 u)⟩
theorem B7.one {x:α} {H:N} {cs:List Value} (h:R.own x H cs):B7 R [x] H cs:=⟨H,none_,cs,[],(N.or_none H).symm,N.A0c H,(List.append_nil _).symm,h,rfl⟩
theorem B7.cons {x:α} {l:List α} {H1 H2:N} {c1 c2:List Value} (h:R.own x H1 c1) (ha:H1.Apart H2) (hr:B7 R l H2 c2):B7 R (x :: l) (H1.or H2) (c1++c2):=⟨H1,H2,c1,c2,rfl,ha,rfl,h,hr⟩
theorem B7.append:∀ {l m:List α} {H1 H2:N} {c1 c2:List Value},B7 R l H1 c1->B7 R m H2 c2->H1.Apart H2->∃ H,B7 R (l++m) H (c1++c2)/\∀ f,(H1.or H2).Apart f->H.Apart f/\H.In (H1.or H2)
 | [],m,H1,H2,c1,c2,h1,h2,ha=>by cases h1;exact ⟨H2,h2,λf hf=>⟨(N.Apart.LO ha hf).2,N.Ra ha⟩⟩
 | x :: l,m,_,H2,_,c2,⟨K1,K2,d1,d2,rfl,hk,rfl,g1,g2⟩,h2,ha=>by
  obtain ⟨a1,a2⟩:=N.Apart.LO hk ha;obtain ⟨H,hH,hf⟩:=B7.append g2 h2 a2;have hka:=hf K1 ((hk.symm).Nn a1.symm);refine ⟨K1.or H,⟨K1,H,d1,d2++c2,rfl,hka.1.symm,by rw [C8],g1,hH⟩,λf hff=>?_⟩;rw [N.or_assoc] at hff ⊢;have hk2:K1.Apart (K2.or H2):=((hk.symm).Nn a1.symm).symm;obtain ⟨b1,b2⟩:=N.Apart.LO hk2 hff;refine ⟨b1.Nn (hf f b2).1,λk o e=>?_⟩;rcases N.or_some e with e | e;exact N.RK e;exact N.W3 hk2 ((hf f b2).2 k o e)
theorem B7.append' {l m:List α} {H1 H2:N} {c1 c2:List Value} (h1:B7 R l H1 c1) (h2:B7 R m H2 c2) (ha:H1.Apart H2):B7 R (l++m) (H1.or H2) (c1++c2):=by
 induction l generalizing H1 c1 with
 | nil =>
  cases h1;cases m with
  | nil=>exact h2
  | cons y m =>
   obtain ⟨K1,K2,d1,d2,rfl,hk,rfl,g1,g2⟩:=h2
   -- nothing is asked of H1: it goes with the last of the elements
   refine ⟨K1,H1.or K2,d1,d2,?_,?_,rfl,g1,?_⟩;obtain ⟨b1,b2⟩:=N.Apart.LO hk ha.symm
   funext k
   rcases b1 k with e | e;simp [N.or,e];cases h:K1 k <;> simp [N.or,e,h];obtain ⟨b1,b2⟩:=N.Apart.LO hk ha.symm;exact ((b1.symm).Nn hk.symm).symm;have:∀ {l:List α} {H H1:N} {c:List Value},B7 R l H c->H1.Apart H->B7 R l (H1.or H) c:=by
    intro l;induction l with
    | nil=>intro H H1 c h _;exact h
    | cons z l ih =>
     intro H H1 c h hap;obtain ⟨L1,L2,e1,e2,rfl,hl,rfl,f1,f2⟩:=h;obtain ⟨b1,b2⟩:=N.Apart.LO hl hap.symm;refine ⟨L1,H1.or L2,e1,e2,?_,((b1.symm).Nn hl.symm).symm,rfl,f1,ih f2 b2.symm⟩
     funext k
     rcases b1 k with e | e;simp [N.or,e];cases h:L1 k <;> simp [N.or,e,h]
   exact this g2 (N.Apart.LO hk ha.symm).2.symm
 | cons x l ih =>
  obtain ⟨K1,K2,d1,d2,rfl,hk,rfl,g1,g2⟩:=h1;obtain ⟨a1,a2⟩:=N.Apart.LO hk ha;exact ⟨K1,K2.or H2,d1,d2++c2,N.or_assoc ..,((hk.symm).Nn a1.symm).symm,by rw [C8],g1,ih g2 a2⟩
theorem GM.at_:∀ {l:List α} {H:N} {cs:List Value},GM R l H cs->∀ (k:Nat) (x:α),l[k]? = some x->R.rd x H ((cs.drop (k * R.sz)).take R.sz)
 | y :: l,H,_,⟨c1,c2,rfl,h1,h2⟩,0,x,hx=>by
  simp only [List.getElem?_cons_zero,Option.some.injEq] at hx;subst hx;rw [Nat.zero_mul,List.drop_zero,<- (R.lenr h1).1,List.take_left];exact h1
 | y :: l,H,_,⟨c1,c2,rfl,h1,h2⟩,k+1,x,hx=>by
  rw [List.getElem?_cons_succ] at hx;rw [Nat.add_mul,Nat.one_mul,Nat.add_comm,<- List.drop_drop,show (c1++c2).drop R.sz=c2 by rw [<- (R.lenr h1).1,List.drop_left]];exact h2.at_ k x hx
theorem GM.drop:∀ {l:List α} {H:N} {cs:List Value} (k:Nat),GM R l H cs->GM R (l.drop k) H (cs.drop (k * R.sz))
 | l,H,cs,0,h=>by simpa using h
 | [],H,cs,k+1,h=>by cases h;simp [GM]
 | y :: l,H,_,k+1,⟨c1,c2,rfl,h1,h2⟩=>by
  rw [List.drop_succ_cons,Nat.add_mul,Nat.one_mul,Nat.add_comm,<- List.drop_drop,show (c1++c2).drop R.sz=c2 by rw [<- (R.lenr h1).1,List.drop_left]];exact h2.drop k
theorem GM.take:∀ {l:List α} {H:N} {cs:List Value} (k:Nat),GM R l H cs->GM R (l.take k) H (cs.take (k * R.sz))
 | l,H,cs,0,h=>by simp [GM]
 | [],H,cs,k+1,h=>by cases h;simp [GM]
 | y :: l,H,_,k+1,⟨c1,c2,rfl,h1,h2⟩=>by
  rw [List.take_succ_cons,Nat.add_mul,Nat.one_mul,Nat.add_comm,<- (R.lenr h1).1,List.take_length_add_append,(R.lenr h1).1];exact ⟨c1,_,rfl,h1,h2.take k⟩
variable (R)
def AM (T:TypeId) (h:N) (v:Value) (l:List α):Prop:=∃ Ho Hi cs,h=Ho.or Hi/\Ho.Apart Hi/\Own T R.sz Ho v l.length cs/\B7 R l Hi cs
def RdR (h:N) (v:Value) (l:List α):Prop:=∃ cs,Rd R.sz h v l.length cs/\GM R l h cs
variable {R}
theorem Rd.mono {sz:Nat} {h h':N} {v:Value} {n:Nat} {cs:List Value} (hr:Rd sz h v n cs) (hi:h.In h'):Rd sz h' v n cs:=by
 obtain ⟨h1,h2,h3⟩:=hr;refine ⟨h1,h2,?_⟩;rcases h3 with h3 | ⟨b,off,cap,cur,T,z,h4,h5,h6⟩;exact .inl h3;exact .inr ⟨b,off,cap,cur,T,z,h4,hi _ _ h5,h6⟩
theorem AM.Bt4 {T:TypeId} {h h':N} {v:Value} {l:List α} (ho:AM R T h v l) (hi:h.In h'):RdR R h' v l:=by
 obtain ⟨Ho,Hi,cs,rfl,ha,h1,h2⟩:=ho;exact ⟨cs,h1.rd.mono ((N.Tm Ho Hi).trans hi),h2.U7 ((N.Ra ha).trans hi)⟩
theorem AM.rd {T:TypeId} {h:N} {v:Value} {l:List α} (ho:AM R T h v l):RdR R h v l:=ho.Bt4 (.refl _)
theorem AM.nil (R:Gn α) (T:TypeId) (h:N):AM R T h (.slice none 0 0) []:=⟨none_,h,[],rfl,N.Aal h,Own.nil T R.sz none_,rfl⟩
theorem RdR.nil (R:Gn α) (h:N):RdR R h (.slice none 0 0) []:=(AM.nil R 0 h).rd
theorem AM.val {T:TypeId} {h:N} {v:Value} {l:List α} (ho:AM R T h v l):∃ a c,v=.slice a l.length c:=by
 obtain ⟨_,_,_,_,_,h1,_⟩:=ho;exact h1.val
theorem RdR.val {h:N} {v:Value} {l:List α} (ho:RdR R h v l):∃ a c,v=.slice a l.length c:=by
 obtain ⟨_,h1,_⟩:=ho;exact h1.val
end
section
variable {A:World} {ds:List Deferred} {n0:Nat} {env env':Env} {l l' X:List N} {q:Act->World->Prop} {P:Program} {Q:Exit->Act->World->Prop} {ops:Array Oper} {os rest:List Oper} {o:Oper} {α:Type} {R:Gn α}
theorem GR {f g:N} (h:f.Apart g->K ds A n0 env (f.or g :: l) q):K ds A n0 env (f :: g :: l) q:=λa w ha hw=>h hw.join.1 a w ha hw.join.2
theorem Rp {f g:N} (ha':f.Apart g) (h:K ds A n0 env (f :: g :: l) q):K ds A n0 env (f.or g :: l) q:=λa w ha hw=>h a w ha (hw.split ha')
theorem Cr {b n:Nat} {T:TypeId} {cs:List Value} {ca:Array Value} {H:N} {xs:List α} (hr:B7 R xs H cs) (hc:cs.toArray=ca) (hn:xs.length=n) (hm:n<=maxLen) (hk:∀ h,AM R T h (.slice (some ⟨b,0,none⟩) n n) xs->K ds A n0 env (h :: l) q) :
  K ds A n0 env (blk b (.cells ca T (0,0)) :: H :: l) q:=by
 subst hc hn;refine GR λha=>hk _ ⟨_,H,cs,rfl,ha,Own.blk T R.sz b _ cs hr.len.1 (List.all_eq_true.2 hr.len.2) hm,hr⟩
theorem Bjk {T TS U:TypeId} {sz bytes:Nat} {i:TypeInfo} {z:Value} {h hy:N} {v y:Value} {xs ys xs':List α} {s x:Operand} (ho:o.op=.call { callee:=.builtin .append,args:=#[s,x],argTypes:=#[TS,U] })
  (he:FG P TS T sz bytes i z) (hsz:sz=R.sz) (hg:Ci ops env o=some true) (hd:inB n0 o.dst=true) (hs:BL env s=some v) (hx:BL env x=some y) (hu:KZ P U=true) (hap:apd bytes xs ys=some xs') (hO:AM R T h v xs) (hY:AM R T hy y ys)
  (hk:∀ h' a' c',AM R T h' (.slice a' xs'.length c') xs'->K ds A n0 (Bl env o.dst (.slice a' xs'.length c')) (h' :: l) (wpList P ops Q rest)):K ds A n0 env (h :: hy :: l) (wpList P ops Q (o :: rest)):=by
 subst hsz;obtain ⟨hb,rfl⟩:=X3 hap;obtain ⟨Ho,Hi,cs,rfl,ha,h1,h2⟩:=hO;obtain ⟨Yo,Yi,ds,rfl,hya,h3,h4⟩:=hY;refine Rp ha ?_;refine Ay (Rp hya ?_)
 -- Yo :: Yi :: Ho :: Hi :: l
 refine K.perm (l':=Ho :: Yo :: Hi :: Yi :: l) ?_ ?_
 ·refine Aox ho he hg hd hs hx hu h1 (λw hw=>Rd.src h3.rd hw (.tail _ (.head _))) h4.len.1 h4.len.2 hb λh' v' hO'=>?_
  refine Al (Ar ?_);refine Ay (Ay (GR λha2=>Al (GR λha3=>?_)));have hN:AM R T (h'.or (Hi.or Yi)) v' (xs++ys):=⟨h',_,cs++ds,rfl,ha3,by rw [BT];exact hO',h2.append' h4 ha2⟩;obtain ⟨a',c',rfl⟩:=hN.val;exact hk _ a' c' hN
 ·have p1:(Yo :: Yi :: Ho :: Hi :: l).Perm (Ho :: Yo :: Yi :: Hi :: l):=((List.Perm.swap Ho Yi (Hi :: l)).cons Yo).trans (List.Perm.swap Ho Yo (Yi :: Hi :: l))
  exact p1.trans (((List.Perm.swap Hi Yi l).cons Yo).cons Ho)
theorem Bjr {xs:List α} {a:α} {ix:Int} {kd:IntKind} {h:N} {A':AD} {c:Nat} {T TS:TypeId} {x y:Operand} (ho:o.op=.indexAddr TS x y) (hg:Ci ops env o=some true) (hd:inB n0 o.dst=true) (hx:BL env x=some (.slice A' xs.length c)) (hy:BL env y=some (.int kd ix))
  (h1:P.underlying TS=some (.slice T)) (h2:(P.info? T).map (·.size)=some R.sz) (hi:B5 xs ix=some a) (hR:RdR R h (.slice A' xs.length c) xs) (hk:∀ p us,R.rd a h us->Elem h p us->Place A' (ix.toNat * R.sz) p->K ds A n0 (Bl env o.dst p) l (wpList P ops Q rest)):K ds A n0 env l (wpList P ops Q (o :: rest)):=by
 refine F1 hg λa' w ha hw=>?_;obtain ⟨hi0,hi1,hi2⟩:=Mt hi;obtain ⟨cs,⟨hl,_,hc⟩,hrow⟩:=hR;cases hif:P.info? T with
 | none=>rw [hif] at h2;cases h2
 | some i =>
  rw [hif] at h2;have hsz:i.size=R.sz:=Ao h2;rcases hc with ⟨_,h0⟩ | ⟨b,off,cap,cur,T',z,he,hb,_,_,hc⟩;omega;cases he;have hr:(Instr.indexAt TS (.slice (some ⟨b,off,none⟩) xs.length c) (.int kd ix)).run P w=.ok (.pointer (some ⟨b,off+ix.toNat * R.sz,none⟩)) w:=by
   simp [Instr.indexAt,run_underlying h1,asIntOf,hi0,hi1,sizeOf,typeInfo,hif,hsz,addr_add]
  unfold Oper.wp execOp;simp only [ho,ha.eval hx,ha.eval hy,Sem.run_bind,hr,Result.andThen_ok,Sem.run_pure];refine hk _ _ (hrow.at_ ix.toNat a hi2) ⟨b,off+ix.toNat * R.sz,cur,T',z,rfl,hb,λj u hj=>?_⟩ ⟨b,off,rfl,rfl⟩ _ _ (ha.Bl _ hd) hw;rw [List.getElem?_take] at hj;split at hj;rw [List.getElem?_drop] at hj;rw [Nat.add_assoc];exact hc _ u hj;cases hj
end
inductive Tree where
 | mk (kind:Int) (text:Ah) (n at_:Int) (kids:List Tree)
def Tree.kind:Tree->Int | .mk k _ _ _ _=>k
def Tree.text:Tree->Ah | .mk _ t _ _ _=>t
def Tree.n:Tree->Int | .mk _ _ n _ _=>n
def Tree.at_:Tree->Int | .mk _ _ _ a _=>a
def Tree.kids:Tree->List Tree | .mk _ _ _ _ l=>l
section
variable (T:TypeId)
mutual
def O6:Tree->N->List Value->Prop
 | .mk k t n a l,H,cs=>∃ A c,cs=[.int .i64 k,.string t,.int .i64 n,.int .i64 a,.slice A l.length c]/\∃ Ho Hi ds,H=Ho.or Hi/\Ho.Apart Hi/\Own T 5 Ho (.slice A l.length c) l.length ds/\O7 l Hi ds
def O7:List Tree->N->List Value->Prop
 | [],_,cs=>cs=[]
 | x :: l,H,cs=>∃ H1 H2 c1 c2,H=H1.or H2/\H1.Apart H2/\cs=c1++c2/\O6 x H1 c1/\O7 l H2 c2
end
mutual
def Mb:Tree->N->List Value->Prop
 | .mk k t n a l,H,cs=>∃ A c,cs=[.int .i64 k,.string t,.int .i64 n,.int .i64 a,.slice A l.length c]/\∃ ds,Rd 5 H (.slice A l.length c) l.length ds/\Lk l H ds
def Lk:List Tree->N->List Value->Prop
 | [],_,cs=>cs=[]
 | x :: l,H,cs=>∃ c1 c2,cs=c1++c2/\Mb x H c1/\Lk l H c2
end
mutual
theorem Av8:∀ (x:Tree) {H H':N} {cs:List Value},O6 T x H cs->H.In H'->Mb x H' cs
 | .mk k t n a l,H,H',cs,h,hi=>by
  simp only [O6] at h;obtain ⟨A,c,rfl,Ho,Hi,ds,rfl,ha,h1,h2⟩:=h;simp only [Mb];exact ⟨A,c,rfl,ds,h1.rd.mono ((N.Tm Ho Hi).trans hi),Awa l h2 ((N.Ra ha).trans hi)⟩
theorem Awa:∀ (l:List Tree) {H H':N} {cs:List Value},O7 T l H cs->H.In H'->Lk l H' cs
 | [],H,H',cs,h,hi=>by simp only [O7] at h;simp only [Lk];exact h
 | x :: l,H,H',cs,h,hi=>by
  simp only [O7] at h;obtain ⟨H1,H2,c1,c2,rfl,ha,rfl,h1,h2⟩:=h;simp only [Lk];exact ⟨c1,c2,rfl,Av8 x h1 ((N.Tm H1 H2).trans hi),Awa l h2 ((N.Ra ha).trans hi)⟩
end
theorem Bwl {x:Tree} {H:N} {cs:List Value} (h:O6 T x H cs):cs.length=5/\∀ u ∈ cs,u.oneCell'=true:=by
 cases x;simp only [O6] at h;obtain ⟨A,c,rfl,_⟩:=h;exact ⟨rfl,List.all_eq_true.1 rfl⟩
theorem Bwm {x:Tree} {H:N} {cs:List Value} (h:Mb x H cs):cs.length=5/\∀ u ∈ cs,u.oneCell'=true:=by
 cases x;simp only [Mb] at h;obtain ⟨A,c,rfl,_⟩:=h;exact ⟨rfl,List.all_eq_true.1 rfl⟩
def AQ:Gn Tree:=⟨5,O6 T,Mb,Bwl T,Bwm,λh hi=>Av8 T _ h hi⟩
theorem Adm:∀ (l:List Tree) {H:N} {cs:List Value},O7 T l H cs ↔ B7 (AQ T) l H cs
 | [],_,_=>by simp only [O7,B7]
 | x :: l,H,cs=>by
  simp only [O7,B7];constructor;rintro ⟨H1,H2,c1,c2,e1,e2,e3,h1,h2⟩;exact ⟨H1,H2,c1,c2,e1,e2,e3,h1,(Adm l).1 h2⟩;rintro ⟨H1,H2,c1,c2,e1,e2,e3,h1,h2⟩;exact ⟨H1,H2,c1,c2,e1,e2,e3,h1,(Adm l).2 h2⟩
theorem U8:∀ (l:List Tree) {H:N} {cs:List Value},Lk l H cs ↔ GM (AQ T) l H cs
 | [],_,_=>by simp only [Lk,GM]
 | x :: l,H,cs=>by
  simp only [Lk,GM];constructor;rintro ⟨c1,c2,e3,h1,h2⟩;exact ⟨c1,c2,e3,h1,(U8 l).1 h2⟩;rintro ⟨c1,c2,e3,h1,h2⟩;exact ⟨c1,c2,e3,h1,(U8 l).2 h2⟩
theorem Cl {k n a:Int} {t:Ah} {l:List Tree} {H:N} {A:Option Addr} {c:Nat} (h:AM (AQ T) T H (.slice A l.length c) l) :
  (AQ T).own (.mk k t n a l) H [.int .i64 k,.string t,.int .i64 n,.int .i64 a,.slice A l.length c]:=by
 obtain ⟨Ho,Hi,ds,h1,h2,h3,h4⟩:=h;show O6 T _ _ _;simp only [O6];exact ⟨A,c,rfl,Ho,Hi,ds,h1,h2,h3,(Adm T l).2 h4⟩
theorem Eu {x:Tree} {H:N} {cs:List Value} (h:(AQ T).rd x H cs):∃ A c,cs=[.int .i64 x.kind,.string x.text,.int .i64 x.n,.int .i64 x.at_,.slice A x.kids.length c]/\RdR (AQ T) H (.slice A x.kids.length c) x.kids:=by
 cases x with
 | mk k t n a l =>
  have h:Mb _ _ _:=h;simp only [Mb] at h;obtain ⟨A,c,rfl,ds,h1,h2⟩:=h;exact ⟨A,c,rfl,ds,h1,(U8 T l).1 h2⟩
end
inductive PR (α:Type) (ε:Type:=Int) where
 | ok (a:α)
 | bad (at_:ε)
def PR.bind {α β ε:Type} (x:Option (PR α ε)) (f:α->Option (PR β ε)):Option (PR β ε) :=
 match x with
 | none=>none
 | some (.ok a)=>f a
 | some (.bad i)=>some (.bad i)
theorem Asj {α β ε:Type} {x:Option (PR α ε)} {f:α->Option (PR β ε)} {r:PR β ε} (h:PR.bind x f=some r):(∃ i,x=some (.bad i)/\r=.bad i)\/∃ a,x=some (.ok a)/\f a=some r:=by
 unfold PR.bind at h;split at h;cases h;exact .inr ⟨_,rfl,h⟩;exact .inl ⟨_,rfl,(Ao h).symm⟩
def PR.Post {α ε:Type} (fl:ε->Value) (Ae:α->Ending->List N->Prop):PR α ε->Ending->List N->Prop
 | .ok a,e,l1=>Ae a e l1
 | .bad i,e,l1=>e=.panicked [{ v:=fl i,recovered:=false }]/\l1=[]
theorem PR.okI {α ε:Type} {fl:ε->Value} {Ae:α->Ending->List N->Prop} {a:α} {e:Ending} {l1:List N} (h:Ae a e l1):PR.Post fl Ae (.ok a) e l1:=h
theorem PR.Agm {α ε:Type} {fl:ε->Value} {Ae:α->Ending->List N->Prop} {i:ε}:PR.Post fl Ae (.bad i) (.panicked [{ v:=fl i,recovered:=false }]) []:=⟨rfl,rfl⟩
theorem Wp {A:World} {ds:List Deferred} {n0:Nat} {env:Env} {d:Option Nat} {X:List N} {next:Act->World->Prop} {Q:Exit->Act->World->Prop} {c:List PanicEntry} {l1:List N} (h:K ds A n0 env (l1++X) (Q (.panic c))):Nx ds A n0 env d X next Q (.panicked c) l1:=h
section
variable {ds:List Deferred} {A:World} {n:Nat} {env env':Env} {l l' X:List N} {q:Act->World->Prop} {P:Program} {Q:Exit->Act->World->Prop} {ops:Array Oper} {os rest:List Oper} {o:Oper}
theorem Ahx {f:FuncId} {fn:Func} {c:Code} {args:List Value} {l0 hs:List N} {R:Ending->List N->Prop} (hf:P.funcs[f]? = some fn) (hb:fn.body=some c) (ha:args.length<=fn.ntmps)
  (h:∀ A X,IX hs X->K [] A fn.ntmps (S8 0 args) (l0++X) (c.wp P (bodyPostD P fn λe w'=>∃ l1,R e l1/\St A (l1++X) w'))):Ct P f args.toArray l0 hs R:=λA w X hh hw=>by
 refine calls_of_wp_defers hf hb (h A X hh _ w ⟨?_,rfl,λi v hi=>?_⟩ hw);simp;omega;have:=X4 0 args i v hi;simp only [Nat.sub_zero] at this;have hlt:=(List.getElem?_eq_some_iff.1 this.2).1;simp only [Array.getD_eq_getD_getElem?];rw [Array.getElem?_append_left (by simpa using hlt)];simp [this.2]
theorem Aoz (d:Deferred) (hg:Ci ops env o=some true) (hs:(DC o.op && allB o.op.operands.toList env && inB n o.dst)=true) (hp:FZ P (execOp (rho env) o)=some (.defer d)) (h:K (d :: ds) A n (Bl env o.dst undef) l (wpList P ops Q rest)):K ds A n env l (wpList P ops Q (o :: rest)) :=
 F1 hg λa w ha hw=>by
  simp only [Bool.and_eq_true] at hs;unfold Oper.wp;rw [execOp_congr a.eval (rho env) o hs.1.1 (ha.rho hs.1.2),RO hp];have ha':Holds (d :: ds) n env { a with defers:=d :: a.defers }:=⟨ha.size,by rw [ha.defers],ha.at_⟩;exact h _ _ (ha'.Bl undef hs.2) hw
theorem Aot {fn:Func} {R:Ending->List N->Prop} {v:Value} (vs:List Orc) (es:List Ev) (l1:List N) (hr:hasAll fn.results.toList env=true) (hf:follow P (Lg fn.results (Lh env)) vs=some (v,es)) (hl:JS l es)
  (hk:K [] A n env l λ_ w=>R (.returned v) l1/\St A (l1++X) w):K [] A n env l (bodyPostD P fn (λe w'=>∃ l1,R e l1/\St A (l1++X) w') .ret):=λa w ha hw=>by
 show Leaves P fn a.tmps _ a.defers .returning w;rw [ha.defers];exact ⟨v,by rw [results_eq,WO ha hr];exact Jy hf (hl.evs hw),l1,hk a w ha hw⟩
theorem Aos {fn:Func} {R:Ending->List N->Prop} {v:Value} {fv:Fn} {cap dargs:Array Value} {f:FuncId} {args:Array Value} (hi:∀ w,(invoke (.fn fv cap) dargs).run P w=.ok (.enter f args) w) (hidle:∀ w,CallsD P f args .returning w λe u' w'=>e=.returned (.tuple #[])/\u'=.returning/\w=w')
  (vs:List Orc) (es:List Ev) (l1:List N) (hr:hasAll fn.results.toList env=true) (hf:follow P (Lg fn.results (Lh env)) vs=some (v,es)) (hl:JS l es)
  (hk:K [{ target:=.fn fv cap,args:=dargs }] A n env l λ_ w=>R (.returned v) l1/\St A (l1++X) w):K [{ target:=.fn fv cap,args:=dargs }] A n env l (bodyPostD P fn (λe w'=>∃ l1,R e l1/\St A (l1++X) w') .ret):=λa w ha hw=>by
 show Leaves P fn a.tmps _ a.defers .returning w;rw [ha.defers];refine leaves_cons (by simp) (hi w) ((hidle w).mono ?_);rintro e u' w' ⟨rfl,rfl,rfl⟩;exact ⟨v,by rw [results_eq,WO ha hr];exact Jy hf (hl.evs hw),l1,hk a w ha hw⟩
theorem VS {fn:Func} {R:Ending->List N->Prop} {v:Value} {fv:Fn} {cap dargs:Array Value} {f:FuncId} {args:Array Value} {c:List PanicEntry} (l':List N) (hi:∀ w,(invoke (.fn fv cap) dargs).run P w=.ok (.enter f args) w)
  (Bcz:∀ w,St A l w->CallsD P f args (.panicking c) w λe u' w'=>e=.returned (.tuple #[])/\settle u'=.returning/\St A l' w')
  (vs:List Orc) (es:List Ev) (l1:List N) (hr:hasAll fn.results.toList env=true) (hf:follow P (Lg fn.results (Lh env)) vs=some (v,es)) (hl:JS l' es)
  (hk:∀ w,St A l' w->R (.returned v) l1/\St A (l1++X) w):K [{ target:=.fn fv cap,args:=dargs }] A n env l (bodyPostD P fn (λe w'=>∃ l1,R e l1/\St A (l1++X) w') (.panic c)):=λa w ha hw=>by
 show Leaves P fn a.tmps _ a.defers (.panicking c) w;rw [ha.defers];refine leaves_cons (by simp) (hi w) ((Bcz w hw).mono ?_);rintro e u' w' ⟨rfl,hu,hw'⟩;show Leaves P fn a.tmps _ [] (settle u') w';rw [hu];exact ⟨v,by rw [results_eq,WO ha hr];exact Jy hf (hl.evs hw'),l1,hk w' hw'⟩
theorem Aov {R:Prop} (h:R):K ds A n env l λ_ w=>R/\St A l w:=λ_ _ _ hw=>⟨h,hw⟩
def Af4 (Q:Exit->Act->World->Prop):Exit->Act->World->Prop
 | .panic _,_,_=>False
 | .normal,a,w=>Q .normal a w
 | .exit id,a,w=>Q (.exit id) a w
 | .goto l,a,w=>Q (.goto l) a w
 | .ret,a,w=>Q .ret a w
 | .outgrown,a,w=>Q .outgrown a w
theorem ZH {c:Code} (h:K ds A n env l (c.wp P (Af4 Q))):K ds A n env l (c.wp P Q):=λa w ha hw =>
 wp_mono (h a w ha hw) λe a w h=>by
  cases e with
  | panic c=>exact h.elim
  | normal=>exact h
  | exit id=>exact h
  | goto l=>exact h
  | ret=>exact h
  | outgrown=>exact h
theorem ZI (h:K ds A n env l (Q .normal)):K ds A n env l (Af4 Q .normal):=h
end
def PR.elim {α β ε:Type} (x:Option (PR α ε)) (f:ε->Option β) (g:α->Option β):Option β :=
 match x with
 | none=>none
 | some (.ok a)=>g a
 | some (.bad i)=>f i
theorem WD {α β ε:Type} {x:Option (PR α ε)} {f:ε->Option β} {g:α->Option β} {r:β} (h:PR.elim x f g=some r):(∃ i,x=some (.bad i)/\f i=some r)\/∃ a,x=some (.ok a)/\g a=some r:=by
 unfold PR.elim at h;split at h;cases h;exact .inr ⟨_,rfl,h⟩;exact .inl ⟨_,rfl,h⟩
def EC (x:Int×Ah×Int×Int):List Value:=[.int .i64 x.1,.string x.2.1,.int .i64 x.2.2.1,.int .i64 x.2.2.2]
theorem Vu:EA EC 4:=⟨λ_=>rfl,λ_=>rfl⟩
def Fl {α:Type} (l:List α) (lo hi:Int):Option (List α):=cond (decide (0<=lo/\lo<=hi/\hi<=l.length)) (some ((l.drop lo.toNat).take (hi.toNat - lo.toNat))) none
section
variable {A:World} {ds:List Deferred} {n:Nat} {env env':Env} {l l' X:List N} {q:Act->World->Prop} {P:Program} {Q:Exit->Act->World->Prop} {ops:Array Oper} {os rest:List Oper} {o:Oper}
variable {S:World->Prop} {tail:Act->World->Prop} {pl:List (Oper×Nat)}
theorem Bkc {a b r:Ah} {t t2:TypeId} {x y:Operand} (ho:o.op=.binOp .add t x y t2) (hg:Ci ops env o=some true) (hd:inB n o.dst=true) (hx:BL env x=some (.string a)) (hy:BL env y=some (.string b)) (hc:O1 a b=some r)
  (h:K ds A n (Bl env o.dst (.string r)) l (BU P ops Q S tail pl)):K ds A n env l (BU P ops Q S tail ((o,0) :: pl)):=λac w ha hw=>by
 obtain ⟨h1,h2⟩:=Jv hc;cases h2;have h1:=of_decide_eq_true h1;have h3:¬ (((a.size+b.size:Nat):Int) > IntKind.i64.max):=by
  have:IntKind.i64.max=9223372036854775807:=by decide
  omega
 refine DY (Hk ha hg) (λw'=>?_) (h _ _ (ha.Bl _ hd) hw);unfold execOp;simp only [ho,ha.eval hx,ha.eval hy,Sem.run_bind,eqGuard];simp only [binOp,Op.stringOp,if_neg h3];rfl
theorem Bkl (hg:Ci ops env o=some false) (hd:inB n o.dst=true) (h:K ds A n (Bl env o.dst undef) l (λa w=>S w/\BU P ops Q S tail pl a w)):K ds A n env l (BU P ops Q S tail ((o,1) :: pl)):=λa w ha hw K hK=>by
 rw [if_neg (by rw [Hk ha hg];simp)];exact hK _ _ (h _ _ (ha.Bl _ hd) hw)
theorem Rq {α:Type} {R:Gn α} {xs xs':List α} {h:N} {A':AD} {c:Nat} {T TS:TypeId} {x:Operand} {lo hi:Option Operand} (L H:Int) (ho:o.op=.slice TS x lo hi none) (hg:Ci ops env o=some true) (hd:inB n o.dst=true) (hx:BL env x=some (.slice A' xs.length c))
  (hlo:(lo=none/\L=0)\/∃ y k,lo=some y/\BL env y=some (.int k L)) (hhi:(hi=none/\H=xs.length)\/∃ y k,hi=some y/\BL env y=some (.int k H)) (h1:P.underlying TS=some (.slice T)) (h2:(P.info? T).map (·.size)=some R.sz) (hs:Fl xs L H=some xs') (hR:RdR R h (.slice A' xs.length c) xs)
  (hk:∀ a' c',RdR R h (.slice a' xs'.length c') xs'->K ds A n (Bl env o.dst (.slice a' xs'.length c')) l (wpList P ops Q rest)):K ds A n env l (wpList P ops Q (o :: rest)):=by
 obtain ⟨hb,hxs⟩:=Jv hs;obtain ⟨hL,hLH,hH⟩:=of_decide_eq_true hb;cases hxs;have hR0:=hR;obtain ⟨cs,⟨hl,hone,hc⟩,hrow⟩:=hR;have hcap:xs.length<=c:=by
  rcases hc with ⟨he,h0⟩ | ⟨b,off,cap,cur,T',z,he,hb,h4,h5,hc⟩;omega;cases he;exact h4
 refine F1 hg λa w ha hw=>?_;cases hif:P.info? T with
 | none=>rw [hif] at h2;cases h2
 | some i =>
  rw [hif] at h2;have hsz:i.size=R.sz:=Ao h2;have e1:max H 0=H:=by omega
  have hsl:∀ (lv hv:Option Value),(lv=none/\L=0\/∃ k,lv=some (.int k L))->(hv=none/\H=xs.length\/∃ k,hv=some (.int k H))->(Instr.sliceAt TS (.slice A' xs.length c) lv hv none).run P w=.ok (.slice (if c=L.toNat then A' else A'.map (·.add (L.toNat * R.sz))) (H.toNat - L.toNat) (c - L.toNat)) w:=by
   have h5:0<=H:=by omega
   have h6:H<=c:=by omega
   have h7:L<=max H 0:=by omega
   rintro lv hv (⟨rfl,rfl⟩ | ⟨k,rfl⟩) (⟨rfl,rfl⟩ | ⟨k',rfl⟩);simp [Instr.sliceAt,Instr.slice,Instr.sliceBounds,run_underlying h1,sizeOf,typeInfo,hif,hsz];simp [Instr.sliceAt,Instr.slice,Instr.sliceBounds,Instr.sliceBound,asIntOf,run_underlying h1,sizeOf,typeInfo,hif,hsz,h5,h6];have h8:L<=(xs.length:Int):=by omega
   simp [Instr.sliceAt,Instr.slice,Instr.sliceBounds,Instr.sliceBound,asIntOf,run_underlying h1,sizeOf,typeInfo,hif,hsz,hL,h8];simp [Instr.sliceAt,Instr.slice,Instr.sliceBounds,Instr.sliceBound,asIntOf,run_underlying h1,sizeOf,typeInfo,hif,hsz,h5,h6,hL,h7,hLH]
  have hrun:=hsl (lo.map a.eval) (hi.map a.eval) (hlo.imp (λ⟨e,e'⟩=>⟨by rw [e];rfl,e'⟩) (λ⟨y,k,e,e'⟩=>⟨k,by rw [e];exact congrArg some (ha.eval e')⟩)) (hhi.imp (λ⟨e,e'⟩=>⟨by rw [e];rfl,e'⟩) (λ⟨y,k,e,e'⟩=>⟨k,by rw [e];exact congrArg some (ha.eval e')⟩));unfold Oper.wp execOp;simp only [ho,ha.eval hx,Option.map_none,Sem.run_bind,hrun,Result.andThen_ok,Sem.run_pure];have hlen:((xs.drop L.toNat).take (H.toNat - L.toNat)).length=H.toNat - L.toNat:=by
   rw [List.length_take,BV];omega
  rw [<- hlen];refine hk _ _ ?_ _ _ (ha.Bl _ hd) hw;refine ⟨(cs.drop (L.toNat * R.sz)).take ((H.toNat - L.toNat) * R.sz),⟨?_,λu hu=>hone u (List.mem_of_mem_drop (List.mem_of_mem_take hu)),?_⟩,(hrow.drop L.toNat).take _⟩;rw [hlen,List.length_take,BV,hl,<- Nat.sub_mul,Nat.min_eq_left];exact Nat.mul_le_mul_right _ (by omega);rw [hlen];rcases hc with ⟨he,h0⟩ | ⟨b,off,cap,cur,T',z,he,hb,h4,h5,hc⟩;cases A' with
  | none =>
   left;simp only [Value.slice.injEq] at he;refine ⟨?_,by omega⟩;have:c=0:=he.2.2;subst this;rw [show H.toNat - L.toNat=0 by omega,show 0 - L.toNat=0 by omega];simp
  | some ad=>simp at he
  cases he;right;by_cases hcl:c=L.toNat;rw [if_pos hcl];refine ⟨b,off,c - L.toNat,cur,T',z,rfl,hb,by omega,by omega,λj u hj=>?_⟩;rw [show H.toNat - L.toNat=0 by omega] at hj;simp at hj;rw [if_neg hcl];refine ⟨b,off+L.toNat * R.sz,c - L.toNat,cur,T',z,by simp [addr_add],hb,by omega,by omega,λj u hj=>?_⟩;rw [List.getElem?_take] at hj;split at hj;rw [List.getElem?_drop] at hj;rw [Nat.add_assoc];exact hc _ u hj;cases hj
end
def Afv {α:Type} (E:α->List Value) (T:TypeId) (sz:Nat) (h:N) (v:Value) (l:List α):Prop:=AL E T sz h v l\/(AZ E sz h v l/\∃ A',v=.slice A' l.length l.length)
theorem Afv.rd {α:Type} {E:α->List Value} {T:TypeId} {sz:Nat} {h:N} {v:Value} {l:List α} (ho:Afv E T sz h v l):AZ E sz h v l:=ho.elim AL.rd (·.1)
section
variable {A:World} {ds:List Deferred} {n0:Nat} {env env':Env} {l l' X:List N} {q:Act->World->Prop} {P:Program} {Q:Exit->Act->World->Prop} {ops:Array Oper} {os rest:List Oper} {o:Oper}
theorem St.mark {w:World} {b:Nat} {cs:Array Value} {T:TypeId} (h:St A (blk b (.cells cs T (0,0)) :: l) w) (k:Nat):St A (blk b (.cells cs T (k,k+1)) :: l) (w.freeze ⟨b,k,none⟩ 1):=by
 have hg:w.heap[b]? = some (.cells cs T (0,0)):=h.sat.1 b _ (by simp [blk]);have hks:∀ j,j≠b->(w.freeze ⟨b,k,none⟩ 1).heap[j]? = w.heap[j]?:=λj hj=>by
  unfold World.freeze;split;rfl;simp only [Array.getElem?_modify];rw [if_neg (λe=>hj e.symm)]
 have hsz:(w.freeze ⟨b,k,none⟩ 1).heap.size=w.heap.size:=by unfold World.freeze;split <;> simp
 have ho:(w.freeze ⟨b,k,none⟩ 1).os=w.os/\(w.freeze ⟨b,k,none⟩ 1).tape=w.tape/\(w.freeze ⟨b,k,none⟩ 1).output=w.output:=by unfold World.freeze;split <;> exact ⟨rfl,rfl,rfl⟩
 refine ⟨⟨λj o hk=>?_,λf hf j=>?_,h.sat.2.2.keep λf hf j o hk=>?_⟩,ho.1.trans h.os,ho.2.1.trans h.tape,ho.2.2.trans h.output,by rw [hsz];exact h.size⟩;unfold blk at hk;split at hk;rename_i e;subst e;cases hk;unfold World.freeze;rw [if_neg (by decide)];simp only [Array.getElem?_modify,hg];rfl;cases hk;rcases h.sat.2.1 f hf j with h' | h';unfold blk at h' ⊢;split at h';cases h';rename_i e';rw [if_neg e'];exact .inl rfl;exact .inr h';refine hks j λe'=>?_;subst e';rcases h.sat.2.1 f hf j with h' | h';simp [blk] at h';rw [h'] at hk;cases hk
end
theorem AZ.mono {α:Type} {E:α->List Value} {sz:Nat} {h h':N} {v:Value} {l:List α} (hr:AZ E sz h v l) (hi:h.In h'):AZ E sz h' v l:=Rd.mono hr hi
section
variable {α β γ:Type}
def rS1 (n:Nat) (pre:α->List Value) (hn:∀ x,(pre x).length=n/\(pre x).all Value.oneCell'=true) (E:β->List Value) (T:TypeId) (sz:Nat) (sub:α->List β):Gn α where
 sz:=n+1
 own x H cs:=∃ A c,cs=pre x++[.slice A (sub x).length c]/\AL E T sz H (.slice A (sub x).length c) (sub x)
 rd x H cs:=∃ A c,cs=pre x++[.slice A (sub x).length c]/\AZ E sz H (.slice A (sub x).length c) (sub x)
 len:=by
  rintro x H _ ⟨A,c,rfl,_⟩;refine ⟨by rw [BT,(hn x).1];rfl,λu hu=>?_⟩;rcases EL.1 hu with hu | hu;exact List.all_eq_true.1 (hn x).2 u hu;obtain rfl:=Fc.1 hu;rfl
 lenr:=by
  rintro x H _ ⟨A,c,rfl,_⟩;refine ⟨by rw [BT,(hn x).1];rfl,λu hu=>?_⟩;rcases EL.1 hu with hu | hu;exact List.all_eq_true.1 (hn x).2 u hu;obtain rfl:=Fc.1 hu;rfl
 U7:=by
  rintro x H H' _ ⟨A,c,rfl,h⟩ hi;exact ⟨A,c,rfl,h.rd.mono hi⟩
end
theorem St.sub {A w:World} {f g:N} {l:List N} (hi:f.In g) (h:St A (g :: l) w):St A (f :: l) w:=by
 refine ⟨⟨λk o e=>h.sat.1 k o (hi k o e),λx hx k=>?_,h.sat.2.2⟩,h.os,h.tape,h.output,h.size⟩;rcases h.sat.2.1 x hx k with e | e;left;cases hf:f k with
 | none=>rfl
 | some o=>rw [hi k o hf] at e;cases e
 exact .inr e
section
variable {A:World} {ds:List Deferred} {n0:Nat} {env env':Env} {l l' X:List N} {q:Act->World->Prop} {P:Program} {Q:Exit->Act->World->Prop} {ops:Array Oper} {os rest:List Oper} {o:Oper} {α:Type} {R:Gn α}
theorem Own.take {T:TypeId} {sz:Nat} {h:N} {A':Option Addr} {n c m:Nat} {cs:List Value} (ho:Own T sz h (.slice A' n c) n cs) (hm:m<=n):Own T sz h (.slice A' m c) m (cs.take (m * sz)):=by
 obtain ⟨h1,h2,h3⟩:=ho;have hle:m * sz<=n * sz:=Nat.mul_le_mul_right sz hm;refine ⟨by rw [List.length_take,h1];omega,λu hu=>h2 u (List.mem_of_mem_take hu),?_⟩;rcases h3 with ⟨h3,h4⟩ | ⟨g,cap,cur,h3,h4,h5,h6,h7,h8⟩;left;have hn:m=0:=by omega
 subst hn;subst h4;exact ⟨h3,rfl⟩;right;simp only [Value.slice.injEq] at h3;obtain ⟨rfl,_,rfl⟩:=h3;refine ⟨g,c,cur,rfl,h4,by omega,h6,h7,?_⟩;rw [<- h8,List.take_take,Nat.min_eq_left hle]
theorem Ajg {α:Type} {E:α->List Value} {sz:Nat} (hE:EA E sz):∀ (l:List α) (m:Nat),m<=l.length->(l.take m).flatMap E=(l.flatMap E).take (m * sz)
 | l,0,_=>by simp
 | [],m+1,h=>by simp at h
 | x :: l,m+1,h=>by
  rw [List.take_succ_cons,List.flatMap_cons,List.flatMap_cons,Nat.add_mul,Nat.one_mul,Nat.add_comm,<- hE.len x,List.take_length_add_append,hE.len x,Ajg hE l m (by simpa using h)]
theorem AL.take {α:Type} {E:α->List Value} {T:TypeId} {sz:Nat} {h:N} {A':AD} {c m:Nat} {l:List α} (hE:EA E sz) (ho:AL E T sz h (.slice A' l.length c) l) (hm:m<=l.length):AL E T sz h (.slice A' (l.take m).length c) (l.take m):=by
 unfold AL;rw [Ajg hE l m hm,List.length_take,Nat.min_eq_left hm];exact Own.take ho hm
theorem Ao5 {S:World->Prop} {tail:Act->World->Prop} {pl:List (Oper×Nat)} {β:Type} {E:β->List Value} {sz:Nat} {xs xs':List β} {h:N} {A':AD} {c:Nat} {T TS:TypeId} {x y:Operand} {k:IntKind} (H:Int) (hE:EA E sz) (ho:o.op=.slice TS x none (some y) none) (hg:Ci ops env o=some true) (hd:inB n0 o.dst=true) (hx:BL env x=some (.slice A' xs.length c))
  (hy:BL env y=some (.int k H)) (h1:P.underlying TS=some (.slice T)) (h2:(P.info? T).map (·.size)=some sz) (hs:Fl xs 0 H=some xs') (hO:AL E T sz h (.slice A' xs.length c) xs)
  (hk:AL E T sz h (.slice A' xs'.length c) xs'->K ds A n0 (Bl env o.dst (.slice A' xs'.length c)) l (BU P ops Q S tail pl)):K ds A n0 env l (BU P ops Q S tail ((o,0) :: pl)):=by
 obtain ⟨hb,hxs⟩:=Jv hs;obtain ⟨hL,hLH,hH⟩:=of_decide_eq_true hb;have hxs:xs.take H.toNat=xs':=by
  have:=Ao hxs;rw [<- this];simp
 subst hxs;have hm:H.toNat<=xs.length:=by omega
 have hT:=hO.take hE hm;have hA:A'=none\/∃ g,A'=some ⟨g,0,none⟩:=by
  rcases hO.2.2 with ⟨h3,h4⟩ | ⟨g,cap,cur,h3,_⟩
  ·simp only [Value.slice.injEq] at h3;exact .inl h3.1
  ·simp only [Value.slice.injEq] at h3;exact .inr ⟨g,h3.1⟩
 have hcap:xs.length<=c:=by
  rcases hO.2.2 with ⟨h3,h4⟩ | ⟨g,cap,cur,h3,h4,h5,_⟩
  ·simp only [Value.slice.injEq] at h3;omega
  ·simp only [Value.slice.injEq] at h3
   obtain ⟨_,_,rfl⟩:=h3;omega
 have hlen:(xs.take H.toNat).length=H.toNat:=by rw [List.length_take];omega
 refine λa w ha hw=>?_;cases hif:P.info? T with
 | none=>rw [hif] at h2;cases h2
 | some i =>
  have h5:0<=H:=by omega
  have h6:H<=c:=by omega
  have hrun:∀ w,(Instr.sliceAt TS (.slice A' xs.length c) none (some (.int k H)) none).run P w=.ok (.slice A' H.toNat c) w:=by
   intro w;simp [Instr.sliceAt,Instr.slice,Instr.sliceBounds,Instr.sliceBound,asIntOf,run_underlying h1,sizeOf,typeInfo,hif,h5,h6]
   all_goals (rcases hA with rfl | ⟨g,rfl⟩ <;> simp [Addr.add])
  rw [hlen] at hk hT;refine DY (Hk ha hg) (λw'=>?_) (hk hT _ _ (ha.Bl _ hd) hw);unfold execOp;simp only [ho,ha.eval hx,Option.map_none,Option.map_some,ha.eval hy,Sem.run_bind,hrun,Result.andThen_ok,Sem.run_pure]
end
section
variable {P:Program} {TS T U:TypeId} {sz bytes:Nat} {i:TypeInfo} {z:Value} {w:World} {ty:TypeId} {ku kz:IntKind} {m:Nat}
theorem Bui (he:FG P TS T sz bytes i z) (hu:P.underlying U=some (.int ku)):(Builtin.append_ #[TS,U] ty #[.slice none 0 0,.int kz 0]).run P w=.ok (.slice none 0 0) w:=by
 have h2:=he.size;have hw:Au 0=0:=by decide
 simp [Builtin.append_,run_underlying he.slice,run_underlying hu,sizeOf,typeInfo,he.info,h2,asInt,asIntOf,hw]
theorem Auc (he:FG P TS T sz bytes i z) (hu:P.underlying U=some (.int ku)) (a:Option Addr) (sLen sCap:Nat) (olds:List Value) (hg:sCap < sLen+m)
  (hold:(Builtin.firstCells sz sLen (.slice a sLen sCap)).run P w.drew=.ok olds.toArray w.drew)
  (h63:((sLen+m:Nat):Int)<=9223372036854775807) (hfit:Builtin.nextslicecap (sLen+m) sCap * bytes<=281474976710656) (hmb:m * bytes<=281474976710656) :
  (Builtin.append_ #[TS,U] ty #[.slice a sLen sCap,.int kz m]).run P w =
   .ok (.slice (some ⟨w.heap.size,0,none⟩) (sLen+m) (grownCap w (sLen+m) sCap T)) (w.drew.alloc (.cells (olds.toArray++Builtin.zeroCells z.cells m++Builtin.zeroCells z.cells (grownCap w (sLen+m) sCap T - (sLen+m))) T)):=by
 have hn:¬ (sLen+m<=sCap):=by omega
 have h63':¬ (9223372036854775807 < ((sLen:Int)+(m:Int))):=by omega
 have h48':¬ (281474976710656 < Builtin.nextslicecap (sLen+m) sCap * bytes):=by omega
 have hb:=he.bytes;have hsz:=he.size;have hp:=he.pos;have hp':¬ bytes=0:=by omega
 have SS:¬ (281474976710656 < (m:Int) * (bytes:Int)):=by
  have:((m * bytes:Nat):Int)=(m:Int) * (bytes:Int):=Int.natCast_mul m bytes;omega
 have hw:Au (m:Int)=m:=by unfold Au IntKind.wrap;simp [IntKind.bits,IntKind.signed];omega
 have hm0:¬ ((m:Int) < 0):=by omega
 by_cases hz:m * sz=0;have hcz:Builtin.zeroCells z.cells m=#[]:=by
  apply Array.eq_empty_of_size_eq_zero;rw [size_zeroCells,he.cells,hz]
 rw [hcz];simp [Builtin.append_,run_underlying he.slice,run_underlying hu,sizeOf,typeInfo,zeroValue,he.info,he.zero,hsz,hb,asInt,asIntOf,hw,SS,hm0,hn,h63',h48',hp',Question.forced,hold,newRow,grownCap,hz];simp [Builtin.append_,run_underlying he.slice,run_underlying hu,sizeOf,typeInfo,zeroValue,he.info,he.zero,hsz,hb,asInt,asIntOf,hw,SS,hm0,hn,h63',h48',hp',Question.forced,hold,newRow,grownCap,hz]
theorem Buj (he:FG P TS T sz bytes i z) (hu:P.underlying U=some (.int ku)) (h1:∀ u ∈ (Builtin.zeroCells z.cells m).toList,u.oneCell'=true) (g sLen sCap:Nat) (cur:Array Value) (hg:w.heap[g]? = some (.cells cur T (0,0)))
  (hroom:sLen+m<=sCap) (hfit:sLen * sz+m * sz<=cur.size) (h63:(m:Int)<=9223372036854775807) (hmb:m * bytes<=281474976710656) :
  (Builtin.append_ #[TS,U] ty #[.slice (some ⟨g,0,none⟩) sLen sCap,.int kz m]).run P w =
   .ok (.slice (some ⟨g,0,none⟩) (sLen+m) sCap) (w.setRow g (cur.toList.take (sLen * sz)++(Builtin.zeroCells z.cells m).toList++cur.toList.drop (sLen * sz+m * sz)).toArray):=by
 have hlz:(Builtin.zeroCells z.cells m).toList.length=m * sz:=by rw [Array.length_toList,size_zeroCells,he.cells]
 have hst:=run_storeCells_at P g (sLen * sz) T (Builtin.zeroCells z.cells m).toList 0 cur w hg (by rw [hlz];simpa using hfit) h1;simp only [Nat.add_zero,hlz] at hst;have hsz:=he.size;have hb:=he.bytes;have SS:¬ (281474976710656 < (m:Int) * (bytes:Int)):=by
  have:((m * bytes:Nat):Int)=(m:Int) * (bytes:Int):=Int.natCast_mul m bytes;omega
 have hw:Au (m:Int)=m:=by unfold Au IntKind.wrap;simp [IntKind.bits,IntKind.signed];omega
 have hm0:¬ ((m:Int) < 0):=by omega
 by_cases hz:m * sz=0;have hcz:Builtin.zeroCells z.cells m=#[]:=by
  apply Array.eq_empty_of_size_eq_zero;rw [size_zeroCells,he.cells,hz]
 rw [hcz] at hst ⊢;simp [Builtin.append_,run_underlying he.slice,run_underlying hu,sizeOf,typeInfo,zeroValue,he.info,he.zero,hsz,hb,asInt,asIntOf,hw,SS,hm0,hroom,Addr.add_lit,hz] at hst ⊢;rw [hst];rfl;simp [Builtin.append_,run_underlying he.slice,run_underlying hu,sizeOf,typeInfo,zeroValue,he.info,he.zero,hsz,hb,asInt,asIntOf,hw,SS,hm0,hroom,Addr.add_lit,hz,hst]
end
section
variable {A:World} {ds:List Deferred} {n0:Nat} {env env':Env} {l l' X:List N} {q:Act->World->Prop} {P:Program} {Q:Exit->Act->World->Prop} {ops:Array Oper} {os rest:List Oper} {o:Oper}
theorem Bry {next:Act->World->Prop} {T TS U:TypeId} {sz bytes:Nat} {i:TypeInfo} {z:Value} {h:N} {v y:Value} {n m:Nat} {cs news:List Value} {s x:Operand} (ho:o.op=.call { callee:=.builtin .append,args:=#[s,x],argTypes:=#[TS,U] })
  (he:FG P TS T sz bytes i z) (hd:inB n0 o.dst=true) (hs:BL env s=some v) (hx:BL env x=some y) (hu:KZ P U=true) (hO:Own T sz h v n cs) (hsrc:∀ w,Sat (h :: l) w->Src P sz w y m news)
  (hl:news.length=m * sz) (h1:∀ u ∈ news,u.oneCell'=true) (hb:(n+m) * bytes<=140737488355328)
  (hk:∀ h' v',Own T sz h' v' (n+m) (cs++news)->K ds A n0 (Bl env o.dst v') (h' :: l) next):K ds A n0 env (h :: l) (λa w=>o.wp P a w next Q):=by
 refine λa w ha hw=>?_;have hsr:=hsrc w hw.sat;have hlen:(cs++news).length=(n+m) * sz:=by rw [BT,hO.1,hl,Nat.add_mul]
 have Jb:∀ u ∈ cs++news,u.oneCell'=true:=λu hu=>(EL.1 hu).elim (hO.2.1 u) (h1 u);have hpos:=he.pos;have hnm:n+m<=140737488355328:=Nat.le_trans (Nat.le_mul_of_pos_right _ hpos) hb;have hmax:n+m<=maxLen:=by unfold maxLen;omega
 have hex:∃ v' w',(Builtin.append_ #[TS,U] o.type #[v,y]).run P w=.ok v' w'/\∃ h',Own T sz h' v' (n+m) (cs++news)/\St A (h' :: l) w':=by
  have grown:∀ (old:Nat),old < n+m ->
    Own T sz (blk w.heap.size (.cells (cs.toArray++news.toArray++Builtin.zeroCells z.cells (grownCap w (n+m) old T - (n+m))) T (0,0))) (.slice (some ⟨w.heap.size,0,none⟩) (n+m) (grownCap w (n+m) old T)) (n+m) (cs++news) /\
    St A (blk w.heap.size (.cells (cs.toArray++news.toArray++Builtin.zeroCells z.cells (grownCap w (n+m) old T - (n+m))) T (0,0)) :: l) (w.drew.alloc (.cells (cs.toArray++news.toArray++Builtin.zeroCells z.cells (grownCap w (n+m) old T - (n+m))) T)):=by
   intro old hold;have hge:=grownCap_ge w (n+m) old T;have hcm:grownCap w (n+m) old T<=maxLen:=grownCap_le_maxLen w (n+m) old T hmax;refine ⟨⟨hlen,Jb,.inr ⟨w.heap.size,_,_,rfl,rfl,hge,hcm,?_,?_⟩⟩,hw.tail.drew.new _⟩
   ·simp only [Array.size_append,List.size_toArray,size_zeroCells,he.cells,hO.1,hl,<- Nat.add_mul]
    congr 1;omega
   ·simp only [Array.toList_append,C8]
    rw [<- C8,<- hlen];exact List.take_left
  rcases hO.2.2 with ⟨rfl,rfl⟩ | ⟨g,cap,cur,rfl,rfl,h4,h5,h6,h7⟩
  ·have hcs:cs=[]:=List.eq_nil_of_length_eq_zero (by simpa using hO.1)
   subst hcs;by_cases hm:m=0
   ·subst hm
    have hn:news=[]:=List.eq_nil_of_length_eq_zero (by simpa using hl);subst hn;exact ⟨_,w,At7 he hu hsr,h,Own.nil T sz h,hw⟩
   ·have hr:=WQ (ty:=o.type) he hu hsr none 0 0 [] (by omega) rfl (by omega) (growslice_fits (by omega) hb)
    have hgr:=grown 0 (by omega);simp only [Nat.zero_add,List.nil_append] at hr hgr ⊢;exact ⟨_,_,hr,_,hgr.1,hgr.2⟩
  ·by_cases hroom:n+m<=cap
   ·have hfit:n * sz+news.length<=cur.size:=by rw [hl,h6,<- Nat.add_mul];exact Nat.mul_le_mul_right _ hroom
    have hgc:w.heap[g]? = some (.cells cur T (0,0)):=hw.sat.1 g _ (by simp [blk]);refine ⟨_,_,At9 he hu hsr hl h1 g n cap cur hgc hroom hfit,_,⟨hlen,Jb,.inr ⟨g,cap,_,rfl,rfl,hroom,h5,?_,?_⟩⟩,hw.setRow _⟩
    ·simp only [List.size_toArray,BT,List.length_take,BV,Array.length_toList]
     omega
    ·rw [h7,<- hlen]
     exact List.take_left
   ·have hold:(Builtin.firstCells sz n (.slice (some ⟨g,0,none⟩) n cap)).run P w.drew=.ok cs.toArray w.drew :=
     ((Own.rd ⟨hO.1,hO.2.1,.inr ⟨g,cap,cur,rfl,rfl,h4,h5,h6,h7⟩⟩:Rd sz _ _ n cs).src (l:=blk g (.cells cur T (0,0)) :: l) hw.sat (DT ..)).drew
    have hr:=WQ (ty:=o.type) he hu hsr (some ⟨g,0,none⟩) n cap cs (by omega) hold (by omega) (growslice_fits (by omega) hb);have hgr:=grown cap (by omega);exact ⟨_,_,hr,_,hgr.1,hgr.2⟩
 obtain ⟨v',w',hr,h',hO',hw'⟩:=hex;unfold Oper.wp execOp;simp only [ho,resolve,invoke,builtin,Sem.run_bind,Sem.run_pure,Result.andThen_ok,List.map_toArray,List.map_cons,List.map_nil,ha.eval hs,ha.eval hx,hr];exact hk h' v' hO' _ _ (ha.Bl v' hd) hw'
theorem Brz {ku kz:IntKind} {next:Act->World->Prop} {T TS U:TypeId} {sz bytes:Nat} {i:TypeInfo} {z:Value} {h:N} {v:Value} {n m:Nat} {cs:List Value} {s x:Operand} (ho:o.op=.call { callee:=.builtin .append,args:=#[s,x],argTypes:=#[TS,U] })
  (he:FG P TS T sz bytes i z) (hd:inB n0 o.dst=true) (hs:BL env s=some v) (hx:BL env x=some (.int kz (m:Int))) (hu:P.underlying U=some (.int ku)) (hO:Own T sz h v n cs)
  (h1:∀ u ∈ (Builtin.zeroCells z.cells m).toList,u.oneCell'=true) (hb:(n+m) * bytes<=140737488355328)
  (hk:∀ h' v',Own T sz h' v' (n+m) (cs++(Builtin.zeroCells z.cells m).toList)->K ds A n0 (Bl env o.dst v') (h' :: l) next):K ds A n0 env (h :: l) (λa w=>o.wp P a w next Q):=by
 refine λa w ha hw=>?_;have hl:(Builtin.zeroCells z.cells m).toList.length=m * sz:=by rw [Array.length_toList,size_zeroCells,he.cells]
 have hmb:m * bytes<=281474976710656:=by
  have:=Nat.mul_le_mul_right bytes (Nat.le_add_left m n);omega
 have hlen:(cs++(Builtin.zeroCells z.cells m).toList).length=(n+m) * sz:=by rw [BT,hO.1,hl,Nat.add_mul]
 have Jb:∀ u ∈ cs++(Builtin.zeroCells z.cells m).toList,u.oneCell'=true:=λu hu=>(EL.1 hu).elim (hO.2.1 u) (h1 u);have hpos:=he.pos;have hnm:n+m<=140737488355328:=Nat.le_trans (Nat.le_mul_of_pos_right _ hpos) hb;have hmax:n+m<=maxLen:=by unfold maxLen;omega
 have hex:∃ v' w',(Builtin.append_ #[TS,U] o.type #[v,.int kz (m:Int)]).run P w=.ok v' w'/\∃ h',Own T sz h' v' (n+m) (cs++(Builtin.zeroCells z.cells m).toList)/\St A (h' :: l) w':=by
  have grown:∀ (old:Nat),old < n+m ->
    Own T sz (blk w.heap.size (.cells (cs.toArray++Builtin.zeroCells z.cells m++Builtin.zeroCells z.cells (grownCap w (n+m) old T - (n+m))) T (0,0))) (.slice (some ⟨w.heap.size,0,none⟩) (n+m) (grownCap w (n+m) old T)) (n+m) (cs++(Builtin.zeroCells z.cells m).toList) /\
    St A (blk w.heap.size (.cells (cs.toArray++Builtin.zeroCells z.cells m++Builtin.zeroCells z.cells (grownCap w (n+m) old T - (n+m))) T (0,0)) :: l) (w.drew.alloc (.cells (cs.toArray++Builtin.zeroCells z.cells m++Builtin.zeroCells z.cells (grownCap w (n+m) old T - (n+m))) T)):=by
   intro old hold;have hge:=grownCap_ge w (n+m) old T;have hcm:grownCap w (n+m) old T<=maxLen:=grownCap_le_maxLen w (n+m) old T hmax;refine ⟨⟨hlen,Jb,.inr ⟨w.heap.size,_,_,rfl,rfl,hge,hcm,?_,?_⟩⟩,hw.tail.drew.new _⟩
   ·simp only [Array.size_append,List.size_toArray,size_zeroCells,he.cells,hO.1,hl,<- Nat.add_mul]
    congr 1;omega
   ·simp only [Array.toList_append,C8]
    rw [<- C8,<- hlen];exact List.take_left
  rcases hO.2.2 with ⟨rfl,rfl⟩ | ⟨g,cap,cur,rfl,rfl,h4,h5,h6,h7⟩
  ·have hcs:cs=[]:=List.eq_nil_of_length_eq_zero (by simpa using hO.1)
   subst hcs;by_cases hm:m=0
   ·subst hm
    have hn:(Builtin.zeroCells z.cells 0).toList=[]:=List.eq_nil_of_length_eq_zero (by simpa using hl);rw [hn];exact ⟨_,w,Bui he hu,h,Own.nil T sz h,hw⟩
   ·have hr:=Auc (w:=w) (ty:=o.type) (kz:=kz) (m:=m) he hu none 0 0 [] (by omega) rfl (by omega) (growslice_fits (by omega) hb) hmb
    have hgr:=grown 0 (by omega);simp only [Nat.zero_add,List.nil_append] at hr hgr ⊢;exact ⟨_,_,hr,_,hgr.1,hgr.2⟩
  ·by_cases hroom:n+m<=cap
   ·have hfit:n * sz+(Builtin.zeroCells z.cells m).toList.length<=cur.size:=by rw [hl,h6,<- Nat.add_mul];exact Nat.mul_le_mul_right _ hroom
    have hgc:w.heap[g]? = some (.cells cur T (0,0)):=hw.sat.1 g _ (by simp [blk]);refine ⟨_,_,Buj he hu h1 g n cap cur hgc hroom (by rw [hl] at hfit;exact hfit) (by omega) hmb,_,⟨hlen,Jb,.inr ⟨g,cap,_,rfl,rfl,hroom,h5,?_,?_⟩⟩,hw.setRow _⟩
    ·simp only [List.size_toArray,BT,List.length_take,BV,Array.length_toList]
     have hl':(Builtin.zeroCells z.cells m).size=m * sz:=by rw [<- Array.length_toList];exact hl
     omega
    ·rw [h7,<- hlen]
     exact List.take_left
   ·have hold:(Builtin.firstCells sz n (.slice (some ⟨g,0,none⟩) n cap)).run P w.drew=.ok cs.toArray w.drew :=
     ((Own.rd ⟨hO.1,hO.2.1,.inr ⟨g,cap,cur,rfl,rfl,h4,h5,h6,h7⟩⟩:Rd sz _ _ n cs).src (l:=blk g (.cells cur T (0,0)) :: l) hw.sat (DT ..)).drew
    have hr:=Auc (ty:=o.type) (kz:=kz) (m:=m) he hu (some ⟨g,0,none⟩) n cap cs (by omega) hold (by omega) (growslice_fits (by omega) hb) hmb;have hgr:=grown cap (by omega);exact ⟨_,_,hr,_,hgr.1,hgr.2⟩
 obtain ⟨v',w',hr,h',hO',hw'⟩:=hex;unfold Oper.wp execOp;simp only [ho,resolve,invoke,builtin,Sem.run_bind,Sem.run_pure,Result.andThen_ok,List.map_toArray,List.map_cons,List.map_nil,ha.eval hs,ha.eval hx,hr];exact hk h' v' hO' _ _ (ha.Bl v' hd) hw'
theorem Ary {next:Act->World->Prop} {α:Type} {E:α->List Value} {xs ys xs':List α} {T TS U:TypeId} {sz bytes:Nat} {i:TypeInfo} {z:Value} {h:N} {v y:Value} {s x:Operand} (hE:EA E sz) (ho:o.op=.call { callee:=.builtin .append,args:=#[s,x],argTypes:=#[TS,U] })
  (he:FG P TS T sz bytes i z) (hd:inB n0 o.dst=true) (hs:BL env s=some v) (hx:BL env x=some y) (hu:KZ P U=true) (hap:apd bytes xs ys=some xs') (hO:AL E T sz h v xs) (hsrc:∀ w,Sat (h :: l) w->Src P sz w y ys.length (ys.flatMap E))
  (hk:∀ h' a' c',AL E T sz h' (.slice a' xs'.length c') xs'->K ds A n0 (Bl env o.dst (.slice a' xs'.length c')) (h' :: l) next):K ds A n0 env (h :: l) (λa w=>o.wp P a w next Q):=by
 obtain ⟨hb,rfl⟩:=X3 hap;refine Bry (P:=P) ho he hd hs hx hu hO hsrc (hE.lens ys) (hE.ones ys) hb λh' v' hO'=>?_;have hO2:AL E T sz h' v' (xs++ys):=by
  unfold AL;rw [BT,List.flatMap_append];exact hO'
 obtain ⟨a',c',rfl⟩:=hO2.val;exact hk h' a' c' hO2
def X2 {α:Type} (b:Nat) (l:List α) (z:α) (n:Int):Option (List α):=cond (decide (0<=n/\(l.length+n.toNat) * b<=140737488355328)) (some (l++List.replicate n.toNat z)) none
theorem Bxe {α:Type} {E:α->List Value} {sz:Nat} (hE:EA E sz) (zz:α) (n:Nat):Builtin.zeroCells (E zz).toArray n=((List.replicate n zz).flatMap E).toArray:=by
 have h:=Ap9 hE zz n;rw [<- h];unfold Builtin.zeroCells madeCells;rw [List.size_toArray,hE.len]
theorem Brx {next:Act->World->Prop} {α:Type} {E:α->List Value} {xs xs':List α} {T TS U:TypeId} {sz bytes:Nat} {i:TypeInfo} {z:Value} {h:N} {v:Value} {s x:Operand} {kz:IntKind} {m:Int} {z0:α} (ku:IntKind) (hE:EA E sz) (hz:z.cells=(E z0).toArray) (ho:o.op=.call { callee:=.builtin .append,args:=#[s,x],argTypes:=#[TS,U] })
  (he:FG P TS T sz bytes i z) (hd:inB n0 o.dst=true) (hs:BL env s=some v) (hx:BL env x=some (.int kz m)) (hu:P.underlying U=some (.int ku)) (hap:X2 bytes xs z0 m=some xs') (hO:AL E T sz h v xs)
  (hk:∀ h' a' c',AL E T sz h' (.slice a' xs'.length c') xs'->K ds A n0 (Bl env o.dst (.slice a' xs'.length c')) (h' :: l) next):K ds A n0 env (h :: l) (λa w=>o.wp P a w next Q):=by
 obtain ⟨h1,h2⟩:=Jv hap;cases h2;obtain ⟨h3,h4⟩:=of_decide_eq_true h1;obtain ⟨m,rfl⟩:∃ k:Nat,m=k:=⟨m.toNat,by omega⟩;rw [Int.toNat_natCast] at h4 hk;have hc:(Builtin.zeroCells z.cells m).toList=(List.replicate m z0).flatMap E:=by rw [hz,Bxe hE]
 refine Brz (P:=P) ho he hd hs hx hu hO (λu hu=>hE.ones _ u (by rw [<- hc];exact hu)) h4 λh' v' hO'=>?_;have hO2:AL E T sz h' v' (xs++List.replicate m z0):=by
  unfold AL;rw [BT,List.flatMap_append,List.length_replicate,<- hc];exact hO'
 obtain ⟨a',c',rfl⟩:=hO2.val;exact hk h' a' c' hO2
theorem Oc {S:World->Prop} {tail:Act->World->Prop} {pl:List (Oper×Nat)} {α:Type} {R:Gn α} {xs xs':List α} {h:N} {A':AD} {c:Nat} {T TS:TypeId} {x:Operand} {lo hi:Option Operand} (L H:Int) (ho:o.op=.slice TS x lo hi none) (hg:Ci ops env o=some true) (hd:inB n0 o.dst=true) (hx:BL env x=some (.slice A' xs.length c))
  (hlo:(lo=none/\L=0)\/∃ y k,lo=some y/\BL env y=some (.int k L)) (hhi:(hi=none/\H=xs.length)\/∃ y k,hi=some y/\BL env y=some (.int k H)) (h1:P.underlying TS=some (.slice T)) (h2:(P.info? T).map (·.size)=some R.sz) (hs:Fl xs L H=some xs') (hR:RdR R h (.slice A' xs.length c) xs)
  (hk:∀ a' c',RdR R h (.slice a' xs'.length c') xs'->K ds A n0 (Bl env o.dst (.slice a' xs'.length c')) l (BU P ops Q S tail pl)):K ds A n0 env l (BU P ops Q S tail ((o,0) :: pl)):=by
 obtain ⟨hb,hxs⟩:=Jv hs;obtain ⟨hL,hLH,hH⟩:=of_decide_eq_true hb;cases hxs;have hR0:=hR;obtain ⟨cs,⟨hl,hone,hc⟩,hrow⟩:=hR;have hcap:xs.length<=c:=by
  rcases hc with ⟨he,h0⟩ | ⟨b,off,cap,cur,T',z,he,hb,h4,h5,hc⟩;omega;cases he;exact h4
 refine λa w ha hw=>?_;cases hif:P.info? T with
 | none=>rw [hif] at h2;cases h2
 | some i =>
  rw [hif] at h2;have hsz:i.size=R.sz:=Ao h2;have e1:max H 0=H:=by omega
  have hsl:∀ (w:World) (lv hv:Option Value),(lv=none/\L=0\/∃ k,lv=some (.int k L))->(hv=none/\H=xs.length\/∃ k,hv=some (.int k H))->(Instr.sliceAt TS (.slice A' xs.length c) lv hv none).run P w=.ok (.slice (if c=L.toNat then A' else A'.map (·.add (L.toNat * R.sz))) (H.toNat - L.toNat) (c - L.toNat)) w:=by
   have h5:0<=H:=by omega
   have h6:H<=c:=by omega
   have h7:L<=max H 0:=by omega
   rintro w lv hv (⟨rfl,rfl⟩ | ⟨k,rfl⟩) (⟨rfl,rfl⟩ | ⟨k',rfl⟩);simp [Instr.sliceAt,Instr.slice,Instr.sliceBounds,run_underlying h1,sizeOf,typeInfo,hif,hsz];simp [Instr.sliceAt,Instr.slice,Instr.sliceBounds,Instr.sliceBound,asIntOf,run_underlying h1,sizeOf,typeInfo,hif,hsz,h5,h6];have h8:L<=(xs.length:Int):=by omega
   simp [Instr.sliceAt,Instr.slice,Instr.sliceBounds,Instr.sliceBound,asIntOf,run_underlying h1,sizeOf,typeInfo,hif,hsz,hL,h8];simp [Instr.sliceAt,Instr.slice,Instr.sliceBounds,Instr.sliceBound,asIntOf,run_underlying h1,sizeOf,typeInfo,hif,hsz,h5,h6,hL,h7,hLH]
  have hrun:=λw=>hsl w (lo.map a.eval) (hi.map a.eval) (hlo.imp (λ⟨e,e'⟩=>⟨by rw [e];rfl,e'⟩) (λ⟨y,k,e,e'⟩=>⟨k,by rw [e];exact congrArg some (ha.eval e')⟩)) (hhi.imp (λ⟨e,e'⟩=>⟨by rw [e];rfl,e'⟩) (λ⟨y,k,e,e'⟩=>⟨k,by rw [e];exact congrArg some (ha.eval e')⟩));have hlen:((xs.drop L.toNat).take (H.toNat - L.toNat)).length=H.toNat - L.toNat:=by
   rw [List.length_take,BV];omega
  rw [<- hlen] at hrun;refine DY (Hk ha hg) (λw'=>?_) (hk (if c=L.toNat then A' else A'.map (·.add (L.toNat * R.sz))) (c - L.toNat) ?_ _ _ (ha.Bl _ hd) hw);unfold execOp;simp only [ho,ha.eval hx,Option.map_none,Sem.run_bind,hrun,Result.andThen_ok,Sem.run_pure];refine ⟨(cs.drop (L.toNat * R.sz)).take ((H.toNat - L.toNat) * R.sz),⟨?_,λu hu=>hone u (List.mem_of_mem_drop (List.mem_of_mem_take hu)),?_⟩,(hrow.drop L.toNat).take _⟩;rw [hlen,List.length_take,BV,hl,<- Nat.sub_mul,Nat.min_eq_left];exact Nat.mul_le_mul_right _ (by omega);rw [hlen];rcases hc with ⟨he,h0⟩ | ⟨b,off,cap,cur,T',z,he,hb,h4,h5,hc⟩;cases A' with
  | none =>
   left;simp only [Value.slice.injEq] at he;refine ⟨?_,by omega⟩;have:c=0:=he.2.2;subst this;rw [show H.toNat - L.toNat=0 by omega,show 0 - L.toNat=0 by omega];simp
  | some ad=>simp at he
  cases he;right;by_cases hcl:c=L.toNat;rw [if_pos hcl];refine ⟨b,off,c - L.toNat,cur,T',z,rfl,hb,by omega,by omega,λj u hj=>?_⟩;rw [show H.toNat - L.toNat=0 by omega] at hj;simp at hj;rw [if_neg hcl];refine ⟨b,off+L.toNat * R.sz,c - L.toNat,cur,T',z,by simp [addr_add],hb,by omega,by omega,λj u hj=>?_⟩;rw [List.getElem?_take] at hj;split at hj;rw [List.getElem?_drop] at hj;rw [Nat.add_assoc];exact hc _ u hj;cases hj
end
end
section
namespace Lx
abbrev Bs:=List UInt8
def bs (s:Ah):Bs:=s.data.toList
def str (l:Bs):Ah:=⟨l.toArray⟩
theorem H8 (l:Bs):bs (str l)=l:=by simp [bs,str]
theorem Ac7 (s:Ah):str (bs s)=s:=by simp [bs,str]
theorem BZ (s:Ah):(bs s).length=s.size:=Array.length_toList
theorem N5 (l:Bs):(str l).size=l.length:=by simp [str,ByteArray.size]
theorem SC (s:Ah) (a e:Nat):bs (s.extract a e)=((bs s).drop a).take (e - a):=by
 simp [bs,ByteArray.data_extract,Array.toList_extract,List.extract_eq_take_drop]
theorem HA (s:Ah) (a:Nat):bs (s.extract a s.size)=(bs s).drop a:=by
 rw [SC,List.take_of_length_le];simp [BZ]
theorem A1d {s t:Ah} (h:bs s=bs t):s=t:=by rw [<- Ac7 s,h,Ac7]
def B2 (l:Bs):Nat×Nat :=
 let at' (k:Nat):Nat:=(l.getD k 0).toNat;let cont (k:Nat):Bool:=decide (k < l.length) && at' k / 64 == 2;let b0:=at' 0
 if b0 < 0x80 then (b0,1)
 else if b0 / 32 == 6 && cont 1 then
  let c:=(b0 % 32) * 64+at' 1 % 64
  if c >= 0x80 then (c,2) else (65533,1)
 else if b0 / 16 == 14 && cont 1 && cont 2 then
  let c:=(b0 % 16) * 4096+(at' 1 % 64) * 64+at' 2 % 64
  if c >= 0x800 && Utf8.valid c then (c,3) else (65533,1)
 else if b0 / 8 == 30 && cont 1 && cont 2 && cont 3 then
  let c:=(b0 % 8) * 262144+(at' 1 % 64) * 4096+(at' 2 % 64) * 64+at' 3 % 64
  if c >= 0x10000 && Utf8.valid c then (c,4) else (65533,1)
 else (65533,1)
theorem A6w (s:Ah) (i k:Nat):s.get! (i+k)=((bs s).drop i).getD k 0:=by
 show s.data[i+k]! = _;rw [List.getD_eq_getElem?_getD,List.getElem?_drop];simp only [bs,Array.getElem!_eq_getD];simp [Array.getD_eq_getD_getElem?];rfl
theorem decode_eq (s:Ah) (i:Nat):Utf8.decode s i=B2 ((bs s).drop i):=by
 have h1:∀ k,(s.get! (i+k)).toNat=(((bs s).drop i).getD k 0).toNat:=λk=>by rw [A6w]
 have h2:∀ k,decide (i+k < s.size)=decide (k < ((bs s).drop i).length):=λk=>by
  congr 1;rw [BV,BZ];exact propext ⟨λh=>by omega,λh=>by omega⟩
 unfold Utf8.decode B2;simp only [h1,h2,Utf8.runeError]
theorem Jw (l:Bs):1<=(B2 l).2/\(B2 l).2<=4/\(l≠[]->(B2 l).2<=l.length):=by
 have h0:l≠[]->1<=l.length:=λh=>by
  cases l with
  | nil=>exact absurd rfl h
  | cons a t=>simp
 unfold B2;simp only []
 (repeat' split) <;> simp_all <;> omega
def Ig (r:Nat):Bool:=(97<=r && r<=122) || (65<=r && r<=90) || r == 95 || (128<=r && r<=1114111 && r != 65533 && Utf8.valid r)
def GN (r:Nat):Bool:=48<=r && r<=57
def Cm (r:Nat):Bool:=Ig r || GN r
def CE (r:Nat):Bool:=r == 32 || r == 9 || r == 10 || r == 13
def KQ (r:Nat):Bool:=r != 10
def RU (p:Nat->Bool):Nat->Bs->Nat
 | 0,_=>0
 | _+1,[]=>0
 | f+1,b :: t=>if p (B2 (b :: t)).1 then (B2 (b :: t)).2+RU p f ((b :: t).drop (B2 (b :: t)).2) else 0
def B6 (p:Nat->Bool) (l:Bs):Nat:=RU p l.length l
theorem Aty (p:Nat->Bool):∀ (f g:Nat) (l:Bs),l.length<=f->l.length<=g->RU p f l=RU p g l
 | 0,0,_,_,_=>rfl
 | 0,g+1,l,h,_=>by
  have:l=[]:=List.eq_nil_of_length_eq_zero (by omega);subst this;rfl
 | f+1,0,l,_,h=>by
  have:l=[]:=List.eq_nil_of_length_eq_zero (by omega);subst this;rfl
 | f+1,g+1,[],_,_=>rfl
 | f+1,g+1,b :: t,h,h'=>by
  simp only [RU];have hw:=(Jw (b :: t)).1;rw [Aty p f g ((b :: t).drop (B2 (b :: t)).2) (by rw [BV];simp only [AX] at *;omega) (by rw [BV];simp only [AX] at *;omega)]
theorem Ack (p:Nat->Bool):B6 p []=0:=rfl
theorem N1 (p:Nat->Bool) (l:Bs) (h:l≠[]):B6 p l=if p (B2 l).1 then (B2 l).2+B6 p (l.drop (B2 l).2) else 0:=by
 cases l with
 | nil=>exact absurd rfl h
 | cons b t =>
  have hw:=(Jw (b :: t)).1;unfold B6;simp only [AX,RU];rw [Aty p t.length ((b :: t).drop (B2 (b :: t)).2).length ((b :: t).drop (B2 (b :: t)).2) (by rw [BV];simp only [AX];omega) (Nat.le_refl _)]
theorem Atz (p:Nat->Bool):∀ (n:Nat) (l:Bs),l.length<=n->B6 p l<=l.length
 | 0,l,h=>by
  have:l=[]:=List.eq_nil_of_length_eq_zero (by omega);subst this;simp [Ack]
 | n+1,l,h=>by
  by_cases hl:l=[];subst hl;simp [Ack];rw [N1 p l hl];have hw:=Jw l;split;have:=Atz p n (l.drop (B2 l).2) (by rw [BV];omega);rw [BV] at this;have:=hw.2.2 hl;omega;omega
theorem K4 (p:Nat->Bool) (l:Bs):B6 p l<=l.length:=Atz p _ l (Nat.le_refl _)
def Jx (r:Nat):Option Nat:=if 48<=r/\r<=57 then some (r - 48) else if 97<=r/\r<=102 then some (r - 87) else if 65<=r/\r<=70 then some (r - 55) else none
def Li (hex:Bool):Nat->Nat->Bs->Option Nat
 | 0,n,_=>some n
 | _+1,n,[]=>some n
 | f+1,n,b :: t =>
  match Jx (B2 (b :: t)).1 with
  | none=>none
  | some d=>if d > 9 && !hex then none else
    Li hex f (if hex then (n * 16+d) % 18446744073709551616 else min (10 * n+d) 18446744073709551615) ((b :: t).drop (B2 (b :: t)).2)
def FP (hex:Bool) (n:Nat) (l:Bs):Option Nat:=Li hex l.length n l
def E_ (l:Bs):Bool:=[48,120].isPrefixOf l || [48,88].isPrefixOf l
def sint (u:Nat):Int:=if u < 9223372036854775808 then u else (u:Int) - 18446744073709551616
def F9 (l:Bs):Int×Int :=
 let rest:=if E_ l then l.drop 2 else l
 if rest=[] then (0,4) else
 match FP (E_ l) 0 rest with
 | none=>(0,4)
 | some u=>if !E_ l && u > 9223372036854775807 then (0,14) else (sint u,0)
def hexD (b:UInt8):Option Nat:=if 48<=b.toNat/\b.toNat<=57 then some (b.toNat - 48) else if 97<=b.toNat/\b.toNat<=102 then some (b.toNat - 87) else if 65<=b.toNat/\b.toNat<=70 then some (b.toNat - 55) else none
def B_:Nat->Bs->Nat->Nat->Nat×Nat
 | 0,_,n,k=>(n,k)
 | _+1,[],n,k=>(n,k)
 | m+1,b :: t,n,k=>match hexD b with | none=>(n,k) | some d=>B_ m t (16 * n+d) (k+1)
def DN:Nat->Bs->Nat->Nat->Nat×Nat
 | 0,_,n,k=>(n,k)
 | _+1,[],n,k=>(n,k)
 | m+1,b :: t,n,k=>if 48<=b.toNat/\b.toNat<=57 then DN m t (10 * n+(b.toNat - 48)) (k+1) else (n,k)
def FY (c:UInt8):UInt8:=if c=110 then 10 else if c=116 then 9 else if c=114 then 13 else if c=92\/c=34\/c=39 then c else 0
inductive Q8 where
 | ended
 | FQ
 | ok (bytes:Bs) (len:Nat)
def IZ:Bs->Q8
 | []=>.ended
 | c :: t =>
  if FY c≠0 then .ok [FY c] 2
  else if c=120 then
   if (B_ 2 t 0 0).2 < 2 then .FQ else .ok [UInt8.ofNat (B_ 2 t 0 0).1] 4
  else if c=117/\t.head? = some 123 then
   if (B_ 8 t.tail 0 0).2=0\/Utf8.valid (B_ 8 t.tail 0 0).1=false\/(t.tail.drop (B_ 8 t.tail 0 0).2).head?≠some 125 then .FQ
   else .ok (bs (Utf8.encode (B_ 8 t.tail 0 0).1)) (4+(B_ 8 t.tail 0 0).2)
  else if (DN 3 (c :: t) 0 0).2=0\/(DN 3 (c :: t) 0 0).1 > 255 then .FQ
  else .ok [UInt8.ofNat (DN 3 (c :: t) 0 0).1] (1+(DN 3 (c :: t) 0 0).2)
inductive X0 where
 | bad (code:Int) (rel:Nat)
 | ok (val:Bs) (len:Nat)
def Fv (q:UInt8):Nat->Bs->Bs->Nat->X0
 | 0,_,_,_=>.bad 4 0
 | _+1,[],_,_=>.bad 4 0
 | f+1,b :: t,acc,i =>
  if b=10 then .bad 4 0
  else if b=q then (if acc.length > 10000 then .bad 14 0 else .ok acc (i+1))
  else if b=92 then
   match IZ t with
   | .ended=>.bad 4 0
   | .FQ=>.bad 4 i
   | .ok e n=>Fv q f ((b :: t).drop n) (acc++e) (i+n)
  else Fv q f t (acc++[b]) (i+1)
def Xg:List Bs:=[[97,110,100],[98,114,101,97,107],[100,111],[101,108,115,101],[101,108,115,101,105,102],[101,110,100],[102,97,108,115,101],[102,111,114],[102,117,110,99,116,105,111,110],[105,102],[105,110],[108,111,99,97,108],[110,105,108],[110,111,116],[111,114],[114,101,116,117,114,110],[116,104,101,110],[116,114,117,101],[119,104,105,108,101]]
def LD (l:Bs):Bool:=Xg.contains l
def H6:List Bs:=[[61,61],[126,61],[60,61],[62,61],[47,47],[46,46],[43],[45],[42],[37],[60],[62],[61],[35],[40],[41],[123],[125],[91],[93],[59],[44],[46]]
def N2 (l:Bs):Option Bs:=H6.find? λs=>s.isPrefixOf l
inductive Step where
 | done
 | skip (n:Nat)
 | tok (kind:Int) (text:Bs) (n:Int) (len:Nat)
 | bad (code:Int) (rel:Nat)
def D9 (l:Bs):Step :=
 if l=[] then .done
 else if [45,45].isPrefixOf l then .skip (B6 KQ l)
 else if Ig (B2 l).1 then
  let n:=B6 Cm l
  if n > 40 then .bad 14 0 else .tok (if LD (l.take n) then 2 else 1) (l.take n) 0 n
 else if GN (B2 l).1 then
  let n:=B6 Cm l
  if (F9 (l.take n)).2≠0 then .bad (F9 (l.take n)).2 0 else .tok 3 (l.take n) (F9 (l.take n)).1 n
 else if (B2 l).1=34\/(B2 l).1=39 then
  match Fv (UInt8.ofNat (B2 l).1) l.length l.tail [] 1 with
  | .bad c r=>.bad c r
  | .ok v k=>.tok 4 v 0 k
 else match N2 l with
  | none=>.bad 4 0
  | some s=>.tok 5 s 0 s.length
structure Tok where
 kind:Int
 text:Bs
 n:Int
 at_:Nat
deriving DecidableEq
def H5:Nat->Bs->Nat->List Tok->(Int×Int) ⊕ List Tok
 | 0,_,at_,acc=>.inr (acc++[⟨6,[],0,at_⟩])
 | f+1,l,at_,acc =>
  let k:=B6 CE l
  match D9 (l.drop k) with
  | .done=>.inr (acc++[⟨6,[],0,at_+k⟩])
  | .skip n=>H5 f ((l.drop k).drop n) (at_+k+n) acc
  | .tok kind text n len=>H5 f ((l.drop k).drop len) (at_+k+len) (acc++[⟨kind,text,n,at_+k⟩])
  | .bad c r=>.inl (c,(at_+k+r:Nat))
def G1 (l:Bs):(Int×Int) ⊕ List Tok:=if l.length > 20000 then .inl (14,-1) else H5 (l.length+1) l 0 []
end Lx
end
section
open Go Go.RowKit Lx
section
variable {w w':World} {b i:Nat} {c:Array Value} {e:TypeId} {v:Value}
theorem KG {o:Obj} (h:w.heap[b]? = some o):b < w.heap.size:=(Array.getElem?_eq_some_iff.1 h).1
theorem FU {z:Nat×Nat} (h:w.heap[b]? = some (.cells c e z)) (i:Nat):w.cell? ⟨b,i,none⟩=c[i]?:=by simp [World.cell?,h]
theorem JV (h:w.heap[b]? = some (.cells c e (0,0))) (i:Nat):w.frozen? ⟨b,i,none⟩=false:=by simp [World.frozen?,h]
theorem QH {z:Nat×Nat} (h:w.heap[b]? = some (.cells c e z)) (i:Nat) (v:Value):(w.setCell ⟨b,i,none⟩ v).heap[b]? = some (.cells (c.setIfInBounds i v) e z):=by
 simp [World.setCell,Array.getElem?_modify,h]
theorem MH {o:Obj} {a:Addr} (h:w.heap[b]? = some o) (hne:a.block≠b) (v:Value):(w.setCell a v).heap[b]? = some o:=by
 rw [Below.heap_setCell w a v b (λe=>hne e.symm)];exact h
theorem MG {o o':Obj} (h:w.heap[b]? = some o):(w.alloc o').heap[b]? = some o:=by
 rw [Below.heap_alloc w o' b (KG h)];exact h
theorem A0u {o:Obj} (h:w.heap[b]? = some o):w.drew.heap[b]? = some o:=h
theorem Lw (w:World) (o:Obj):(w.alloc o).heap[w.heap.size]? = some o:=heap_alloc_new w o
theorem Lv {B:Nat} {o:Obj} (hb:Below B w w') (hlt:b < B) (h:w.heap[b]? = some o):w'.heap[b]? = some o:=by rw [hb.block b hlt];exact h
theorem XC {o:Obj} {row:Option Nat} (hg:w.grownBy w' row) (hne:row≠some b) (h:w.heap[b]? = some o):w'.heap[b]? = some o:=by
 rw [hg.block b (KG h) (λe=>hne e.symm)];exact h
theorem Blj (w:World) (vs:List Value) (e:TypeId) (n:Nat) (h:w.heap.size=n):∀ j u,vs[j]? = some u->(w.alloc (.cells vs.toArray e)).drew.cell? ((⟨n,0,none⟩:Addr).add j)=some u:=by
 intro j u hu;subst h;have hadd:(⟨w.heap.size,0,none⟩:Addr).add j=⟨w.heap.size,j,none⟩:=by unfold Addr.add;split <;> simp_all
 rw [hadd];simp [hu]
theorem Blk (w:World) (vs:List Value) (e:TypeId):∀ j u,vs[j]? = some u->(w.alloc (.cells vs.toArray e)).cell? ((⟨w.heap.size,0,none⟩:Addr).add j)=some u:=by
 intro j u hu;have hadd:(⟨w.heap.size,0,none⟩:Addr).add j=⟨w.heap.size,j,none⟩:=by unfold Addr.add;split <;> simp_all
 rw [hadd];simp [hu]
theorem Abf {w:World} {B:Nat} {e e':TypeId} {size n sb:Nat} {v:Value} {xs:List Value} {c:Array Value} {z:Nat×Nat} (h:w.ownsRow B e size v (n+1) xs) (hs:w.heap[sb]? = some (.cells c e' z)) (hne:e≠e') :
  ∃ g cap,v=.slice (some ⟨g,0,none⟩) (n+1) cap/\B<=g/\g≠sb:=by
 rcases h.2 with ⟨_,h⟩ | ⟨g,cap,cur,hv,hg,hh,_⟩;omega;refine ⟨g,cap,hv,hg,λh=>hne ?_⟩;subst h;rw [hs] at hh;cases hh;rfl
end
def W_ (t:Tok):List Value:=[.int .i64 t.kind,.string (str t.text),.int .i64 t.n,.int .i64 t.at_]
def Ma (l:List Tok):List Value:=l.flatMap W_
theorem Bwe (l:List Tok) (t:Tok):Ma (l++[t])=Ma l++W_ t:=by simp [Ma]
def Sc (B sb:Nat) (src:Ah) (at_:Nat) (l:List Tok) (w:World):Prop :=
 ∃ lv,w.heap[sb]? = some (.cells #[.string src,.int .i64 at_,lv] 105 (0,0))/\w.ownsRow B 82 4 lv l.length (Ma l)/\lv.ownBlock≠some sb/\B<=sb
section
variable {B sb at_:Nat} {src:Ah} {l:List Tok} {w w':World}
theorem Sc.keep (h:Sc B sb src at_ l w) (hk:∀ k,B<=k->k < w.heap.size->w'.heap[k]? = w.heap[k]?):Sc B sb src at_ l w':=by
 obtain ⟨lv,h1,h2,h3,h4⟩:=h;refine ⟨lv,by rw [hk sb h4 (KG h1)];exact h1,⟨h2.1,?_⟩,h3,h4⟩;rcases h2.2 with h | ⟨g,cap,cur,hv,hg,hh,r⟩;exact .inl h;exact .inr ⟨g,cap,cur,hv,hg,by rw [hk g hg (KG hh)];exact hh,r⟩
theorem Sc.alloc (h:Sc B sb src at_ l w) (o:Obj):Sc B sb src at_ l (w.alloc o):=h.keep λk _ hk=>Below.heap_alloc w o k hk
theorem Sc.drew (h:Sc B sb src at_ l w):Sc B sb src at_ l w.drew:=h.keep λ_ _ _=>rfl
theorem Sc.below {C:Nat} (h:Sc B sb src at_ l w) (hC:∀ k,B<=k->k < w.heap.size->k < C) (hb:Below C w w'):Sc B sb src at_ l w':=h.keep λk h1 h2=>hb.block k (hC k h1 h2)
theorem Sc.later (h:Sc B sb src at_ l w) (hb:Below w.heap.size w w'):Sc B sb src at_ l w':=h.keep λk _ hk=>hb.block k hk
theorem Sc.lt (h:Sc B sb src at_ l w):sb < w.heap.size:=by
 obtain ⟨lv,h1,_⟩:=h;exact KG h1
theorem Sc.base (h:Sc B sb src at_ l w):B<=sb:=by
 obtain ⟨lv,_,_,_,h4⟩:=h;exact h4
theorem Sc.reads (h:Sc B sb src at_ l w):sb < w.heap.size/\w.cell? ⟨sb,0,none⟩=some (.string src)/\w.cell? ⟨sb,1,none⟩=some (.int .i64 at_):=by
 obtain ⟨lv,h1,_⟩:=h;exact ⟨KG h1,by rw [FU h1];rfl,by rw [FU h1];rfl⟩
theorem Sc.move (h:Sc B sb src at_ l w) (at':Nat):Sc B sb src at' l (w.setCell ⟨sb,1,none⟩ (.int .i64 at')):=by
 obtain ⟨lv,h1,h2,h3,h4⟩:=h;refine ⟨lv,by rw [QH h1];rfl,⟨h2.1,?_⟩,h3,h4⟩;rcases h2.2 with h | ⟨g,cap,cur,hv,hg,hh,r⟩;exact .inl h;refine .inr ⟨g,cap,cur,hv,hg,MH hh (λe=>?_) _,r⟩;rw [hv] at h3;exact h3 (by simp only [Value.ownBlock];exact congrArg some e.symm)
theorem Sc.free (h:Sc B sb src at_ l w) (i:Nat):w.frozen? ⟨sb,i,none⟩=false:=by
 obtain ⟨lv,h1,_⟩:=h;exact JV h1 i
end
theorem Bhh:(Tryz.prog.info? 82).map (λi=>(i.zero,i.size,i.bytes))=some (some (.agg #[.int .i64 0,.string ByteArray.empty,.int .i64 0,.int .i64 0]),4,40):=by kernel_rfl
abbrev J_ (c a:Int):Ending:=.panicked [{ v:=.iface 102 (.agg #[.int .i64 c,.int .i64 a]),recovered:=false }]
set_option maxHeartbeats 400000 in
theorem NS (c n:Int) (w:World) :
  Calls Tryz.prog 116 #[.int .i64 c,.int .i64 n] w λe w'=>e=J_ c n/\w=w':=by
 go_enter Tryz.func116,Tryz.ntmps116
 go_wp2
 exact ⟨rfl,rfl,rfl⟩
set_option maxHeartbeats 400000 in
theorem M6 (p:Value) (n:Int) (w:World) :
  Calls Tryz.prog 142 #[p,.int .i64 n] w λe w'=>e=J_ 4 n/\w=w':=by
 go_enter Tryz.func142,Tryz.ntmps142
 go_wp2_with ((go_at_call 116;refine (NS _ _ _).mono ?_;rintro e w' ⟨rfl,rfl⟩))
 exact ⟨rfl,rfl,rfl⟩
set_option maxHeartbeats 1000000 in
theorem add_any (B sb at_:Nat) (src:Ah) (l:List Tok) (n:Nat) (k x m:Int) (t:Ah) (w:World)
  (h:Sc B sb src at_ l w) (hB:B<=w.heap.size) (hl:l.length<=100000) (hat:at_+n<=1000000) :
  Calls Tryz.prog 40 #[.pointer (some ⟨sb,0,none⟩),.agg #[.int .i64 k,.string t,.int .i64 x,.int .i64 m],.int .i64 n] w
   λe w'=>e=.returned (.tuple #[])/\Sc B sb src (at_+n) (l++[⟨k,bs t,x,at_⟩]) w'/\Below B w w':=by
 obtain ⟨lv,hblk,hown,hne,hsb⟩:=h
 have hb:=KG hblk
 have c0:w.cell? ⟨sb,0,none⟩=some (.string src):=by rw [FU hblk];rfl
 have c1:w.cell? ⟨sb,1,none⟩=some (.int .i64 at_):=by rw [FU hblk];rfl
 have c2:w.cell? ⟨sb,2,none⟩=some lv:=by rw [FU hblk];rfl
 have HB:=Lib.hid hblk;clear hblk
 obtain ⟨i0,hi,hz0,hz1,hz2⟩:=info_parts Bhh
 go_enter Tryz.func40,Tryz.ntmps40
 go_wp2
 refine K9 [(0,0),(1,0),(2,0),(3,0),(4,3),(5,3),(6,1)] (λw'=>w'.cell? ⟨sb,2,none⟩=some lv/\w'.cell? ⟨w.heap.size,0,none⟩=some (.int .i64 k)/\w'.cell? ⟨w.heap.size,1,none⟩=some (.string t)/\w'.cell? ⟨w.heap.size,2,none⟩=some (.int .i64 x)/\w'.cell? ⟨w.heap.size,3,none⟩=some (.int .i64 at_)) (by kernel_rfl) (by kernel_rfl) (λ_ _ d _ _ h=>by cases d <;> exact h) (by refine ⟨?_,?_,?_,?_,?_⟩ <;> go_simp) ?_
 simp only [DP,List.filterMap_cons,List.filterMap_nil,List.getElem?_toArray,List.getElem?_cons_zero,List.getElem?_cons_succ,Option.map_some,List.drop_succ_cons,List.drop_zero,AX,Bp]
 iterate 4 (refine DY (by rfl) (λwq=>by go_simp;with_reducible rfl) ?_;simp only [Act.put,List.setIfInBounds_toArray,List.set_cons_zero,List.set_cons_succ])
 iterate 2 (refine Gj (by rfl) (λwq hq=>by obtain ⟨hq0,hq1,hq2,hq3,hq4⟩:=hq;go_simp;with_reducible rfl) ?_;simp only [Act.put,List.setIfInBounds_toArray,List.set_cons_zero,List.set_cons_succ])
 refine Qg ?_ ?_
 ·rfl
 intro K hK
 go_wp2
 refine ⟨by refine ⟨?_,?_,?_,?_,?_⟩ <;> go_simp,?_⟩
 refine Lf ?_
 refine wpList_append_own _ rfl _ _ 73 rfl B 82 i0 _ 4 40 Tryz.underlying73 hi hz0 hz1 hz2 rfl (by decide) lv l.length (Ma l) rfl ((hown.alloc _).alloc _) ⟨w.heap.size+1,0,none⟩ 1 1 [.int .i64 k,.string t,.int .i64 x,.int .i64 at_] rfl rfl ?_ ?_ ?_ ?_ ?_ ?_
 ·exact Blj (w.alloc _) _ _ _ (by simp)
 ·simp [Value.oneCell']
 ·unfold maxLen;omega
 ·omega
 ·simp;omega
 intro v1 w1 hown1 Yz _
 have HB1:=Lib.hid (XC Yz hne (A0u (MG (MG HB.out))))
 have d1:w1.cell? ⟨sb,1,none⟩=some (.int .i64 at_):=by rw [FU HB1.out];rfl
 have d2:w1.cell? ⟨sb,2,none⟩=some lv:=by rw [FU HB1.out];rfl
 have e1:=JV HB1.out 1
 have e2:=JV HB1.out 2
 obtain ⟨g1,cap1,hv1,hg1,hne1⟩:=Abf hown1 HB1.out (by decide)
 have hown1:w1.ownsRow B 82 4 (.slice (some ⟨g1,0,none⟩) (l.length+1) cap1) (l.length+1) (Ma l++[.int .i64 k,.string t,.int .i64 x,.int .i64 at_]):=by rw [<- hv1];exact hown1
 rw [hv1]
 have HO:=Lib.hid hown1
 have HG:=Lib.hid Yz
 have HV:=Lib.hid hv1
 clear hown1 Yz c0 c1 c2 hi hz0 hz1 hz2 hv1
 go_wp2
 go_end0
 have hb2:Below B w w1:=((((Below.refl B w).alloc hB _).alloc (by simp;omega) _).drew).grown HG.out (by simp;omega) (λk hk=>(hown.lt k hk).1)
 refine ⟨rfl,?_,?_⟩
 ·refine ⟨.slice (some ⟨g1,0,none⟩) (l.length+1) cap1,?_,?_,by simp only [Value.ownBlock];exact λh=>hne1 (Ao h),hsb⟩
  ·rw [QH (QH HB1.out 2 _) 1 _];simp
  ·rw [BT,List.length_singleton,Bwe]
   have e:W_ ⟨k,bs t,x,at_⟩=[.int .i64 k,.string t,.int .i64 x,.int .i64 at_]:=by simp [W_,Ac7]
   rw [e]
   refine ⟨HO.out.1,?_⟩
   rcases HO.out.2 with ⟨h,_⟩ | ⟨g,cap,cur,hv,hg,hh,r⟩
   ·cases h
   ·cases hv
    exact .inr ⟨g1,cap1,cur,rfl,hg,MH (MH hh (λh=>hne1 h.symm) _) (λh=>hne1 h.symm) _,r⟩
 ·exact (hb2.setCell hsb _).setCell hsb _
end
end Go.Proofs.YteccladehmaglaaGreatDoor
