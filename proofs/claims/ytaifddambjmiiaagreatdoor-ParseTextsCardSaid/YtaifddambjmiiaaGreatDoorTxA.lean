/- Texts of mine for parseTexts_card, part 1. -/
import Derived.OrdersHeld
import Derived.Lib.Hide
import Derived.WalkKit
import Derived.WalkSpells
import Derived.WalkLawsBesides
import Derived.Test.YtaifddambjmiiaaGreatDoorProg
set_option linter.unusedSimpArgs false
set_option linter.unusedVariables false
set_option linter.unusedSectionVars false
namespace Go.Proofs.YtaifddambjmiiaaGreatDoor
set_option maxRecDepth 100000
abbrev Ah:=ByteArray
theorem I.{u} {α:Sort u} {a:α}:a=a:=rfl
theorem Aj:True:=trivial
theorem Al.{u,v} {α:Type u} {β:Type v} (a:α) (f:α->Option β):(some a).bind f=f a:=rfl
theorem Ap.{u} {α:Type u} {a b:α} (h:some a=some b):a=b:=Option.some.inj h
theorem Bv.{u} {α:Type u} {l m:List α}:(l++m).length=l.length+m.length:=List.length_append
theorem AH.{u} {α:Type u} {a:α} {l:List α}:(a :: l).length=l.length+1:=rfl
theorem AX.{u} {α:Type u}:([]:List α).length=0:=rfl
theorem Bx.{u} {α:Type u} (l m r:List α):l++m++r=l++(m++r):=List.append_assoc l m r
theorem AY {n m:Nat} (h:Nat.ble n m=true):n<=m:=Nat.le_of_ble_eq_true h
theorem Db.{u} {α:Type u} {a:α} {l:List α}:a ∈ a :: l:=List.mem_cons_self
theorem DF.{u} {α:Type u} {a:α} (y:α) {l:List α} (h:a ∈ l):a ∈ y :: l:=List.mem_cons_of_mem y h
theorem GN.{u} {α:Type u} {a b:α}:a ∈ [b] ↔ a=b:=List.mem_singleton
theorem GO.{u} {α:Type u} {a:α} {s t:List α}:a ∈ s++t ↔ a ∈ s\/a ∈ t:=List.mem_append
theorem BA.{u} {α:Type u} {i:Nat} {l:List α}:(l.drop i).length=l.length - i:=List.length_drop
abbrev TyA:=List (Int×Int×Int×Int)
abbrev TyB:=List (Int×Int×Ah)
abbrev D9:=List Ah
abbrev TyL:=List (List Int)
abbrev AG:=Option Addr
abbrev TyU:=List (Option (Ah×Int×Int×TyB×TyA))
abbrev TyF:=List (Ah×Int×Int×Int×TyB)
section
open Go Go.RowKit
section
variable {P:Program} {ops:Array Oper} {Q:Exit->Act->World->Prop} {md:Region.Mode} {S:World->Prop} {E:List Nat}
def Gz (md:Region.Mode) (ops:Array Oper):Nat->Nat->Nat->Bool
 | 0,_,_=>false
 | f+1,j,i =>
  match ops[j]? with
  | some oj=>oj.after.any λe=>Region.binds md e && (e.on == i || Gz md ops f e.on i)
  | none=>false
def Closed (md:Region.Mode) (ops:Array Oper) (listed:Array Bool):Prop :=
 ∀ j oj,ops[j]? = some oj->listed.getD j false=true->∀ e ∈ oj.after,Region.binds md e=true->listed.getD e.on false=true
theorem Closed.set {i:Nat} {listed:Array Bool} (h:Closed md ops listed) (hi:i ∈ Region.ready md ops listed):Closed md ops (listed.setIfInBounds i true):=by
 obtain ⟨_,oi,hoi,hall⟩:=mem_ready.1 hi;intro j oj hj hl e he hb;by_cases hij:i=j;subst hij;rw [hoi] at hj;cases hj;exact getD_set_true (hall e he hb);rw [getD_set_ne false hij] at hl;exact getD_set_true (h j oj hj hl e he hb)
theorem Closed.waits {listed:Array Bool} (h:Closed md ops listed) (i:Nat):∀ (f j:Nat),Gz md ops f j i=true->listed.getD j false=true->listed.getD i false=true
 | 0,_,hw,_=>by simp [Gz] at hw
 | f+1,j,hw,hl=>by
  simp only [Gz] at hw;split at hw;rename_i oj hoj;obtain ⟨e,he,hb⟩:=Array.any_eq_true'.1 hw;simp only [Bool.and_eq_true,Bool.or_eq_true,beq_iff_eq] at hb;have h1:=h j oj hoj hl e he hb.1;rcases hb.2 with h2 | h2;rw [<- h2];exact h1;exact Closed.waits h i f e.on h2 h1;cases hw
theorem XW {i:Nat} {listed:Array Bool} (h0:listed.getD i true=false) (h1:listed.getD i false=true):False:=by
 rcases Nat.lt_or_ge i listed.size with h' | h';simp [h'] at h0 h1;rw [h0] at h1;cases h1;simp [h'] at h1
def Lk (md:Region.Mode) (ops:Array Oper) (E:List Nat) (j:Nat):Bool:=!(E.all λi=>Gz md ops ops.size j i)
theorem Bqa {i j:Nat} {listed:Array Bool} (hc:Closed md ops listed) (hi:i ∈ E) (hl:listed.getD i true=false) (hj:j ∈ Region.ready md ops listed):Lk md ops E j=true:=by
 unfold Lk;rw [Bool.not_eq_true',Bool.eq_false_iff];intro hall;have hw:=List.all_eq_true.1 hall i hi;obtain ⟨_,oj,hoj,A9m⟩:=mem_ready.1 hj;cases hn:ops.size with
 | zero=>rw [hn] at hw;simp [Gz] at hw
 | succ f =>
  rw [hn] at hw;simp only [Gz,hoj] at hw;obtain ⟨e,he,hb⟩:=Array.any_eq_true'.1 hw;simp only [Bool.and_eq_true,Bool.or_eq_true,beq_iff_eq] at hb;have h1:=A9m e he hb.1;rcases hb.2 with h2 | h2;rw [h2] at h1;exact XW hl h1;exact XW hl (hc.waits i f e.on h2 h1)
def wpAnyS (P:Program) (md:Region.Mode) (ops:Array Oper) (Q:Exit->Act->World->Prop) (S:World->Prop) (E:List Nat):Nat->Array Bool->Act->World->Prop
 | 0,listed,a,w=>Region.ready md ops listed=[]/\Q .normal a w
 | fuel+1,listed,a,w =>
  (Region.ready md ops listed=[]->Q .normal a w) /\
  ∀ i ∈ Region.ready md ops listed,wpOp P ops Q i (λa' w'=>(Lk md ops E i=true->S w->S w')/\wpAnyS P md ops Q S E fuel (listed.setIfInBounds i true) a' w') a w
theorem ZR:∀ (fuel:Nat) (listed:Array Bool) (a:Act) (w:World),wpAnyS P md ops Q S E fuel listed a w->wpAny P md ops Q fuel listed a w
 | 0,_,_,_,h=>h
 | fuel+1,_,_,_,h=>⟨h.1,λi hi=>wpOp_mono (λa' w' h'=>ZR fuel _ a' w' h'.2) (h.2 i hi)⟩
theorem wpAnyS_first {T:World->Prop} {i:Nat} {oi:Oper} {v:Value} (hi:ops[i]? = some oi) (hsel:∀ (j:Nat) (o:Oper) cs b,ops[j]? = some o->o.op≠.select cs b)
  (hQ:∀ c a w,Q (.panic c) (a.put oi.dst v) w->Q (.panic c) a w) (hT:(∀ w,T w)\/(i ∈ E/\∀ w,S w->T w)) :
  ∀ (fuel:Nat) (listed:Array Bool) (a:Act) (w:World),Closed md ops listed ->
   (∀ j oj,ops[j]? = some oj->j≠i->listed.getD j true=false->(∀ e ∈ oj.after,Region.binds md e=true->e.on≠i)->oi.apart ops oj=true) ->
   i ∈ Region.ready md ops listed->YieldsIf P ops T oi v a->((∀ w,T w)\/S w) ->
   wpAnyS P md ops Q S E fuel (listed.setIfInBounds i true) (a.put oi.dst v) w->wpAnyS P md ops Q S E (fuel+1) listed a w:=by
 intro fuel;induction fuel with
 | zero =>
  intro listed a w _ _ hr hy hSw H;have hTw:T w:=hT.elim (λh=>h w) (λh=>hSw.elim (λh=>h w) (λh'=>h.2 w h'));refine ⟨λh=>(by rw [h] at hr;cases hr),λj hj=>?_⟩;by_cases hji:j=i;subst hji;exact hy.wpOp hi hTw ⟨λ_ h=>h,H⟩;have:=ready_mono hj hji;rw [H.1] at this;cases this
 | succ fuel ih =>
  intro listed a w hcl hfree hr hy hSw H;have hTw:T w:=hT.elim (λh=>h w) (λh=>hSw.elim (λh=>h w) (λh'=>h.2 w h'));refine ⟨λh=>(by rw [h] at hr;cases hr),λj hj=>?_⟩;by_cases hji:j=i;subst hji;exact hy.wpOp hi hTw ⟨λ_ h=>h,H⟩;have h1:=H.2 j (ready_mono hj hji);obtain ⟨hjun,oj,hoj,hall⟩:=mem_ready.1 hj;have hnot:∀ e ∈ oj.after,Region.binds md e=true->e.on≠i:=λe he hb heq=>by
   have h1:=hall e he hb;rw [heq] at h1;exact XW (mem_ready.1 hr).1 h1
  have h2:=wpOp_putIf hoj (hfree j oj hoj hji hjun hnot) (λcs b=>hsel i oi cs b hi) (λcs b=>hsel j oj cs b hoj) hQ hy h1;have hfree':∀ k ok,ops[k]? = some ok->k≠i->(listed.setIfInBounds j true).getD k true=false ->
    (∀ e ∈ ok.after,Region.binds md e=true->e.on≠i)->oi.apart ops ok=true:=λk ok hk hki hun hno=>by
   refine hfree k ok hk hki ?_ hno;by_cases hjk:j=k;subst hjk;exact hjun;rw [getD_set_ne true hjk] at hun;exact hun
  refine wpOp_mono (λa' w' h3=>⟨h3.2.1,?_⟩) h2;have hH:=h3.2.2;rw [Array.setIfInBounds_comm _ _ (Ne.symm hji)] at hH;refine ih (listed.setIfInBounds j true) a' w' (hcl.set hj) hfree' (ready_mono hr (Ne.symm hji)) h3.1 ?_ hH;rcases hSw with h | h;exact .inl h;rcases hT with h' | h';exact .inl h';exact .inr (h3.2.1 (Bqa hcl h'.1 (mem_ready.1 hr).1 hj) h)
def MS (md:Region.Mode) (ops:Array Oper) (E:List Nat):Nat->Nat->Array Bool->Bool
 | 0,_,listed=>(Region.ready md ops listed).isEmpty
 | g+1,k,listed=>decide (Region.ready md ops listed=[k]) && !Lk md ops E k && MS md ops E g (k+1) (listed.setIfInBounds k true)
theorem As7:∀ (l:List Oper) (k:Nat) (listed:Array Bool) (a:Act) (w:World),(∀ j,l[j]? = ops[k+j]?) ->
  MS md ops E l.length k listed=true->wpList P ops Q l a w->wpAnyS P md ops Q S E l.length listed a w
 | [],_,_,_,_,_,hB,h=>⟨by simpa [MS] using hB,h⟩
 | o :: l,k,listed,a,w,hl,hB,h=>by
  have h0:ops[k]? = some o:=by simpa using (hl 0).symm
  simp only [AH,MS,Bool.and_eq_true,decide_eq_true_eq,Bool.not_eq_true'] at hB;refine ⟨λh1=>(by rw [hB.1.1] at h1;cases h1),λi hi=>?_⟩;rw [hB.1.1] at hi;have hik:i=k:=by simpa using hi
  subst hik;have hw:wpOp P ops Q i (wpList P ops Q l) a w:=by unfold wpOp;simp only [h0];exact h
  exact wpOp_mono (λa' w' h'=>⟨λhc=>(by rw [hB.1.2] at hc;cases hc),As7 l (i+1) _ a' w' (λj=>by have:=hl (j+1);simpa [Nat.add_assoc,Nat.add_comm 1 j] using this) hB.2 h'⟩) hw
def BH (P:Program) (ops:Array Oper) (Q:Exit->Act->World->Prop) (S:World->Prop) (tail:Act->World->Prop):List (Oper×Nat)->Act->World->Prop
 | [],a,w=>tail a w
 | (o,0) :: rest,a,w=>∃ v,YieldsIf P ops (λ_=>True) o v a/\BH P ops Q S tail rest (a.put o.dst v) w
 | (o,1) :: rest,a,w=>∀ K:Act->World->Prop,(∀ a' w',(S w'/\BH P ops Q S tail rest a' w')->K a' w') ->
   if Region.wanted o (yielded ops a.tmps) then o.wp P a w K Q else K (a.put o.dst undef) w
 | (o,2) :: rest,a,w=>∀ K:Act->World->Prop,(∀ a' w',BH P ops Q S tail rest a' w'->K a' w') ->
   if Region.wanted o (yielded ops a.tmps) then o.wp P a w K Q else K (a.put o.dst undef) w
 | (o,_) :: rest,a,w=>∃ v,YieldsIf P ops S o v a/\BH P ops Q S tail rest (a.put o.dst v) w
def Dz (ops:Array Oper) (plan:List (Nat×Nat)):List (Oper×Nat):=plan.filterMap λx=>(ops[x.1]?).map λo=>(o,x.2)
def GB (ops:Array Oper) (E:List Nat) (n:Nat):List (Nat×Nat)->Array Bool->Bool
 | [],listed=>MS .any ops E (ops.size - n) n listed
 | (i,0) :: rest,listed=>decide (i < ops.size) && (Region.ready .any ops listed).contains i && Region.free .any ops listed i && GB ops E n rest (listed.setIfInBounds i true)
 | (i,1) :: rest,listed=>decide (i < ops.size) && decide (Region.ready .any ops listed=[i]) && GB ops E n rest (listed.setIfInBounds i true)
 | (i,2) :: rest,listed=>decide (i < ops.size) && decide (Region.ready .any ops listed=[i]) && !Lk .any ops E i && !(rest.any (·.2 == 3)) && GB ops E n rest (listed.setIfInBounds i true)
 | (i,k+3) :: rest,listed=>decide (k=0) && E.contains i && decide (i < ops.size) && (Region.ready .any ops listed).contains i && Region.free .any ops listed i && GB ops E n rest (listed.setIfInBounds i true)
theorem SI (l:List Oper) (n:Nat) (hsel:Region.noSelect l.toArray=true)
  (hQ:∀ c a d v w,Q (.panic c) (Act.put a d v) w->Q (.panic c) a w) :
  ∀ (plan:List (Nat×Nat)) (listed:Array Bool) (a:Act) (w:World),Closed .any l.toArray listed->GB l.toArray E n plan listed=true->(plan.any (·.2 == 3)=true->S w) ->
   BH P l.toArray Q S (wpList P l.toArray Q (l.drop n)) (Dz l.toArray plan) a w->wpAnyS P .any l.toArray Q S E (plan.length+(l.toArray.size - n)) listed a w
 | [],listed,a,w,_,hB,_,h=>by
  simp only [GB] at hB;have hd:(l.drop n).length=l.toArray.size - n:=by simp
  have:=As7 (S:=S) (l.drop n) n listed a w (λj=>by simp) (by rw [hd];exact hB) h
  simpa using this
 | (i,0) :: rest,listed,a,w,hcl,hB,hS,h=>by
  simp only [GB,Bool.and_eq_true,decide_eq_true_eq] at hB;obtain ⟨⟨⟨hi,hr⟩,hf⟩,hB'⟩:=hB;have ho:l.toArray[i]? = some l.toArray[i]:=by simp
  simp only [Dz,List.filterMap_cons,ho,Option.map_some,BH] at h;obtain ⟨v,hy,h⟩:=h;have hr':i ∈ Region.ready .any l.toArray listed:=by simpa using hr
  rw [show (((i,0) :: rest:List (Nat×Nat)).length+(l.toArray.size - n))=(rest.length+(l.toArray.size - n))+1 by simp only [AH];omega];exact wpAnyS_first ho (Region.noSelect_spec hsel) (λc a w=>hQ c a _ v w) (.inl λ_=>Aj) _ listed a w hcl (Region.free_spec ho hf) hr' hy (.inl λ_=>Aj)
   (SI l n hsel hQ rest _ _ w (hcl.set hr') hB' (λh=>hS (by simpa using h)) h)
 | (i,1) :: rest,listed,a,w,hcl,hB,hS,h=>by
  simp only [GB,Bool.and_eq_true,decide_eq_true_eq] at hB;obtain ⟨⟨hi,hr⟩,hB'⟩:=hB;have ho:l.toArray[i]? = some l.toArray[i]:=by simp
  simp only [Dz,List.filterMap_cons,ho,Option.map_some,BH] at h;rw [show (((i,1) :: rest:List (Nat×Nat)).length+(l.toArray.size - n))=(rest.length+(l.toArray.size - n))+1 by simp only [AH];omega];refine ⟨λh0=>(by rw [hr] at h0;cases h0),λj hj=>?_⟩;have hj':=hj;rw [hr] at hj;have hji:j=i:=by simpa using hj
  subst hji;have h:=h _ (λa' w' h=>h);unfold wpOp;rw [ho];simp only;have step:∀ a' w',(S w'/\BH P l.toArray Q S (wpList P l.toArray Q (l.drop n)) (Dz l.toArray rest) a' w') ->
    ((Lk .any l.toArray E j=true->S w->S w')/\wpAnyS P .any l.toArray Q S E (rest.length+(l.toArray.size - n)) (listed.setIfInBounds j true) a' w') :=
   λa' w' ⟨hSw,hp⟩=>⟨λ_ _=>hSw,SI l n hsel hQ rest _ _ w' (hcl.set hj') hB' (λ_=>hSw) hp⟩
  split;rename_i hw;rw [if_pos hw] at h;exact .inl (Oper.wp_mono step h);rename_i hw;rw [if_neg hw] at h;exact step _ _ h
 | (i,2) :: rest,listed,a,w,hcl,hB,hS,h=>by
  simp only [GB,Bool.and_eq_true,decide_eq_true_eq,Bool.not_eq_true'] at hB;obtain ⟨⟨⟨⟨hi,hr⟩,hn⟩,hno⟩,hB'⟩:=hB;have ho:l.toArray[i]? = some l.toArray[i]:=by simp
  simp only [Dz,List.filterMap_cons,ho,Option.map_some,BH] at h;rw [show (((i,2) :: rest:List (Nat×Nat)).length+(l.toArray.size - n))=(rest.length+(l.toArray.size - n))+1 by simp only [AH];omega];refine ⟨λh0=>(by rw [hr] at h0;cases h0),λj hj=>?_⟩;have hj':=hj;rw [hr] at hj;have hji:j=i:=by simpa using hj
  subst hji;have h:=h _ (λa' w' h=>h);unfold wpOp;rw [ho];simp only;have step:∀ a' w',BH P l.toArray Q S (wpList P l.toArray Q (l.drop n)) (Dz l.toArray rest) a' w' ->
    ((Lk .any l.toArray E j=true->S w->S w')/\wpAnyS P .any l.toArray Q S E (rest.length+(l.toArray.size - n)) (listed.setIfInBounds j true) a' w') :=
   λa' w' hp=>⟨λhc=>(by rw [hn] at hc;cases hc),SI l n hsel hQ rest _ _ w' (hcl.set hj') hB' (λhc=>(by rw [hno] at hc;cases hc)) hp⟩
  split;rename_i hw;rw [if_pos hw] at h;exact .inl (Oper.wp_mono step h);rename_i hw;rw [if_neg hw] at h;exact step _ _ h
 | (i,k+3) :: rest,listed,a,w,hcl,hB,hS,h=>by
  simp only [GB,Bool.and_eq_true,decide_eq_true_eq] at hB;obtain ⟨⟨⟨⟨⟨hk,hE⟩,hi⟩,hr⟩,hf⟩,hB'⟩:=hB;subst hk;have ho:l.toArray[i]? = some l.toArray[i]:=by simp
  simp only [Dz,List.filterMap_cons,ho,Option.map_some,BH] at h;obtain ⟨v,hy,h⟩:=h;have hr':i ∈ Region.ready .any l.toArray listed:=by simpa using hr
  have hSw:S w:=hS (by simp);rw [show (((i,0+3) :: rest:List (Nat×Nat)).length+(l.toArray.size - n))=(rest.length+(l.toArray.size - n))+1 by simp only [AH];omega];exact wpAnyS_first (T:=S) ho (Region.noSelect_spec hsel) (λc a w=>hQ c a _ v w) (.inr ⟨by simpa using hE,λ_ h=>h⟩) _ listed a w hcl (Region.free_spec ho hf) hr' hy (.inr hSw)
   (SI l n hsel hQ rest _ _ w (hcl.set hr') hB' (λ_=>hSw) h)
def QL (plan:List (Nat×Nat)):List Nat:=plan.filterMap λx=>if x.2 == 3 then some x.1 else none
theorem Jm {id:Nat} {a:Act} {w:World} {l:List Oper} (plan:List (Nat×Nat)) (S:World->Prop) (hm:P.follows .mixedOrders=true)
  (hB:(Region.noSelect l.toArray && decide (plan.length<=l.length) && GB l.toArray (QL plan) plan.length plan (Array.replicate l.toArray.size false))=true)
  (hQ:∀ c a d v w,Q (.panic c) (Act.put a d v) w->Q (.panic c) a w) (hS:S w.drew)
  (h:BH P l.toArray Q S (wpList P l.toArray Q (l.drop plan.length)) (Dz l.toArray plan) a w.drew):(Code.region id l.toArray true).wp P Q a w:=by
 simp only [Bool.and_eq_true,decide_eq_true_eq] at hB
 obtain ⟨⟨hsel,hlen⟩,hB⟩:=hB
 refine wp_region_any hm ?_
 have hcl:Closed .any l.toArray (Array.replicate l.toArray.size false):=λj oj _ hl=>by
  rw [show (Array.replicate l.toArray.size false).getD j false=false by
   rcases Nat.lt_or_ge j l.toArray.size with h' | h' <;> (simp [Array.getD_eq_getD_getElem?,Array.getElem?_replicate];try split <;> rfl)] at hl
  cases hl
 have:=SI (P:=P) (Q:=Q) (S:=S) l plan.length hsel hQ plan _ a w.drew hcl hB (λ_=>hS) h
 have:=ZR _ _ _ _ this
 rw [show plan.length+(l.toArray.size - plan.length)=l.toArray.size by simp only [List.size_toArray];omega] at this
 exact this
section steps
variable {T:Act->World->Prop} {o:Oper} {rest:List (Oper×Nat)} {a:Act} {w:World} {v:Value}
theorem DJ (hg:Region.wanted o (yielded ops a.tmps)=true) (hy:∀ w,(execOp a.eval o).run P w=.ok (.value v) w) (h:BH P ops Q S T rest (a.put o.dst v) w) :
  BH P ops Q S T ((o,0) :: rest) a w:=⟨v,.inl ⟨hg,λw _=>hy w⟩,h⟩
theorem Bxt (hg:Region.wanted o (yielded ops a.tmps)=false) (h:BH P ops Q S T rest (a.put o.dst undef) w):BH P ops Q S T ((o,0) :: rest) a w:=⟨undef,.inr ⟨hg,rfl⟩,h⟩
theorem Bxu (hg:Region.wanted o (yielded ops a.tmps)=false) (h:BH P ops Q S T rest (a.put o.dst undef) w):BH P ops Q S T ((o,3) :: rest) a w:=⟨undef,.inr ⟨hg,rfl⟩,h⟩
theorem FA (hg:Region.wanted o (yielded ops a.tmps)=true) (hy:∀ w,S w->(execOp a.eval o).run P w=.ok (.value v) w) (h:BH P ops Q S T rest (a.put o.dst v) w) :
  BH P ops Q S T ((o,3) :: rest) a w:=⟨v,.inl ⟨hg,hy⟩,h⟩
theorem Ou (hg:Region.wanted o (yielded ops a.tmps)=true)
  (h:∀ K:Act->World->Prop,(∀ a' w',(S w'/\BH P ops Q S T rest a' w')->K a' w')->o.wp P a w K Q):BH P ops Q S T ((o,1) :: rest) a w :=
 λK hK=>by rw [if_pos hg];exact h K hK
theorem JC (h:T a w):BH P ops Q S T [] a w:=h
end steps
end
abbrev Ar (x:Int):Int:=IntKind.i64.wrap x
abbrev Am:=Nat->Option Obj
def blk (b:Nat) (o:Obj):Am:=λk=>if k=b then some o else none
def Am.Apart (f g:Am):Prop:=∀ k,f k=none\/g k=none
def Am.On (f:Am) (w:World):Prop:=∀ k o,f k=some o->w.heap[k]? = some o
def Sat:List Am->World->Prop
 | [],_=>True
 | f :: l,w=>f.On w/\(∀ g ∈ l,f.Apart g)/\Sat l w
theorem Am.Apart.symm {f g:Am} (h:f.Apart g):g.Apart f:=λk=>(h k).symm
theorem Sat.on:∀ {l:List Am} {w:World},Sat l w->∀ f ∈ l,f.On w
 | _ :: _,_,h,f,hf=>by
  rcases List.mem_cons.1 hf with rfl | hf;exact h.1;exact h.2.2.on f hf
theorem Sat.perm {l l':List Am} (hp:l.Perm l') {w:World} (h:Sat l w):Sat l' w:=by
 induction hp with
 | nil=>trivial
 | cons x hp ih=>exact ⟨h.1,λg hg=>h.2.1 g (hp.mem_iff.2 hg),ih h.2.2⟩
 | swap x y l =>
  obtain ⟨h1,h2,h3,h4,h5⟩:=h;refine ⟨h3,λg hg=>?_,h1,λg hg=>h2 g (DF _ hg),h5⟩;rcases List.mem_cons.1 hg with rfl | hg
  ·exact (h2 x (Db ..)).symm
  ·exact h4 g hg
 | trans _ _ ih1 ih2=>exact ih2 (ih1 h)
theorem Sat.lt {l:List Am} {w:World} (h:Sat l w) {f:Am} (hf:f ∈ l) {k:Nat} {o:Obj} (hk:f k=some o):k < w.heap.size :=
 (Array.getElem?_eq_some_iff.1 (h.on f hf k o hk)).1
theorem Sat.keep:∀ {l:List Am} {w w':World},Sat l w->(∀ f ∈ l,∀ k o,f k=some o->w'.heap[k]? = w.heap[k]?)->Sat l w'
 | [],_,_,_,_=>trivial
 | f :: l,w,w',h,hk=>⟨λk o e=>(hk f (Db ..) k o e).trans (h.1 k o e),h.2.1,h.2.2.keep λg hg=>hk g (DF _ hg)⟩
theorem Sat.app {l l':List Am} {w:World} (h:Sat (l++l') w):Sat l w/\Sat l' w:=by
 induction l with
 | nil=>exact ⟨Aj,h⟩
 | cons f l ih=>exact ⟨⟨h.1,λg hg=>h.2.1 g (List.mem_append_left _ hg),(ih h.2.2).1⟩,(ih h.2.2).2⟩
theorem Sat.new {l:List Am} {w:World} (h:Sat l w) (o:Obj):Sat (blk w.heap.size o :: l) (w.alloc o):=by
 refine ⟨λk o' hk=>?_,λg hg k=>?_,h.keep λf hf k o' hk=>?_⟩;unfold blk at hk;split at hk;rename_i e;subst e;cases hk;exact heap_alloc_new w _;cases hk;unfold blk;split;rename_i e;subst e;cases hgk:g w.heap.size with
 | none=>exact .inr rfl
 | some o'=>exact absurd (h.lt hg hgk) (Nat.lt_irrefl _)
 exact .inl rfl;exact Below.heap_alloc w o k (h.lt hf hk)
theorem Sat.set {l:List Am} {w:World} {b:Nat} {cs:Array Value} {e:TypeId} {z:Nat×Nat} (h:Sat (blk b (.cells cs e z) :: l) w) (i:Nat) (v:Value) :
  Sat (blk b (.cells (cs.setIfInBounds i v) e z) :: l) (w.setCell ⟨b,i,none⟩ v):=by
 refine ⟨λk o hk=>?_,λg hg k=>?_,h.2.2.keep λf hf k o hk=>?_⟩;unfold blk at hk;split at hk;rename_i e';subst e';cases hk;have:=h.1 k (.cells cs e z) (by simp [blk]);simp [World.setCell,Array.getElem?_modify,this];cases hk;rcases h.2.1 g hg k with h' | h';unfold blk at h' ⊢;split at h';cases h';rename_i e';rw [if_neg e'];exact .inl rfl;exact .inr h';refine Below.heap_setCell w ⟨b,i,none⟩ v k λe'=>?_;have e':k=b:=e';rcases h.2.1 f hf k with h' | h';simp [blk,e'] at h';rw [h'] at hk;cases hk
theorem Sat.cell {l:List Am} {w:World} {b:Nat} {cs:Array Value} {e:TypeId} {z:Nat×Nat} (h:Sat l w) (hb:blk b (.cells cs e z) ∈ l) (i:Nat):w.cell? ⟨b,i,none⟩=cs[i]?:=by
 have:=h.on _ hb b (.cells cs e z) (by simp [blk]);simp [World.cell?,this]
theorem Sat.free {l:List Am} {w:World} {b:Nat} {cs:Array Value} {e:TypeId} (h:Sat l w) (hb:blk b (.cells cs e (0,0)) ∈ l) (i:Nat):w.frozen? ⟨b,i,none⟩=false:=by
 have:=h.on _ hb b (.cells cs e (0,0)) (by simp [blk]);simp [World.frozen?,this]
structure St (A:World) (l:List Am) (w:World):Prop where
 sat:Sat l w
 os:w.os=A.os
 tape:w.tape=A.tape
 output:w.output=A.output
 size:A.heap.size<=w.heap.size
section
variable {A w w':World} {l l':List Am}
theorem St.perm (hp:l.Perm l') (h:St A l w):St A l' w:=⟨h.sat.perm hp,h.os,h.tape,h.output,h.size⟩
theorem St.new (h:St A l w) (o:Obj):St A (blk w.heap.size o :: l) (w.alloc o):=⟨h.sat.new o,h.os,h.tape,h.output,by have:=h.size;simp;omega⟩
theorem St.drew (h:St A l w):St A l w.drew:=⟨h.sat.keep λ_ _ _ _ _=>rfl,h.os,h.tape,h.output,h.size⟩
theorem St.tail {f:Am} (h:St A (f :: l) w):St A l w:=⟨h.sat.2.2,h.os,h.tape,h.output,h.size⟩
theorem St.set {b:Nat} {cs:Array Value} {e:TypeId} {z:Nat×Nat} (h:St A (blk b (.cells cs e z) :: l) w) (i:Nat) (v:Value) :
  St A (blk b (.cells (cs.setIfInBounds i v) e z) :: l) (w.setCell ⟨b,i,none⟩ v):=⟨h.sat.set i v,h.os,h.tape,h.output,by have:=h.size;simp;omega⟩
theorem St.below (h:St A l w) (hb:Below w.heap.size w w'):St A l w' :=
 ⟨h.sat.keep λ_ hf k o hk=>hb.block k (h.sat.lt hf hk),hb.os.trans h.os,hb.tape.trans h.tape,hb.output.trans h.output,Nat.le_trans h.size hb.size⟩
def old (w:World):Am:=λk=>w.heap[k]?
theorem St.start (w:World):St w [old w] w:=⟨⟨λ_ _ h=>h,λ_ h=>(by cases h),Aj⟩,rfl,rfl,rfl,Nat.le_refl _⟩
theorem St.end_ (h:St A (l++[old A]) w'):Below A.heap.size A w' :=
 ⟨h.os,h.tape,h.output,h.size,λk hk=>by
  have h1:=h.sat.on (old A) (by simp) k A.heap[k] (by simp [old,hk]);rw [h1];simp [hk]⟩
end
abbrev Env:=List (Nat×Value)
def Env.get:Env->Nat->Option Value
 | [],_=>none
 | (k,v) :: r,i=>cond (Nat.beq k i) (some v) (Env.get r i)
structure Holds (ds:List Deferred) (n:Nat) (env:Env) (a:Act):Prop where
 size:a.tmps.size=n
 defers:a.defers=ds
 at_:∀ i v,env.get i=some v->a.tmps.getD i undef=v
def B9 (env:Env):Operand->Option Value
 | .tmp t=>env.get t
 | .const v=>some v
 | .global g=>some (.pointer (some ⟨g,0,none⟩))
 | .func f=>some (.func (.func f) #[] #[])
def rho (env:Env) (x:Operand):Value:=(B9 env x).getD undef
def allB:List Operand->Env->Bool
 | [],_=>true
 | x :: r,env=>match B9 env x with | some _=>allB r env | none=>false
theorem Holds.eval {ds:List Deferred} {n:Nat} {env:Env} {a:Act} (h:Holds ds n env a) {x:Operand} {v:Value} (hx:B9 env x=some v):a.eval x=v:=by
 cases x with
 | tmp t=>exact h.at_ t v hx
 | const u=>exact Ap hx
 | global g=>exact Ap hx
 | func f=>exact Ap hx
theorem Holds.rho {ds:List Deferred} {n:Nat} {env:Env} {a:Act} (h:Holds ds n env a) {xs:List Operand} (hx:allB xs env=true):∀ x ∈ xs,a.eval x=rho env x:=by
 induction xs with
 | nil=>intro x hx;cases hx
 | cons y r ih =>
  intro x hm;unfold allB at hx;split at hx;rename_i v hv;rcases List.mem_cons.1 hm with rfl | hm;rw [h.eval hv];simp [Go.Proofs.YtaifddambjmiiaaGreatDoor.rho,hv];exact ih hx x hm;cases hx
theorem Holds.put {ds:List Deferred} {n:Nat} {env:Env} {a:Act} (h:Holds ds n env a) (d:Nat) (v:Value) (hd:d < n):Holds ds n ((d,v) :: env) (a.put (some d) v):=by
 refine ⟨by simp [Act.put,h.size],h.defers,λi u hi=>?_⟩;simp only [Env.get] at hi;simp only [Act.put,Array.getD_eq_getD_getElem?,Array.getElem?_setIfInBounds];cases hb:Nat.beq d i with
 | true =>
  have:d=i:=Nat.eq_of_beq_eq_true hb;subst this;rw [hb] at hi;cases hi;simp [h.size,hd]
 | false =>
  have:d≠i:=Nat.ne_of_beq_eq_false hb;rw [hb] at hi;rw [if_neg this];have:=h.at_ i u hi;rw [Array.getD_eq_getD_getElem?] at this;exact this
def Bk (env:Env):Option Nat->Value->Env
 | some d,v=>(d,v) :: env
 | none,_=>env
def inB (n:Nat):Option Nat->Bool
 | some d=>Nat.blt d n
 | none=>true
theorem Holds.Bk {ds:List Deferred} {n:Nat} {env:Env} {a:Act} (h:Holds ds n env a) {d:Option Nat} (v:Value) (hd:inB n d=true):Holds ds n (Bk env d v) (a.put d v):=by
 cases d with
 | none=>exact h
 | some d=>exact h.put d v (by simpa [inB,Nat.blt_eq] using hd)
def Sub (env:Env):Env->Prop
 | []=>True
 | (k,v) :: r=>env.get k=some v/\Sub env r
theorem Sub.get {env:Env}:∀ {sub:Env},Sub env sub->∀ i v,sub.get i=some v->env.get i=some v
 | (k,u) :: r,h,i,v,hi=>by
  simp only [Env.get] at hi;cases hb:Nat.beq k i with
  | true =>
   rw [hb] at hi;cases hi;rw [<- Nat.eq_of_beq_eq_true hb];exact h.1
  | false=>rw [hb] at hi;exact h.2.get i v hi
theorem Holds.sub {ds:List Deferred} {n:Nat} {env sub:Env} {a:Act} (h:Holds ds n env a) (hs:Sub env sub):Holds ds n sub a:=⟨h.size,h.defers,λi v hi=>h.at_ i v (hs.get i v hi)⟩
def K (ds:List Deferred) (A:World) (n:Nat) (env:Env) (l:List Am) (q:Act->World->Prop):Prop:=∀ a w,Holds ds n env a->St A l w->q a w
section
variable {A:World} {ds:List Deferred} {n:Nat} {env env':Env} {l l':List Am} {q:Act->World->Prop} {P:Program} {Q:Exit->Act->World->Prop}
theorem K.weak (h:K ds A n env' l q) (hs:Sub env env'):K ds A n env l q:=λa w ha hw=>h a w (ha.sub hs) hw
theorem K.perm (h:K ds A n env l' q) (hp:l.Perm l'):K ds A n env l q:=λa w ha hw=>h a w ha (hw.perm hp)
theorem Ao {f:Am} (h:K ds A n env l q):K ds A n env (f :: l) q:=λa w ha hw=>h a w ha hw.tail
theorem Ak {a b:Am} (h:K ds A n env (b :: a :: l) q):K ds A n env (a :: b :: l) q:=h.perm (List.Perm.swap ..)
theorem Aq {a b c:Am} (h:K ds A n env (c :: a :: b :: l) q):K ds A n env (a :: b :: c :: l) q:=h.perm ((List.Perm.swap c b l).cons a |>.trans (List.Perm.swap ..))
theorem Av {a b c d:Am} (h:K ds A n env (d :: a :: b :: c :: l) q):K ds A n env (a :: b :: c :: d :: l) q :=
 h.perm ((((List.Perm.swap d c l).cons b).cons a).trans (((List.Perm.swap d b _).cons a).trans (List.Perm.swap ..)))
theorem Cu {a b c d e:Am} (h:K ds A n env (e :: a :: b :: c :: d :: l) q):K ds A n env (a :: b :: c :: d :: e :: l) q :=
 h.perm (((((List.Perm.swap e d l).cons c).cons b).cons a).trans ((((List.Perm.swap e c _).cons b).cons a).trans (((List.Perm.swap e b _).cons a).trans (List.Perm.swap ..))))
theorem AF (h:K ds A n env l (Q .normal)):K ds A n env l (Code.skip.wp P Q):=λa w ha hw=>wp_skip (h a w ha hw)
theorem CH {id:Nat} (h:K ds A n env l (Q (.exit id))):K ds A n env l ((Code.exit id).wp P Q):=λa w ha hw=>wp_exit (h a w ha hw)
theorem AT (h:K ds A n env l (Q .ret)):K ds A n env l (Code.ret.wp P Q):=λa w ha hw=>wp_ret (h a w ha hw)
theorem Bq {id:Nat} {c:Code} (h:K ds A n env l (c.wp P (Exit.inBlock id Q))):K ds A n env l ((Code.block id c).wp P Q):=λa w ha hw=>wp_block (h a w ha hw)
theorem AU {x y:Code} (h:K ds A n env l (x.wp P (Exit.then (y.wp P Q) Q))):K ds A n env l ((Code.seq x y).wp P Q):=λa w ha hw=>wp_seq (h a w ha hw)
theorem CI {id:Nat} (h:K ds A n env l (Q .normal)):K ds A n env l (Exit.inBlock id Q (.exit id)):=λa w ha hw=>by
 simp only [Exit.inBlock,if_true];exact h a w ha hw
theorem R0 {id id':Nat} (hne:Nat.beq id' id=false) (h:K ds A n env l (Q (.exit id'))):K ds A n env l (Exit.inBlock id Q (.exit id')):=λa w ha hw=>by
 simp only [Exit.inBlock,if_neg (Nat.ne_of_beq_eq_false hne)];exact h a w ha hw
theorem Xy {c:Operand} {x y:Code} (hc:B9 env c=some (.bool true)) (hx:K ds A n env l (x.wp P Q)):K ds A n env l ((Code.cond c x y).wp P Q) :=
 λa w ha hw=>wp_cond_true (ha.eval hc) (hx a w ha hw)
theorem Xx {c:Operand} {x y:Code} (hc:B9 env c=some (.bool false)) (hx:K ds A n env l (y.wp P Q)):K ds A n env l ((Code.cond c x y).wp P Q) :=
 λa w ha hw=>wp_cond_false (ha.eval hc) (hx a w ha hw)
theorem AK {id:Nat} {ops:List Oper} (h:K ds A n env l (wpList P ops.toArray Q ops)):K ds A n env l ((Code.region id ops.toArray false).wp P Q):=λa w ha hw=>wp_region_lit (h a w ha hw)
theorem M7 {ops:Array Oper} (h:K ds A n env l (Q .normal)):K ds A n env l (wpList P ops Q []):=λa w ha hw=>wpList_nil (h a w ha hw)
theorem B3l {c:Code} {a:Act} {w:World} (Aa:Nat->Act->World->Prop) (m:Nat) (h0:Aa m a w)
  (round:∀ m a w,Aa m a w->c.wp P (Exit.then (λa' w'=>∃ k,k < m/\Aa k a' w') Q) a w):(Code.loop c).wp P Q a w:=by
 intro b k cs;have key:∀ m a w,Aa m a w->∃ e a' w',Q e a' w'/\Arrives P (lone (b.at a (.code c :: .inLoop c :: k)) cs w) b k cs e a' w':=by
  intro m;induction m using Nat.strongRecOn with
  | _ m ih =>
   intro a w hI;obtain ⟨e,a₁,w₁,hq,harr⟩:=round m a w hI b (.inLoop c :: k) cs;cases e with
   | normal =>
    obtain ⟨j,hlt,hI₁⟩:=hq;obtain ⟨e₂,a₂,w₂,hq₂,harr₂⟩:=ih j hlt a₁ w₁ hI₁;exact ⟨e₂,a₂,w₂,hq₂,.of_steps (Steps.trans harr (.one step_inLoop)) harr₂⟩
   | exit id=>exact ⟨_,a₁,w₁,hq,.pass (x:=.inLoop c) rfl (λ_ _=>.inl (by simp)) harr⟩
   | goto l=>exact ⟨_,a₁,w₁,hq,.pass (x:=.inLoop c) rfl (λ_ _=>.inl (by simp)) harr⟩
   | ret=>exact ⟨_,a₁,w₁,hq,.pass (x:=.inLoop c) rfl (λ_ _=>.inl (by simp)) harr⟩
   | panic ch=>exact ⟨_,a₁,w₁,hq,.pass (x:=.inLoop c) rfl (λ_ _=>.inl (by simp)) harr⟩
   | outgrown=>exact ⟨_,a₁,w₁,hq,.pass (x:=.inLoop c) rfl (λ_ _=>.inl (by simp)) harr⟩
 obtain ⟨e,a',w',hq,harr⟩:=key m a w h0;exact ⟨e,a',w',hq,.of_steps (.one step_loop) harr⟩
def Aay {τ:Type} (ds:List Deferred) (A:World) (n:Nat) (E:τ->Env) (L:τ->List Am) (S:Nat->τ->Prop) (m:Nat) (a:Act) (w:World):Prop :=
 ∃ k,k < m/\∃ t,S k t/\Holds ds n (E t) a/\St A (L t) w
theorem CW {τ:Type} {c:Code} (E:τ->Env) (L:τ->List Am) (S:Nat->τ->Prop) (m:Nat) (t:τ) (h0:S m t) (hs:Sub env (E t)) (hl:l=L t)
  (round:∀ m t,S m t->K ds A n (E t) (L t) (c.wp P (Exit.then (Aay ds A n E L S m) Q))):K ds A n env l ((Code.loop c).wp P Q):=λa w ha hw=>by
 subst hl;refine B3l (λm a w=>∃ t,S m t/\Holds ds n (E t) a/\St A (L t) w) m ⟨t,h0,ha.sub hs,hw⟩ ?_;rintro m a w ⟨t,hS,ha,hw⟩;exact round m t hS a w ha hw
theorem Cw {τ:Type} {E:τ->Env} {L:τ->List Am} {S:Nat->τ->Prop} {m:Nat} (k:Nat) (t:τ) (hk:k < m) (hS:S k t) (hs:Sub env (E t)) (hl:l=L t):K ds A n env l (Aay ds A n E L S m) :=
 λ_ _ ha hw=>⟨k,hk,t,hS,ha.sub hs,by subst hl;exact hw⟩
end
def FB (P:Program) {α:Type}:Sem α->Option α
 | .pure a=>some a
 | .program k=>FB P (k P)
 | .mark _ k=>FB P k
 | _=>none
theorem PA {P:Program} {α:Type}:∀ {e:Sem α} {x:α} {w:World},FB P e=some x->e.run P w=.ok x w
 | .pure a,x,w,h=>by simp only [FB,Option.some.injEq] at h;subst h;rfl
 | .program k,x,w,h=>by simp only [FB] at h;simp only [Sem.run];exact PA h
 | .mark m k,x,w,h=>by simp only [FB] at h;simp only [Sem.run];exact PA h
 | .load ..,_,_,h | .store ..,_,_,h | .new ..,_,_,h | .shape ..,_,_,h | .freeze ..,_,_,h | .frozen ..,_,_,h | .getObj ..,_,_,h | .setObj ..,_,_,h | .choose ..,_,_,h | .sys ..,_,_,h | .halt ..,_,_,h=>by simp [FB] at h
def M3 (P:Program) {α:Type}:Sem α->Option Halt
 | .halt h=>some h
 | .program k=>M3 P (k P)
 | .mark _ k=>M3 P k
 | _=>none
theorem Wf {P:Program} {α:Type}:∀ {e:Sem α} {x:Halt} {w:World},M3 P e=some x->e.run P w=.halt x w
 | .halt a,x,w,h=>by simp only [M3,Option.some.injEq] at h;subst h;rfl
 | .program k,x,w,h=>by simp only [M3] at h;simp only [Sem.run];exact Wf h
 | .mark m k,x,w,h=>by simp only [M3] at h;simp only [Sem.run];exact Wf h
 | .load ..,_,_,h | .store ..,_,_,h | .new ..,_,_,h | .shape ..,_,_,h | .freeze ..,_,_,h | .frozen ..,_,_,h | .getObj ..,_,_,h | .setObj ..,_,_,h | .choose ..,_,_,h | .sys ..,_,_,h | .pure ..,_,_,h=>by simp [M3] at h
theorem Oa {α β:Type} {f g:α->β} {xs:Array α} (h:∀ x ∈ xs,f x=g x):xs.map f=xs.map g:=Array.map_congr_left h
def D8:Op->Bool
 | .select ..=>false
 | _=>true
theorem execOp_congr (ρ ρ':Operand->Value) (o:Oper) (hs:D8 o.op=true) (h:∀ x ∈ o.op.operands.toList,ρ x=ρ' x):execOp ρ o=execOp ρ' o:=by
 obtain ⟨dst,op,ty,pos,after,guard⟩:=o;have ha:∀ x ∈ op.operands,ρ x=ρ' x:=λx hx=>h x (Array.mem_toList_iff.2 hx);clear h;cases op with
 | select cs b=>cases hs
 | call c =>
  obtain ⟨callee,args,argTypes⟩:=c;have h2:args.map ρ=args.map ρ':=Oa λx hx=>ha x (by cases callee <;> simp [Op.operands,Call.operands,hx]);cases callee with
  | value f=>have h1:ρ f=ρ' f:=ha f (by simp [Op.operands,Call.operands]);simp only [execOp,resolve,h1,h2]
  | invoke r m=>have h1:ρ r=ρ' r:=ha r (by simp [Op.operands,Call.operands]);simp only [execOp,resolve,h1,h2]
  | builtin b=>simp only [execOp,resolve,h2]
 | go c =>
  obtain ⟨callee,args,argTypes⟩:=c;have h2:args.map ρ=args.map ρ':=Oa λx hx=>ha x (by cases callee <;> simp [Op.operands,Call.operands,hx]);cases callee with
  | value f=>have h1:ρ f=ρ' f:=ha f (by simp [Op.operands,Call.operands]);simp only [execOp,resolve,h1,h2]
  | invoke r m=>have h1:ρ r=ρ' r:=ha r (by simp [Op.operands,Call.operands]);simp only [execOp,resolve,h1,h2]
  | builtin b=>simp only [execOp,resolve,h2]
 | defer c =>
  obtain ⟨callee,args,argTypes⟩:=c;have h2:args.map ρ=args.map ρ':=Oa λx hx=>ha x (by cases callee <;> simp [Op.operands,Call.operands,hx]);cases callee with
  | value f=>have h1:ρ f=ρ' f:=ha f (by simp [Op.operands,Call.operands]);simp only [execOp,resolve,h1,h2]
  | invoke r m=>have h1:ρ r=ρ' r:=ha r (by simp [Op.operands,Call.operands]);simp only [execOp,resolve,h1,h2]
  | builtin b=>simp only [execOp,resolve,h2]
 | build t ps =>
  have h1:(ps.map λ(i,x)=>(i,ρ x))=(ps.map λ(i,x)=>(i,ρ' x)):=Oa λx hx=>by
   obtain ⟨i,y⟩:=x;have:=ha y (by simp only [Op.operands,List.mem_toArray,List.mem_map];exact ⟨(i,y),Array.mem_toList_iff.2 hx,rfl⟩);simp [this]
  simp only [execOp,h1]
 | buildSlice t n ps =>
  have h1:(ps.map λ(i,x)=>(i,ρ x))=(ps.map λ(i,x)=>(i,ρ' x)):=Oa λx hx=>by
   obtain ⟨i,y⟩:=x;have:=ha y (by simp only [Op.operands,List.mem_toArray,List.mem_map];exact ⟨(i,y),Array.mem_toList_iff.2 hx,rfl⟩);simp [this]
  simp only [execOp,h1]
 | makeFunc fn first captured =>
  have h1:first.map ρ=first.map ρ':=Oa λx hx=>ha x (by simp [Op.operands,hx])
  have h2:captured.map ρ=captured.map ρ':=Oa λx hx=>ha x (by simp [Op.operands,hx]);simp only [execOp,h1,h2]
 | makeMap t r=>cases r with
  | none=>rfl
  | some x=>have h1:ρ x=ρ' x:=ha x (by simp [Op.operands]);simp only [execOp,Option.map_some,h1]
 | slice t x lo hi mx =>
  have h0:ρ x=ρ' x:=ha x (by simp [Op.operands]);have h1:lo.map ρ=lo.map ρ':=by cases lo with | none=>rfl | some y=>exact congrArg some (ha y (by simp [Op.operands]))
  have h2:hi.map ρ=hi.map ρ':=by cases hi with | none=>rfl | some y=>exact congrArg some (ha y (by simp [Op.operands]))
  have h3:mx.map ρ=mx.map ρ':=by cases mx with | none=>rfl | some y=>exact congrArg some (ha y (by simp [Op.operands]))
  simp only [execOp,h0,h1,h2,h3]
 | alloc | ready | waits=>rfl
 | move x | assign x | box _ x | load _ x | nilCheck x | unOp _ _ x | convert _ _ x | sliceToArrayPointer _ x | makeInterface _ x | makeChan _ x | fieldAddr _ x _ | field _ x _ | range _ x | next x _ | entry x | typeAssert x _ _ _ | extract x _ | panic x | recv _ x _ =>
  have h1:ρ x=ρ' x:=ha x (by simp [Op.operands]);simp only [execOp,h1]
 | pick x y z | mapUpdate _ x y z | entryStore _ x y z | insert _ x y z =>
  have h1:ρ x=ρ' x:=ha x (by simp [Op.operands]);have h2:ρ y=ρ' y:=ha y (by simp [Op.operands]);have h3:ρ z=ρ' z:=ha z (by simp [Op.operands]);simp only [execOp,h1,h2,h3]
 | store _ x y | binOp _ _ x y _ | makeSlice _ x y | indexAddr _ x y | index _ x y | lookup _ x y _ | mapEntry _ x y | send x y =>
  have h1:ρ x=ρ' x:=ha x (by simp [Op.operands]);have h2:ρ y=ρ' y:=ha y (by simp [Op.operands]);simp only [execOp,h1,h2]
def BK (ops:Array Oper) (env:Env) (o:Oper):Option Bool :=
 match o.guard with
 | none=>some true
 | some (j,want) =>
  match (ops[j]?).bind (·.dst) with
  | none=>none
  | some d=>match env.get d with
   | some (.bool b)=>some (b == want)
   | some (.tuple _)=>some false
   | _=>none
theorem F_ {ops:Array Oper} {ds:List Deferred} {n:Nat} {env:Env} {a:Act} {o:Oper} {b:Bool} (ha:Holds ds n env a) (h:BK ops env o=some b):Region.wanted o (yielded ops a.tmps)=b:=by
 unfold BK at h;unfold Region.wanted;split at h;rename_i hg;rw [hg];exact Ap h;rename_i j want hg;rw [hg];split at h;cases h;rename_i d hd;have hy:∀ v,env.get d=some v->v≠undef->a.tmps[d]? = some v:=λv hv hne=>by
  have:=ha.at_ d v hv;rw [Array.getD_eq_getD_getElem?] at this;cases hq:a.tmps[d]? with
  | none=>rw [hq] at this;exact absurd this.symm hne
  | some u=>rw [hq] at this;exact congrArg some this
 split at h;rename_i b' hv;have:=hy _ hv (by intro e;cases e);simp only [yielded,hd,Al,this];have:=Ap h;subst this;cases b' <;> cases want <;> rfl;rename_i t hv;have:=ha.at_ d _ hv;have hb:=Ap h;subst hb;rw [Array.getD_eq_getD_getElem?] at this;simp only [yielded,hd,Al];cases hq:a.tmps[d]? with
 | none=>rfl
 | some u =>
  rw [hq] at this;simp only [Option.getD_some] at this;subst this;rfl
 cases h
def Hq (P:Program) (ops:Array Oper) (n:Nat):List Oper->Env->Option Env
 | [],env=>some env
 | o :: rest,env =>
  match BK ops env o with
  | none=>none
  | some false=>match inB n o.dst with
   | true=>Hq P ops n rest (Bk env o.dst undef)
   | false=>none
  | some true=>match D8 o.op && allB o.op.operands.toList env && inB n o.dst with
   | false=>none
   | true=>match FB P (execOp (rho env) o) with
    | some (.value v)=>Hq P ops n rest (Bk env o.dst v)
    | _=>none
def picks:List Nat->Env->Option (List Value)
 | [],_=>some []
 | k :: ks,env=>match env.get k with
  | none=>none
  | some v=>(picks ks env).map (v :: ·)
theorem U3:∀ {sub:Env} {env:Env},picks (sub.map (·.1)) env=some (sub.map (·.2))->Sub env sub
 | [],_,_=>trivial
 | (k,v) :: r,env,h=>by
  simp only [List.map_cons,picks] at h;split at h;cases h;rename_i u hu;cases hp:picks (r.map (·.1)) env with
  | none=>rw [hp] at h;cases h
  | some vs =>
   rw [hp] at h;simp only [Option.map_some,Option.some.injEq,List.cons.injEq] at h;exact ⟨hu.trans (congrArg some h.1),U3 (hp.trans (congrArg some h.2))⟩
section
variable {A:World} {ds:List Deferred} {n:Nat} {env env':Env} {l l' X:List Am} {q:Act->World->Prop} {P:Program} {Q:Exit->Act->World->Prop} {ops:Array Oper} {os rest:List Oper} {o:Oper}
theorem Ec (hg:BK ops env o=some true) (h:K ds A n env l (λa w=>o.wp P a w (wpList P ops Q rest) Q)):K ds A n env l (wpList P ops Q (o :: rest)):=λa w ha hw=>by
 unfold wpList;rw [if_pos (F_ ha hg)];exact .inl (h a w ha hw)
theorem JB {v:Value} (hs:(D8 o.op && allB o.op.operands.toList env && inB n o.dst)=true) (hv:FB P (execOp (rho env) o)=some (.value v)) {q:Act->World->Prop} (h:K ds A n (Bk env o.dst v) l q) :
  K ds A n env l (λa w=>o.wp P a w q Q):=λa w ha hw=>by
 simp only [Bool.and_eq_true] at hs;unfold Oper.wp;rw [execOp_congr a.eval (rho env) o hs.1.1 (ha.rho hs.1.2),PA hv];exact h _ _ (ha.Bk v hs.2) hw
theorem Bo0 (hg:BK ops env o=some false) (hd:inB n o.dst=true) (h:K ds A n (Bk env o.dst undef) l (wpList P ops Q rest)):K ds A n env l (wpList P ops Q (o :: rest)):=λa w ha hw=>by
 unfold wpList;rw [if_neg (by rw [F_ ha hg];simp)];exact h _ _ (ha.Bk _ hd) hw
theorem Ug:∀ (os:List Oper) (env:Env),Hq P ops n os env=some env'->K ds A n env' l (wpList P ops Q rest)->K ds A n env l (wpList P ops Q (os++rest))
 | [],env,h,hk=>by simp only [Hq,Option.some.injEq] at h;subst h;exact hk
 | o :: os,env,h,hk=>by
  simp only [Hq] at h;split at h;cases h;rename_i hg;split at h;rename_i hd;exact Bo0 hg hd (Ug os _ h hk);cases h;rename_i hg;split at h;cases h;rename_i hs;split at h;rename_i v hv;exact Ec hg (JB hs hv (Ug os _ h hk));cases h
theorem Aiq (m:Nat) (sub:Env) (h:(Hq P ops n (os.take m) env).bind (picks (sub.map (·.1)))=some (sub.map (·.2))) (hk:K ds A n sub l (wpList P ops Q (os.drop m))):K ds A n env l (wpList P ops Q os):=by
 cases hs:Hq P ops n (os.take m) env with
 | none=>rw [hs] at h;cases h
 | some JU =>
  rw [hs] at h;have:=Ug (rest:=os.drop m) (os.take m) env hs (K.weak hk (U3 h))
  rwa [List.take_append_drop] at this
inductive Orc where
 | val (v:Value)
 | num (b:Nat)
inductive Ev where
 | ld (a:Addr) (v:Value)
 | st (a:Addr) (v:Value)
 | nw (o:Obj) (b:Nat)
def follow (P:Program) {α:Type}:Sem α->List Orc->Option (α×List Ev)
 | .pure x,_=>some (x,[])
 | .program k,os=>follow P (k P) os
 | .mark _ k,os=>follow P k os
 | .load _ a k,.val v :: os=>match follow P (k v) os with
  | some (x,es)=>some (x,.ld a v :: es)
  | none=>none
 | .store _ a v k,os=>match follow P k os with
  | some (x,es)=>some (x,.st a v :: es)
  | none=>none
 | .new o k,.num b :: os=>match follow P (k b) os with
  | some (x,es)=>some (x,.nw o b :: es)
  | none=>none
 | _,_=>none
def Mr:List Ev->World->World->Prop
 | [],w,w'=>w=w'
 | .ld a v :: es,w,w'=>w.cell? a=some v/\Mr es w w'
 | .st a v :: es,w,w'=>v.oneCell'=true/\(∃ u,w.cell? a=some u)/\w.frozen? a=false/\Mr es (w.setCell a v) w'
 | .nw o b :: es,w,w'=>b=w.heap.size/\Mr es (w.alloc o) w'
theorem I2 {α:Type}:∀ {e:Sem α} {os:List Orc} {x:α} {es:List Ev} {w w':World},follow P e os=some (x,es)->Mr es w w'->e.run P w=.ok x w'
 | .pure a,_,x,es,w,w',h,he=>by
  simp only [follow,Option.some.injEq,Prod.mk.injEq] at h;obtain ⟨rfl,rfl⟩:=h;cases he;rfl
 | .program k,os,x,es,w,w',h,he=>by simp only [follow] at h;simp only [Sem.run];exact I2 h he
 | .mark m k,os,x,es,w,w',h,he=>by simp only [follow] at h;simp only [Sem.run];exact I2 h he
 | .load m a k,[],x,es,w,w',h,he=>by simp [follow] at h
 | .load m a k,.num _ :: _,x,es,w,w',h,he=>by simp [follow] at h
 | .load m a k,.val v :: os,x,es,w,w',h,he=>by
  simp only [follow] at h;split at h;rename_i y es' hf;simp only [Option.some.injEq,Prod.mk.injEq] at h;obtain ⟨rfl,rfl⟩:=h;simp only [Sem.run,he.1];exact I2 hf he.2;cases h
 | .store m a v k,os,x,es,w,w',h,he=>by
  simp only [follow] at h;split at h;rename_i y es' hf;simp only [Option.some.injEq,Prod.mk.injEq] at h;obtain ⟨rfl,rfl⟩:=h;obtain ⟨h1,⟨u,h2⟩,h3,h4⟩:=he;have:=I2 hf h4;cases v <;> first | (simp [Value.oneCell'] at h1;done) | (simp only [Sem.run,h2,h3,Bool.false_eq_true,if_false];exact this)
  cases h
 | .new o k,[],x,es,w,w',h,he=>by simp [follow] at h
 | .new o k,.val _ :: _,x,es,w,w',h,he=>by simp [follow] at h
 | .new o k,.num b :: os,x,es,w,w',h,he=>by
  simp only [follow] at h;split at h;rename_i y es' hf;simp only [Option.some.injEq,Prod.mk.injEq] at h;obtain ⟨rfl,rfl⟩:=h;obtain ⟨rfl,h4⟩:=he;simp only [Sem.run];exact I2 hf h4;cases h
 | .shape ..,_,_,_,_,_,h,_ | .freeze ..,_,_,_,_,_,h,_ | .frozen ..,_,_,_,_,_,h,_ | .getObj ..,_,_,_,_,_,h,_ | .setObj ..,_,_,_,_,_,h,_ | .choose ..,_,_,_,_,_,h,_ | .sys ..,_,_,_,_,_,h,_ | .halt ..,_,_,_,_,_,h,_=>by simp [follow] at h
def Jo (l:List Am):List Ev->Prop
 | []=>True
 | .ld a v :: es=>(∃ (i:Nat) (cs:Array Value) (e:TypeId) (z:Nat×Nat),l[i]? = some (blk a.block (.cells cs e z))/\a.spot=none/\cs[a.off]? = some v)/\Jo l es
 | _=>False
theorem Jo.evs {w:World} (hw:St A l w):∀ {es:List Ev},Jo l es->Mr es w w
 | [],_=>rfl
 | .ld a v :: es,h=>by
  obtain ⟨⟨i,cs,e,z,h1,h2,h3⟩,h4⟩:=h;refine ⟨?_,h4.evs hw⟩;have:=hw.sat.cell (List.mem_of_getElem? h1) a.off;rw [h3] at this;have e':a=⟨a.block,a.off,none⟩:=by cases a;simp only at h2;subst h2;rfl
  rw [e'];exact this
 | Ev.st .. :: _,h=>h.elim
 | Ev.nw .. :: _,h=>h.elim
theorem Bw5 {v:Value} {q:Act->World->Prop} (vs:List Orc) (es:List Ev) (hs:(D8 o.op && allB o.op.operands.toList env && inB n o.dst)=true) (hf:follow P (execOp (rho env) o) vs=some (.value v,es)) (hl:Jo l es) (h:K ds A n (Bk env o.dst v) l q) :
  K ds A n env l (λa w=>o.wp P a w q Q):=λa w ha hw=>by
 simp only [Bool.and_eq_true] at hs;unfold Oper.wp;rw [execOp_congr a.eval (rho env) o hs.1.1 (ha.rho hs.1.2),I2 hf (hl.evs hw)];exact h _ _ (ha.Bk v hs.2) hw
theorem Aip {v:Value} (vs:List Orc) (es:List Ev) (hg:BK ops env o=some true) (hs:(D8 o.op && allB o.op.operands.toList env && inB n o.dst)=true) (hf:follow P (execOp (rho env) o) vs=some (.value v,es)) (hl:Jo l es)
  (h:K ds A n (Bk env o.dst v) l (wpList P ops Q rest)):K ds A n env l (wpList P ops Q (o :: rest)):=Ec hg (Bw5 vs es hs hf hl h)
def MQ (b:Nat) (e:TypeId):List Ev->Array Value->Option (Array Value)
 | [],cs=>some cs
 | .st a v :: es,cs=>match a.spot,v.oneCell',Nat.blt a.off cs.size with
  | none,true,true=>MQ b e es (cs.setIfInBounds a.off v)
  | _,_,_=>none
 | _,_=>none
def S4 (b:Nat):List Ev->Prop
 | []=>True
 | .st a _ :: es=>a.block=b/\S4 b es
 | _=>False
theorem Ap7 {b:Nat} {e:TypeId}:∀ {es:List Ev} {cs cs':Array Value} {w:World},St A (blk b (.cells cs e (0,0)) :: l) w->S4 b es->MQ b e es cs=some cs'->∃ w',Mr es w w'/\St A (blk b (.cells cs' e (0,0)) :: l) w'
 | [],cs,cs',w,hw,_,h=>by simp only [MQ,Option.some.injEq] at h;subst h;exact ⟨w,rfl,hw⟩
 | .st a v :: es,cs,cs',w,hw,hb,h=>by
  simp only [MQ] at h;split at h;rename_i h1 h2 h3;have e':a=⟨b,a.off,none⟩:=by obtain ⟨x,y,z⟩:=a;simp only at h1;subst h1;have:=hb.1;simp only at this;subst this;rfl
  have h3:a.off < cs.size:=by simpa [Nat.blt_eq] using h3
  obtain ⟨w',hw1,hw2⟩:=Ap7 (hw.set a.off v) hb.2 h;refine ⟨w',⟨h2,⟨cs[a.off],?_⟩,?_,?_⟩,hw2⟩;exact (congrArg w.cell? e').trans ((hw.sat.cell (Db ..) _).trans (by simp [h3]));exact (congrArg w.frozen? e').trans (hw.sat.free (Db ..) _);rw [e'];exact hw1;cases h
 | Ev.ld .. :: _,_,_,_,_,h,_=>h.elim
 | Ev.nw .. :: _,_,_,_,_,h,_=>h.elim
theorem Y4 {b:Nat} {e:TypeId} {cs cs':Array Value} {q:Act->World->Prop} (es:List Ev) (hs:(D8 o.op && allB o.op.operands.toList env && inB n o.dst)=true) (hf:follow P (execOp (rho env) o) []=some (.skip,es)) (hb:S4 b es)
  (hc:MQ b e es cs=some cs') (h:K ds A n (Bk env o.dst undef) (blk b (.cells cs' e (0,0)) :: l) q):K ds A n env (blk b (.cells cs e (0,0)) :: l) (λa w=>o.wp P a w q Q):=λa w ha hw=>by
 simp only [Bool.and_eq_true] at hs;obtain ⟨w',h1,h2⟩:=Ap7 hw hb hc;unfold Oper.wp;rw [execOp_congr a.eval (rho env) o hs.1.1 (ha.rho hs.1.2),I2 hf h1];exact h _ _ (ha.Bk _ hs.2) h2
theorem X2 {b:Nat} {e:TypeId} {cs cs':Array Value} (es:List Ev) (hg:BK ops env o=some true) (hs:(D8 o.op && allB o.op.operands.toList env && inB n o.dst)=true) (hf:follow P (execOp (rho env) o) []=some (.skip,es)) (hb:S4 b es)
  (hc:MQ b e es cs=some cs') (h:K ds A n (Bk env o.dst undef) (blk b (.cells cs' e (0,0)) :: l) (wpList P ops Q rest)):K ds A n env (blk b (.cells cs e (0,0)) :: l) (wpList P ops Q (o :: rest)):=Ec hg (Y4 es hs hf hb hc h)
theorem Y3 {q:Act->World->Prop} (ob:Obj) (v:Nat->Value) (hs:(D8 o.op && allB o.op.operands.toList env && inB n o.dst)=true) (hf:∀ b,follow P (execOp (rho env) o) [.num b]=some (.value (v b),[.nw ob b]))
  (h:∀ b,K ds A n (Bk env o.dst (v b)) (blk b ob :: l) q):K ds A n env l (λa w=>o.wp P a w q Q):=λa w ha hw=>by
 simp only [Bool.and_eq_true] at hs;unfold Oper.wp;rw [execOp_congr a.eval (rho env) o hs.1.1 (ha.rho hs.1.2),I2 (w':=w.alloc ob) (hf w.heap.size) ⟨rfl,rfl⟩];exact h _ _ _ (ha.Bk _ hs.2) (hw.new ob)
theorem X0 (ob:Obj) (v:Nat->Value) (hg:BK ops env o=some true) (hs:(D8 o.op && allB o.op.operands.toList env && inB n o.dst)=true) (hf:∀ b,follow P (execOp (rho env) o) [.num b]=some (.value (v b),[.nw ob b]))
  (h:∀ b,K ds A n (Bk env o.dst (v b)) (blk b ob :: l) (wpList P ops Q rest)):K ds A n env l (wpList P ops Q (o :: rest)):=Ec hg (Y3 ob v hs hf h)
def If:List Am->List Am->Prop
 | [],_=>True
 | h :: r,X=>h ∈ X/\If r X
def Ct (P:Program) (f:FuncId) (args:Array Value) (l0 hs:List Am) (R:Ending->List Am->Prop):Prop :=
 ∀ A w X,If hs X->St A (l0++X) w->Calls P f args w λe w'=>∃ l1,R e l1/\St A (l1++X) w'
theorem Ct.mono {f:FuncId} {args:Array Value} {l0 hs:List Am} {R R':Ending->List Am->Prop} (h:Ct P f args l0 hs R) (hr:∀ e l1,R e l1->R' e l1):Ct P f args l0 hs R' :=
 λA w X hh hw=>(h A w X hh hw).mono λe w' ⟨l1,h1,h2⟩=>⟨l1,hr e l1 h1,h2⟩
def Nx (ds:List Deferred) (A:World) (n:Nat) (env:Env) (d:Option Nat) (X:List Am) (next:Act->World->Prop) (Q:Exit->Act->World->Prop):Ending->List Am->Prop
 | .returned v,l1=>K ds A n (Bk env d v) (l1++X) next
 | .panicked c,l1=>K ds A n env (l1++X) (Q (.panic c))
 | .outgrown,_=>False
theorem Sg {f:FuncId} {args:Array Value} {l0 hs:List Am} {R:Ending->List Am->Prop} {next:Act->World->Prop} (hg1:(D8 o.op && allB o.op.operands.toList env && inB n o.dst)=true) (hp:FB P (execOp (rho env) o)=some (.enter f args)) (hc:Ct P f args l0 hs R)
  (hl:l=l0++X) (hh:If hs X) (hk:∀ e l1,R e l1->Nx ds A n env o.dst X next Q e l1):K ds A n env l (λa w=>o.wp P a w next Q):=λa w ha hw=>by
 subst hl;simp only [Bool.and_eq_true] at hg1;unfold Oper.wp;rw [execOp_congr a.eval (rho env) o hg1.1.1 (ha.rho hg1.1.2),PA hp];refine (hc A w X hh hw).mono λe w' ⟨l1,h1,h2⟩=>?_;have:=hk e l1 h1;cases e with
 | returned v=>exact this _ _ (ha.Bk v hg1.2) h2
 | panicked c=>exact this _ _ ha h2
 | outgrown=>exact this.elim
theorem Uh {f:FuncId} {args:Array Value} {l0 hs:List Am} {R:Ending->List Am->Prop} (X:List Am) (hg:BK ops env o=some true) (hg1:(D8 o.op && allB o.op.operands.toList env && inB n o.dst)=true) (hp:FB P (execOp (rho env) o)=some (.enter f args)) (hc:Ct P f args l0 hs R)
  (hl:l=l0++X) (hh:If hs X) (hk:∀ e l1,R e l1->Nx ds A n env o.dst X (wpList P ops Q rest) Q e l1):K ds A n env l (wpList P ops Q (o :: rest)):=Ec hg (Sg hg1 hp hc hl hh hk)
theorem Bou {v:Value} (hg:BK ops env o=some true) (hs:(D8 o.op && allB o.op.operands.toList env)=true) (hp:M3 P (execOp (rho env) o)=some (.panic v)) (hk:K ds A n env l (Q (.panic [{ v,recovered:=false }]))):K ds A n env l (wpList P ops Q (o :: rest)):=by
 refine Ec hg λa w ha hw=>?_;simp only [Bool.and_eq_true] at hs;unfold Oper.wp;rw [execOp_congr a.eval (rho env) o hs.1 (ha.rho hs.2),Wf hp];exact hk a w ha hw
def QC:Nat->List Value->Env
 | _,[]=>[]
 | i,v :: r=>(i,v) :: QC (i+1) r
theorem Vl:∀ (i:Nat) (vs:List Value) (j:Nat) (v:Value),(QC i vs).get j=some v->i<=j/\vs[j - i]? = some v
 | i,v :: r,j,u,h=>by
  simp only [QC,Env.get] at h;cases hb:Nat.beq i j with
  | true =>
   rw [hb] at h;have:=Nat.eq_of_beq_eq_true hb;subst this;exact ⟨Nat.le_refl _,by simpa using h⟩
  | false =>
   rw [hb] at h;have:=Vl (i+1) r j u h;have hne:=Nat.ne_of_beq_eq_false hb;refine ⟨by omega,?_⟩;rw [show j - i=(j - (i+1))+1 by omega,List.getElem?_cons_succ];exact this.2
theorem BC {f:FuncId} {fn:Func} {c:Code} {args:List Value} {l0 hs:List Am} {R:Ending->List Am->Prop} (hf:P.funcs[f]? = some fn) (hb:fn.body=some c) (ha:args.length<=fn.ntmps)
  (h:∀ A X,If hs X->K [] A fn.ntmps (QC 0 args) (l0++X) (c.wp P (bodyPost P fn λe w'=>∃ l1,R e l1/\St A (l1++X) w'))):Ct P f args.toArray l0 hs R:=λA w X hh hw=>by
 refine calls_of_wp hf hb (h A X hh _ w ⟨?_,rfl,λi v hi=>?_⟩ hw);simp;omega;have:=Vl 0 args i v hi;simp only [Nat.sub_zero] at this;have hlt:=(List.getElem?_eq_some_iff.1 this.2).1;simp only [Array.getD_eq_getD_getElem?];rw [Array.getElem?_append_left (by simpa using hlt)];simp [this.2]
def Sw (ρ:Nat->Value):ResultVar->Sem Value
 | .tmp t=>pure (ρ t)
 | .cell a t=>do loadVar t (<- asAddr (ρ a))
def JH (rs:Array ResultVar) (ρ:Nat->Value):Sem Value:=do
 let vs <- rs.mapM (Sw ρ)
 pure (if h:vs.size=1 then vs[0] else .tuple vs)
theorem results_eq (fn:Func) (tmps:Array Value):results fn tmps=JH fn.results (λt=>tmps.getD t undef):=rfl
def PK:ResultVar->Nat
 | .tmp t=>t
 | .cell a _=>a
def hasAll:List ResultVar->Env->Bool
 | [],_=>true
 | r :: rs,env=>match env.get (PK r) with | some _=>hasAll rs env | none=>false
def JI (env:Env) (t:Nat):Value:=(env.get t).getD undef
theorem Akv {f g:ResultVar->Sem Value}:∀ (rs:List ResultVar),(∀ r ∈ rs,f r=g r)->rs.mapM f=rs.mapM g
 | [],_=>rfl
 | r :: rs,h=>by
  rw [List.mapM_cons,List.mapM_cons,h r (Db ..),Akv rs λr' hr=>h r' (DF _ hr)]
theorem Af4 {env:Env}:∀ {rs:List ResultVar},hasAll rs env=true->∀ r ∈ rs,∃ v,env.get (PK r)=some v
 | r0 :: rs,h,r,hr=>by
  simp only [hasAll] at h;split at h;rename_i v hv;rcases List.mem_cons.1 hr with rfl | hr;exact ⟨v,hv⟩;exact Af4 h r hr;cases h
theorem UD {rs:Array ResultVar} {a:Act} (ha:Holds ds n env a) (h:hasAll rs.toList env=true):JH rs (λt=>a.tmps.getD t undef)=JH rs (JI env):=by
 have hq:∀ r ∈ rs.toList,a.tmps.getD (PK r) undef=JI env (PK r):=λr hr=>by
  obtain ⟨v,hv⟩:=Af4 h r hr;rw [ha.at_ _ v hv];simp [JI,hv]
 unfold JH;rw [Array.mapM_eq_mapM_toList,Array.mapM_eq_mapM_toList];rw [Akv (f:=Sw λt=>a.tmps.getD t undef) (g:=Sw (JI env)) rs.toList λr hr=>by
  have:=hq r hr;cases r with
  | tmp t=>simp only [PK] at this;simp only [Sw,this]
  | cell a t=>simp only [PK] at this;simp only [Sw,this]]
theorem F7 {fn:Func} {R:Ending->List Am->Prop} {v:Value} (vs:List Orc) (es:List Ev) (l1:List Am) (hr:hasAll fn.results.toList env=true) (hf:follow P (JH fn.results (JI env)) vs=some (v,es)) (hl:Jo l es)
  (hk:K [] A n env l λ_ w=>R (.returned v) l1/\St A (l1++X) w):K [] A n env l (bodyPost P fn (λe w'=>∃ l1,R e l1/\St A (l1++X) w') .ret):=λa w ha hw =>
 ⟨ha.defers,v,by rw [results_eq,UD ha hr];exact I2 hf (hl.evs hw),l1,hk a w ha hw⟩
theorem Bb {R:Prop} (h:R):K [] A n env l λ_ w=>R/\St A l w:=λ_ _ _ hw=>⟨h,hw⟩
theorem Dn {fn:Func} {R:Ending->World->Prop} (h:K [] A n env l (bodyPost P fn R .ret)):K [] A n env l (bodyPost P fn R .normal):=h
theorem Bn5 {fn:Func} {R:Ending->List Am->Prop} {c:List PanicEntry} (l1:List Am) (hk:K [] A n env l λ_ w=>R (.panicked c) l1/\St A (l1++X) w):K [] A n env l (bodyPost P fn (λe w'=>∃ l1,R e l1/\St A (l1++X) w') (.panic c)) :=
 λa w ha hw=>⟨ha.defers,l1,hk a w ha hw⟩
end
def force (n:Nat) (k:Nat->Bool):Bool:=match n with | 0=>k 0 | m+1=>k (m+1)
theorem force_eq (n:Nat) (k:Nat->Bool):force n k=k n:=by cases n <;> rfl
abbrev Iy:=Nat×Nat×Nat
def IL (o:Oper):Nat:=o.after.toList.foldr (λe m=>if Region.binds .any e then m ||| 2 ^ e.on else m) 0
def P1 (os:Array Oper) (o:Oper):Nat:=(o.looksAt os).foldr (λt m=>m ||| 2 ^ t) 0
def OR (o:Oper):Nat:=match o.dst with | none=>0 | some d=>d+1
def Iz (os:Array Oper) (o:Oper):Iy:=(IL o,P1 os o,OR o)
def QJ (os:Array Oper):List Oper->(List Iy->Bool)->Bool
 | [],k=>k []
 | o :: r,k=>force (IL o) λa=>force (P1 os o) λb=>force (OR o) λd=>QJ os r λAe=>k ((a,b,d) :: Ae)
theorem V0 (os:Array Oper):∀ (l:List Oper) (k:List Iy->Bool),QJ os l k=k (l.map (Iz os))
 | [],k=>rfl
 | o :: r,k=>by simp only [QJ,force_eq,V0 os r];rfl
def Vk (lk d lk' d':Nat):Bool:=(d == 0 || (!Nat.testBit lk' (d - 1) && d' != d)) && (d' == 0 || !Nat.testBit lk (d' - 1))
def TI (i lk d mask:Nat):Nat->List Iy->Bool
 | _,[]=>true
 | j,x :: r=>(j == i || Nat.testBit mask j || Nat.testBit x.1 i || Vk lk d x.2.1 x.2.2) && TI i lk d mask (j+1) r
def PJ (mask i a:Nat):Bool:=!Nat.testBit mask i && Nat.beq (a &&& mask) a
def P9 (Ae:List Iy) (i mask:Nat):Bool:=match Ae[i]? with
 | none=>false
 | some x=>PJ mask i x.1 && TI i x.2.1 x.2.2 mask 0 Ae
def Lq (mask:Nat):Nat->List Iy->List Nat
 | _,[]=>[]
 | j,x :: r=>cond (PJ mask j x.1) (j :: Lq mask (j+1) r) (Lq mask (j+1) r)
def Sf (Ae:List Iy) (i mask:Nat):Bool:=match Lq mask 0 Ae with | [k]=>Nat.beq k i | _=>false
def stepD (m:Nat):Nat->List Iy->Nat->Nat
 | _,[],acc=>acc
 | j,x :: r,acc=>stepD m (j+1) r (cond (Nat.testBit m j) (acc ||| x.1) acc)
def UB (Ae:List Iy):Nat->Nat->Nat
 | 0,m=>m
 | f+1,m=>UB Ae f (stepD m 0 Ae m)
def Qb (Ae:List Iy) (E j:Nat):Bool:=match Ae[j]? with
 | none=>Nat.beq E 0
 | some x=>force (UB Ae (Ae.length - 1) x.1) λm=>Nat.beq (E &&& m) E
def tailD (Ae:List Iy) (E:Nat):Nat->Nat->Nat->Bool
 | 0,_,mask=>(Lq mask 0 Ae).isEmpty
 | g+1,k,mask=>Sf Ae k mask && Qb Ae E k && force (mask ||| 2 ^ k) λm=>tailD Ae E g (k+1) m
def K7 (Ae:List Iy) (E n:Nat):List (Nat×Nat)->Nat->Bool
 | [],mask=>tailD Ae E (Ae.length - n) n mask
 | (i,0) :: rest,mask=>P9 Ae i mask && force (mask ||| 2 ^ i) λm=>K7 Ae E n rest m
 | (i,1) :: rest,mask=>Sf Ae i mask && force (mask ||| 2 ^ i) λm=>K7 Ae E n rest m
 | (i,2) :: rest,mask=>Sf Ae i mask && Qb Ae E i && !(rest.any (·.2 == 3)) && force (mask ||| 2 ^ i) λm=>K7 Ae E n rest m
 | (i,k+3) :: rest,mask=>Nat.beq k 0 && Nat.testBit E i && P9 Ae i mask && force (mask ||| 2 ^ i) λm=>K7 Ae E n rest m
def JA (E:List Nat):Nat:=E.foldr (λt m=>m ||| 2 ^ t) 0
def Sl (os:List Oper) (plan:List (Nat×Nat)):Bool :=
 Region.noSelect os.toArray && decide (plan.length<=os.length) && force (JA (QL plan)) λE=>QJ os.toArray os λAe=>K7 Ae E plan.length plan 0
theorem RT (i:Nat):∀ (E:List Nat),Nat.testBit (JA E) i=E.contains i
 | []=>by simp [JA]
 | t :: E=>by
  have:=RT i E;unfold JA at this ⊢;rw [List.foldr_cons,Nat.testBit_or,this,Nat.testBit_two_pow,List.contains_cons];rw [Bool.or_comm];congr 1;rw [Bool.eq_iff_iff,decide_eq_true_eq,beq_iff_eq];exact eq_comm
theorem XR (os:Array Oper) (o:Oper) (d:Nat):Nat.testBit (P1 os o) d=(o.looksAt os).contains d:=RT d _
theorem Tm (o:Oper) (i:Nat):Nat.testBit (IL o) i=true ↔ ∃ e ∈ o.after,Region.binds .any e=true/\e.on=i:=by
 have key:∀ l:List Edge,Nat.testBit (l.foldr (λe m=>if Region.binds .any e then m ||| 2 ^ e.on else m) 0) i=true ↔ ∃ e ∈ l,Region.binds .any e=true/\e.on=i:=by
  intro l;induction l with
  | nil=>simp
  | cons e l ih =>
   rw [List.foldr_cons];by_cases hb:Region.binds .any e=true;rw [if_pos hb,Nat.testBit_or,Nat.testBit_two_pow,Bool.or_eq_true,ih,decide_eq_true_eq];constructor;rintro (⟨x,hx,h⟩ | h);exact ⟨x,DF _ hx,h⟩;exact ⟨e,Db ..,hb,h⟩;rintro ⟨x,hx,h⟩;rcases List.mem_cons.1 hx with rfl | hx;exact .inr h.2;exact .inl ⟨x,hx,h⟩;rw [if_neg hb,ih];constructor;rintro ⟨x,hx,h⟩;exact ⟨x,DF _ hx,h⟩;rintro ⟨x,hx,h⟩;rcases List.mem_cons.1 hx with rfl | hx;exact absurd h.1 hb;exact ⟨x,hx,h⟩
 unfold IL;rw [key];constructor;rintro ⟨e,he,h⟩;exact ⟨e,Array.mem_toList_iff.1 he,h⟩;rintro ⟨e,he,h⟩;exact ⟨e,Array.mem_toList_iff.2 he,h⟩
structure G1 (n mask:Nat) (listed:Array Bool):Prop where
 size:listed.size=n
 bit:∀ k,Nat.testBit mask k=listed.getD k false
theorem G1.none (n:Nat):G1 n 0 (Array.replicate n false):=⟨by simp,λk=>by
 rw [Nat.zero_testBit];rcases Nat.lt_or_ge k n with h | h <;> simp [Array.getD_eq_getD_getElem?,Array.getElem?_replicate,h] <;> omega⟩
theorem G1.set {n mask i:Nat} {listed:Array Bool} (h:G1 n mask listed) (hi:i < n):G1 n (mask ||| 2 ^ i) (listed.setIfInBounds i true):=⟨by simp [h.size],λk=>by
 rw [Nat.testBit_or,Nat.testBit_two_pow,h.bit];simp only [Array.getD_eq_getD_getElem?,Array.getElem?_setIfInBounds];have:=h.size;by_cases hik:i=k;subst hik;simp [this,hi];simp [hik]⟩
theorem G1.Vv {n mask k:Nat} {listed:Array Bool} (h:G1 n mask listed) (hk:k < n):listed.getD k true=Nat.testBit mask k:=by
 have:=h.size;rw [h.bit];simp only [Array.getD_eq_getD_getElem?];rw [Array.getElem?_eq_getElem (by omega)];rfl
section
variable {os:List Oper} {mask i:Nat} {listed:Array Bool}
theorem Ao3 (hr:G1 os.length mask listed) {o:Oper} (ho:os[i]? = some o):PJ mask i (IL o)=true ↔ i ∈ Region.ready .any os.toArray listed:=by
 have hi:i < os.length:=(List.getElem?_eq_some_iff.1 ho).1;unfold PJ;rw [mem_ready,Bool.and_eq_true,Bool.not_eq_true',hr.Vv hi];refine and_congr Iff.rfl ?_;rw [Nat.beq_eq];constructor;intro h;refine ⟨o,by simpa using ho,λe he hb=>?_⟩;have h1:Nat.testBit (IL o) e.on=true:=(Tm o e.on).2 ⟨e,he,hb,rfl⟩;rw [<- hr.bit];rw [<- h,Nat.testBit_and,Bool.and_eq_true] at h1;exact h1.2;rintro ⟨o',ho',h⟩;obtain rfl:o'=o:=Ap ((show os.toArray[i]? = some o by simpa using ho).symm.trans ho') |>.symm;refine Nat.eq_of_testBit_eq λk=>?_;rw [Nat.testBit_and];cases hk:Nat.testBit (IL o') k with
 | false=>rfl
 | true =>
  obtain ⟨e,he,hb,rfl⟩:=(Tm o' k).1 hk;rw [hr.bit,h e he hb];rfl
theorem UC (hr:G1 os.length mask listed):Lq mask 0 (os.map (Iz os.toArray))=Region.ready .any os.toArray listed:=by
 have key:∀ (l:List Oper) (j:Nat),(∀ t,l[t]? = os[j+t]?)->Lq mask j (l.map (Iz os.toArray))=(List.range' j l.length).filter λi=>!listed.getD i true && ((os.toArray[i]?).map (·.after.all λe=>!Region.binds .any e || listed.getD e.on false)).getD false:=by
  intro l;induction l with
  | nil=>intro j _;rfl
  | cons o l ih =>
   intro j hl;have ho:os[j]? = some o:=by simpa using (hl 0).symm
   rw [List.map_cons,AH,List.range'_succ,List.filter_cons];unfold Lq;rw [ih (j+1) λt=>by have:=hl (t+1);simpa [Nat.add_assoc,Nat.add_comm 1 t] using this];have h1:=Ao3 hr ho;have h2:j ∈ Region.ready .any os.toArray listed ↔ (!listed.getD j true && ((os.toArray[j]?).map (·.after.all λe=>!Region.binds .any e || listed.getD e.on false)).getD false)=true:=by
    unfold Region.ready;rw [List.mem_filter,List.mem_range];exact and_iff_right (by simpa using (List.getElem?_eq_some_iff.1 ho).1)
   have h3:=h1.trans h2;show cond (PJ mask j (IL o)) _ _=_;cases hx:PJ mask j (IL o) with
   | true=>rw [if_pos (h3.1 hx)];rfl
   | false=>rw [if_neg (λh=>by rw [h3.2 h] at hx;cases hx)];rfl
 rw [key os 0 λt=>by rw [Nat.zero_add]];unfold Region.ready;rw [List.range_eq_range',List.size_toArray]
theorem Y1 (hr:G1 os.length mask listed) (h:Sf (os.map (Iz os.toArray)) i mask=true):Region.ready .any os.toArray listed=[i]:=by
 unfold Sf at h;rw [UC hr] at h;split at h;rename_i k hk;rw [hk,Nat.eq_of_beq_eq_true h];cases h
theorem Axs (A:Array Oper) (x y:Oper):Vk (P1 A x) (OR x) (P1 A y) (OR y)=x.apart A y:=by
 unfold Vk Oper.apart OR;cases x.dst with
 | none=>cases y.dst with
  | none=>rfl
  | some d'=>simp [XR]
 | some d=>cases y.dst with
  | none=>simp [XR]
  | some d' =>
   simp only [XR,Nat.add_sub_cancel];have e1:(d+1 == 0)=false:=rfl;have e2:(d'+1 == 0)=false:=rfl;have e3:(d'+1 != d+1)=(some d' != some d):=by
    rw [Bool.eq_iff_iff,bne_iff_ne,bne_iff_ne];simp
   rw [e1,e2,e3];rfl
theorem U1 (hr:G1 os.length mask listed) (h:P9 (os.map (Iz os.toArray)) i mask=true):i < os.length/\i ∈ Region.ready .any os.toArray listed/\Region.free .any os.toArray listed i=true:=by
 unfold P9 at h;rw [List.getElem?_map] at h;cases ho:os[i]? with
 | none=>rw [ho] at h;cases h
 | some o =>
  rw [ho] at h;simp only [Option.map_some,Bool.and_eq_true] at h;have hi:i < os.length:=(List.getElem?_eq_some_iff.1 ho).1;refine ⟨hi,(Ao3 hr ho).1 h.1,?_⟩;have key:∀ (l:List Oper) (j:Nat),TI i (P1 os.toArray o) (OR o) mask j (l.map (Iz os.toArray))=true->∀ t oj,l[t]? = some oj->((j+t == i) || Nat.testBit mask (j+t) || Nat.testBit (IL oj) i || o.apart os.toArray oj)=true:=by
   intro l;induction l with
   | nil=>intro j _ t oj h;cases h
   | cons x l ih =>
    intro j h t oj hoj;simp only [List.map_cons,TI,Bool.and_eq_true] at h;cases t with
    | zero =>
     cases hoj;have:=h.1;rw [<- Axs];exact this
    | succ t =>
     have:=ih (j+1) h.2 t oj hoj;rw [show j+1+t=j+(t+1) by omega] at this;exact this
  have hk:=key os 0 h.2;unfold Region.free;rw [show os.toArray[i]? = some o by simpa using ho];simp only;rw [List.all_eq_true];intro j hj;rw [List.mem_range,List.size_toArray] at hj;have hoj:os[j]? = some os[j]:=List.getElem?_eq_getElem hj;have:=hk j os[j] hoj;rw [Nat.zero_add] at this;rw [show os.toArray[j]? = some os[j] by simp [hj],hr.Vv hj];simp only [Bool.or_eq_true] at this ⊢;rcases this with ((h1 | h1) | h1) | h1;exact .inl (.inl h1);exact .inl (.inr h1);obtain ⟨e,he,hb,hon⟩:=(Tm _ _).1 h1;refine .inr (.inl ?_);rw [Array.any_eq_true'];exact ⟨e,he,by rw [hb,hon];simp⟩;exact .inr (.inr h1)
theorem SG {A:Array Oper} {f j i:Nat}:Gz .any A (f+1) j i=true ↔ ∃ oj,A[j]? = some oj/\∃ e ∈ oj.after,Region.binds .any e=true/\(e.on=i\/Gz .any A f e.on i=true):=by
 rw [Gz];cases hoj:A[j]? with
 | none=>simp
 | some oj =>
  simp only [Option.some.injEq,exists_eq_left'];rw [Array.any_eq_true'];simp only [Bool.and_eq_true,Bool.or_eq_true,beq_iff_eq]
theorem As1 {A:Array Oper}:∀ {f j i:Nat},Gz .any A f j i=true->Gz .any A (f+1) j i=true
 | 0,_,_,h=>by simp [Gz] at h
 | f+1,j,i,h=>by
  obtain ⟨oj,hoj,e,he,hb,h⟩:=SG.1 h;exact SG.2 ⟨oj,hoj,e,he,hb,h.imp id As1⟩
theorem As3 {A:Array Oper} {f k k':Nat} {ok:Oper} (hk:A[k]? = some ok) (hk':Nat.testBit (IL ok) k'=true):Gz .any A (f+1) k k'=true:=by
 obtain ⟨e,he,hb,hon⟩:=(Tm _ _).1 hk';exact SG.2 ⟨ok,hk,e,he,hb,.inl hon⟩
theorem As4 {A:Array Oper} {k k':Nat} {ok:Oper} (hk:A[k]? = some ok) (hk':Nat.testBit (IL ok) k'=true):∀ {f j:Nat},Gz .any A f j k=true->Gz .any A (f+1) j k'=true
 | 0,_,h=>by simp [Gz] at h
 | f+1,j,h=>by
  obtain ⟨oj,hoj,e,he,hb,h⟩:=SG.1 h;refine SG.2 ⟨oj,hoj,e,he,hb,.inr ?_⟩;rcases h with rfl | h;exact As3 hk hk';exact As4 hk hk' h
theorem Ap8 (m:Nat):∀ (l:List Oper) (j acc k:Nat),(∀ t,l[t]? = os[j+t]?)->Nat.testBit (stepD m j (l.map (Iz os.toArray)) acc) k=true->Nat.testBit acc k=true\/∃ q oq,os[q]? = some oq/\Nat.testBit m q=true/\Nat.testBit (IL oq) k=true
 | [],_,_,_,_,h=>.inl h
 | o :: l,j,acc,k,hl,h=>by
  rw [List.map_cons] at h;unfold stepD at h;have ho:os[j]? = some o:=by simpa using (hl 0).symm
  rcases Ap8 m l (j+1) _ k (λt=>by have:=hl (t+1);simpa [Nat.add_assoc,Nat.add_comm 1 t] using this) h with h | h;cases hm:Nat.testBit m j with
  | false=>rw [hm] at h;exact .inl h
  | true =>
   rw [hm,cond_true,Nat.testBit_or,Bool.or_eq_true] at h;rcases h with h | h;exact .inl h;exact .inr ⟨j,o,ho,hm,h⟩
  exact .inr h
theorem Aoz (j:Nat):∀ (f g m:Nat),(∀ k,Nat.testBit m k=true->Gz .any os.toArray g j k=true)->∀ k,Nat.testBit (UB (os.map (Iz os.toArray)) f m) k=true->Gz .any os.toArray (g+f) j k=true
 | 0,_,_,hm,k,h=>hm k h
 | f+1,g,m,hm,k,h=>by
  unfold UB at h;have:=Aoz j f (g+1) _ (λk hk=>by
   rcases Ap8 m os 0 m k (λt=>by rw [Nat.zero_add]) hk with h | ⟨q,oq,hq,hmq,hk⟩;exact As1 (hm k h);exact As4 (by simpa using hq) hk (hm q hmq)) k h
  rw [show g+1+f=g+(f+1) by omega] at this;exact this
theorem ZL {E:List Nat} {j:Nat} (hj:j < os.length) (h:Qb (os.map (Iz os.toArray)) (JA E) j=true):Lk .any os.toArray E j=false:=by
 unfold Qb at h;have hoj:os[j]? = some os[j]:=List.getElem?_eq_getElem hj;rw [List.getElem?_map,hoj] at h;simp only [Option.map_some,force_eq,List.length_map,Nat.beq_eq] at h;unfold Lk;rw [Bool.not_eq_false',List.all_eq_true];intro i hi;have h1:Nat.testBit (JA E) i=true:=by rw [RT];simpa using hi
 rw [<- h,Nat.testBit_and,Bool.and_eq_true] at h1;have:=Aoz (os:=os) j (os.length - 1) 1 _ (λk hk=>As3 (show os.toArray[j]? = some os[j] by simp [hj]) hk) i h1.2;rw [show 1+(os.length - 1)=os.toArray.size by rw [List.size_toArray];omega] at this;exact this
theorem Aqw {E:List Nat}:∀ (g k mask:Nat) (listed:Array Bool),G1 os.length mask listed->tailD (os.map (Iz os.toArray)) (JA E) g k mask=true->MS .any os.toArray E g k listed=true
 | 0,_,_,_,hr,h=>by unfold tailD at h;unfold MS;rw [UC hr] at h;exact h
 | g+1,k,mask,listed,hr,h=>by
  simp only [tailD,force_eq,Bool.and_eq_true] at h;obtain ⟨⟨h1,h2⟩,h3⟩:=h;have ho:=Y1 hr h1;have hk:k < os.length:=by
   have hm:k ∈ Region.ready .any os.toArray listed:=by rw [ho];exact GN.2 rfl
   obtain ⟨_,o,hoq,_⟩:=mem_ready.1 hm
   simpa using (Array.getElem?_eq_some_iff.1 hoq).1
  unfold MS;rw [ho,ZL hk h2,Aqw g (k+1) _ _ (hr.set hk) h3];simp
theorem Sy {E:List Nat} {n:Nat}:∀ (plan:List (Nat×Nat)) (mask:Nat) (listed:Array Bool),G1 os.length mask listed->K7 (os.map (Iz os.toArray)) (JA E) n plan mask=true->GB os.toArray E n plan listed=true
 | [],mask,listed,hr,h=>by
  unfold K7 at h;unfold GB;rw [List.length_map] at h;rw [List.size_toArray];exact Aqw _ _ _ _ hr h
 | (i,0) :: rest,mask,listed,hr,h=>by
  simp only [K7,force_eq,Bool.and_eq_true] at h;obtain ⟨h1,h2,h3⟩:=U1 hr h.1;unfold GB;rw [h3,Sy rest _ _ (hr.set h1) h.2];simp [h1,h2]
 | (i,1) :: rest,mask,listed,hr,h=>by
  simp only [K7,force_eq,Bool.and_eq_true] at h;have ho:=Y1 hr h.1;have hk:i < os.length:=by
   have hm:i ∈ Region.ready .any os.toArray listed:=by rw [ho];exact GN.2 rfl
   obtain ⟨_,o,hoq,_⟩:=mem_ready.1 hm
   simpa using (Array.getElem?_eq_some_iff.1 hoq).1
  unfold GB;rw [ho,Sy rest _ _ (hr.set hk) h.2];simp [hk]
 | (i,2) :: rest,mask,listed,hr,h=>by
  simp only [K7,force_eq,Bool.and_eq_true] at h;obtain ⟨⟨⟨h1,h2⟩,h4⟩,h3⟩:=h;have ho:=Y1 hr h1;have hk:i < os.length:=by
   have hm:i ∈ Region.ready .any os.toArray listed:=by rw [ho];exact GN.2 rfl
   obtain ⟨_,o,hoq,_⟩:=mem_ready.1 hm
   simpa using (Array.getElem?_eq_some_iff.1 hoq).1
  unfold GB;rw [ho,h4,ZL hk h2,Sy rest _ _ (hr.set hk) h3];simp [hk]
 | (i,k+3) :: rest,mask,listed,hr,h=>by
  simp only [K7,force_eq,Bool.and_eq_true] at h;obtain ⟨⟨⟨h1,h2⟩,h4⟩,h3⟩:=h;obtain ⟨g1,g2,g3⟩:=U1 hr h4;rw [RT] at h2;unfold GB;rw [h2,g3,Sy rest _ _ (hr.set g1) h3];simp [g1,g2,Nat.eq_of_beq_eq_true h1]
end
theorem Bxs {os:List Oper} {plan:List (Nat×Nat)} (h:Sl os plan=true):(Region.noSelect os.toArray && decide (plan.length<=os.length) && GB os.toArray (QL plan) plan.length plan (Array.replicate os.toArray.size false))=true:=by
 unfold Sl at h;rw [force_eq,V0] at h;simp only [Bool.and_eq_true] at h ⊢;refine ⟨h.1,?_⟩;rw [List.size_toArray];exact Sy plan 0 _ (G1.none _) h.2
theorem Azr {α β:Type} {x:Option α} {f:α->Option β} {r:β} (h:x.bind f=some r):∃ a,x=some a/\f a=some r:=by
 cases x with
 | none=>cases h
 | some a=>exact ⟨a,rfl,h⟩
theorem A0p {α:Type} {b:Bool} {x y:Option α} {r:α} (h:cond b x y=some r) (hb:b=true):x=some r:=by subst hb;exact h
theorem A0o {α:Type} {b:Bool} {x y:Option α} {r:α} (h:cond b x y=some r) (hb:b=false):y=some r:=by subst hb;exact h
theorem I0 {α:Type} {b:Bool} {x:Option α} {r:α} (h:cond b x none=some r):b=true/\x=some r:=by
 cases b with
 | true=>exact ⟨rfl,h⟩
 | false=>cases h
def C2 (s:Ah) (i:Int):Option UInt8:=if 0<=i then s[i.toNat]? else none
def FM (s:Ah) (lo hi:Int):Option Ah:=cond (decide (0<=lo/\lo<=hi/\hi<=s.size)) (some (s.extract lo.toNat hi.toNat)) none
section
variable {A:World} {ds:List Deferred} {n:Nat} {env env':Env} {l l' X:List Am} {q:Act->World->Prop} {P:Program} {Q:Exit->Act->World->Prop} {ops:Array Oper} {os rest:List Oper} {o:Oper}
def Meet {τ:Type} (ds:List Deferred) (A:World) (n:Nat) (E:τ->Env) (L:τ->List Am) (S:τ->Prop) (a:Act) (w:World):Prop:=∃ t,S t/\Holds ds n (E t) a/\St A (L t) w
theorem Bz {τ:Type} {x y:Code} (E:τ->Env) (L:τ->List Am) (S:τ->Prop) (hy:∀ t,S t->K ds A n (E t) (L t) (y.wp P Q)) (hx:K ds A n env l (x.wp P (Exit.then (Meet ds A n E L S) Q))):K ds A n env l ((Code.seq x y).wp P Q):=λa w ha hw =>
 wp_seq (wp_mono (hx a w ha hw) λe a w h=>by
  cases e with
  | normal=>obtain ⟨t,hS,ha,hw⟩:=h;exact hy t hS a w ha hw
  | exit id=>exact h
  | goto l=>exact h
  | ret=>exact h
  | panic ch=>exact h
  | outgrown=>exact h)
theorem AA {τ:Type} {E:τ->Env} {L:τ->List Am} {S:τ->Prop} (t:τ) (hS:S t) (hs:Sub env (E t)) (hl:l=L t):K ds A n env l (Meet ds A n E L S) :=
 λ_ _ ha hw=>⟨t,hS,ha.sub hs,by subst hl;exact hw⟩
theorem C5 {x y:Code} (JU:Env) (l1:List Am) (hy:K ds A n JU l1 (y.wp P Q)) (hx:K ds A n env l (x.wp P (Exit.then (λa w=>Holds ds n JU a/\St A l1 w) Q))):K ds A n env l ((Code.seq x y).wp P Q):=λa w ha hw =>
 wp_seq (wp_mono (hx a w ha hw) λe a w h=>by
  cases e with
  | normal=>exact hy a w h.1 h.2
  | exit id=>exact h
  | goto l=>exact h
  | ret=>exact h
  | panic ch=>exact h
  | outgrown=>exact h)
theorem AW {JU:Env} (hs:Sub env JU):K ds A n env l (λa w=>Holds ds n JU a/\St A l w):=λ_ _ ha hw=>⟨ha.sub hs,hw⟩
theorem Bop {s:Ah} {kd:IntKind} {i:Int} {c:UInt8} {t:TypeId} {x ix:Operand} (ho:o.op=.index t x ix) (hg:BK ops env o=some true) (hd:inB n o.dst=true) (hx:B9 env x=some (.string s)) (hi:B9 env ix=some (.int kd i)) (ht:P.underlying t=some .string)
  (hc:C2 s i=some c) (h:K ds A n (Bk env o.dst (.int .u8 c.toNat)) l (wpList P ops Q rest)):K ds A n env l (wpList P ops Q (o :: rest)) :=
 Ec hg λa w ha hw=>by
  unfold Oper.wp execOp;simp only [ho,ha.eval hx,ha.eval hi];have:(Instr.index t (.string s) (.int kd i)).run P w=.ok (.int .u8 c.toNat) w:=by
   unfold C2 at hc;simp [Instr.index,asIntOf,run_underlying ht,hc]
  simp only [Sem.run_bind,this,Result.andThen_ok,Sem.run_pure];exact h _ _ (ha.Bk _ hd) hw
theorem M9 {s r:Ah} {t:TypeId} {x:Operand} {lo hi:Option Operand} (L H:Int) (ho:o.op=.slice t x lo hi none) (hg:BK ops env o=some true) (hd:inB n o.dst=true) (hx:B9 env x=some (.string s))
  (hlo:(lo=none/\L=0)\/∃ y k,lo=some y/\B9 env y=some (.int k L)) (hhi:(hi=none/\H=s.size)\/∃ y k,hi=some y/\B9 env y=some (.int k H)) (ht:P.underlying t=some .string) (hc:FM s L H=some r)
  (h:K ds A n (Bk env o.dst (.string r)) l (wpList P ops Q rest)):K ds A n env l (wpList P ops Q (o :: rest)):=by
 unfold FM at hc;obtain ⟨hb,hr⟩:=I0 hc;obtain ⟨h1,h2,h3⟩:=of_decide_eq_true hb;cases hr;refine Ec hg λa w ha hw=>?_;have hsl:∀ (lv hv:Option Value),(lv=none/\L=0\/∃ k,lv=some (.int k L))->(hv=none/\H=s.size\/∃ k,hv=some (.int k H))->(Instr.sliceAt t (.string s) lv hv none).run P w=.ok (.string (s.extract L.toNat H.toNat)) w:=by
  have h4:L<=s.size:=by omega
  have h5:0<=H:=by omega
  have h6:L<=max H 0:=by omega
  rintro lv hv (⟨rfl,rfl⟩ | ⟨k,rfl⟩) (⟨rfl,rfl⟩ | ⟨k',rfl⟩);simp [Instr.sliceAt,Instr.slice,Instr.sliceBounds,run_underlying ht];simp [Instr.sliceAt,Instr.slice,Instr.sliceBounds,Instr.sliceBound,asIntOf,run_underlying ht,h3,h5];simp [Instr.sliceAt,Instr.slice,Instr.sliceBounds,Instr.sliceBound,asIntOf,run_underlying ht,h1,h4];simp [Instr.sliceAt,Instr.slice,Instr.sliceBounds,Instr.sliceBound,asIntOf,run_underlying ht,h1,h3,h5,h6,h2]
 have hrun:=hsl (lo.map a.eval) (hi.map a.eval) (hlo.imp (λ⟨e,e'⟩=>⟨by rw [e];rfl,e'⟩) (λ⟨y,k,e,e'⟩=>⟨k,by rw [e];exact congrArg some (ha.eval e')⟩)) (hhi.imp (λ⟨e,e'⟩=>⟨by rw [e];rfl,e'⟩) (λ⟨y,k,e,e'⟩=>⟨k,by rw [e];exact congrArg some (ha.eval e')⟩));unfold Oper.wp execOp;simp only [ho,ha.eval hx,Option.map_none,Sem.run_bind,hrun,Result.andThen_ok,Sem.run_pure];exact h _ _ (ha.Bk _ hd) hw
theorem Xz {id:Nat} {os:List Oper} (plan:List (Nat×Nat)) (S:World->Prop) (hm:P.follows .mixedOrders=true)
  (hB:Sl os plan=true)
  (hQ:∀ c a d v w,Q (.panic c) (Act.put a d v) w->Q (.panic c) a w) (hS:∀ w,St A l w->S w)
  (h:K ds A n env l (BH P os.toArray Q S (wpList P os.toArray Q (os.drop plan.length)) (Dz os.toArray plan))):K ds A n env l ((Code.region id os.toArray true).wp P Q):=λa w ha hw =>
 Jm plan S hm (Bxs hB) hQ (hS _ hw.drew) (h a _ ha hw.drew)
variable {S:World->Prop} {tail:Act->World->Prop} {pl:List (Oper×Nat)}
theorem Air (h:K ds A n env l tail):K ds A n env l (BH P ops Q S tail []):=h
theorem Bpd {v:Value} (hg:BK ops env o=some true) (hs:(D8 o.op && allB o.op.operands.toList env && inB n o.dst)=true) (hv:FB P (execOp (rho env) o)=some (.value v)) (h:K ds A n (Bk env o.dst v) l (BH P ops Q S tail pl)) :
  K ds A n env l (BH P ops Q S tail ((o,0) :: pl)):=λa w ha hw=>by
 simp only [Bool.and_eq_true] at hs;exact DJ (F_ ha hg) (λw'=>by rw [execOp_congr a.eval (rho env) o hs.1.1 (ha.rho hs.1.2)];exact PA hv) (h _ _ (ha.Bk v hs.2) hw)
theorem Bpe (hg:BK ops env o=some false) (hd:inB n o.dst=true) (h:K ds A n (Bk env o.dst undef) l (BH P ops Q S tail pl)):K ds A n env l (BH P ops Q S tail ((o,0) :: pl)):=λa w ha hw =>
 Bxt (F_ ha hg) (h _ _ (ha.Bk _ hd) hw)
theorem DB (hg:BK ops env o=some false) (hd:inB n o.dst=true) (h:K ds A n (Bk env o.dst undef) l (BH P ops Q S tail pl)):K ds A n env l (BH P ops Q S tail ((o,3) :: pl)):=λa w ha hw =>
 Bxu (F_ ha hg) (h _ _ (ha.Bk _ hd) hw)
theorem Uj:∀ (os:List Oper) (env:Env),Hq P ops n os env=some env'->K ds A n env' l (BH P ops Q S tail pl)->K ds A n env l (BH P ops Q S tail (os.map (·,0)++pl))
 | [],env,h,hk=>by simp only [Hq,Option.some.injEq] at h;subst h;exact hk
 | o :: os,env,h,hk=>by
  simp only [Hq] at h;split at h;cases h;rename_i hg;split at h;rename_i hd;exact Bpe hg hd (Uj os _ h hk);cases h;rename_i hg;split at h;cases h;rename_i hs;split at h;rename_i v hv;exact Bpd hg hs hv (Uj os _ h hk);cases h
theorem X5:∀ (pl:List (Oper×Nat)),(pl.all λx=>Nat.beq x.2 0)=true->pl=(pl.map (·.1)).map (·,0)
 | [],_=>rfl
 | (o,k) :: pl,h=>by
  simp only [List.all_cons,Bool.and_eq_true] at h;have hk:k=0:=Nat.eq_of_beq_eq_true h.1;subst hk;simp only [List.map_cons];rw [<- X5 pl h.2]
theorem Bpi (m:Nat) (sub:Env) (hz:((pl.take m).all λx=>Nat.beq x.2 0)=true) (h:(Hq P ops n ((pl.take m).map (·.1)) env).bind (picks (sub.map (·.1)))=some (sub.map (·.2))) (hk:K ds A n sub l (BH P ops Q S tail (pl.drop m))) :
  K ds A n env l (BH P ops Q S tail pl):=by
 rw [<- List.take_append_drop m pl,X5 _ hz];cases hs:Hq P ops n ((pl.take m).map (·.1)) env with
 | none=>rw [hs] at h;cases h
 | some JU =>
  rw [hs] at h;exact Uj _ env hs (K.weak hk (U3 h))
theorem X3 {s:Ah} {kd:IntKind} {i:Int} {c:UInt8} {t:TypeId} {x ix:Operand} (ho:o.op=.index t x ix) (hg:BK ops env o=some true) (hd:inB n o.dst=true) (hx:B9 env x=some (.string s)) (hi:B9 env ix=some (.int kd i)) (ht:P.underlying t=some .string)
  (hc:C2 s i=some c) (h:K ds A n (Bk env o.dst (.int .u8 c.toNat)) l (BH P ops Q S tail pl)):K ds A n env l (BH P ops Q S tail ((o,0) :: pl)):=λa w ha hw=>by
 refine DJ (F_ ha hg) (λw'=>?_) (h _ _ (ha.Bk _ hd) hw);unfold execOp;simp only [ho,ha.eval hx,ha.eval hi];have:(Instr.index t (.string s) (.int kd i)).run P w'=.ok (.int .u8 c.toNat) w':=by
  unfold C2 at hc;simp [Instr.index,asIntOf,run_underlying ht,hc]
 simp only [Sem.run_bind,this,Result.andThen_ok,Sem.run_pure]
theorem Aiu {s r:Ah} {t:TypeId} {x:Operand} {lo hi:Option Operand} (L H:Int) (ho:o.op=.slice t x lo hi none) (hg:BK ops env o=some true) (hd:inB n o.dst=true) (hx:B9 env x=some (.string s))
  (hlo:(lo=none/\L=0)\/∃ y k,lo=some y/\B9 env y=some (.int k L)) (hhi:(hi=none/\H=s.size)\/∃ y k,hi=some y/\B9 env y=some (.int k H)) (ht:P.underlying t=some .string) (hc:FM s L H=some r)
  (h:K ds A n (Bk env o.dst (.string r)) l (BH P ops Q S tail pl)):K ds A n env l (BH P ops Q S tail ((o,0) :: pl)):=by
 unfold FM at hc;obtain ⟨hb,hr⟩:=I0 hc;obtain ⟨h1,h2,h3⟩:=of_decide_eq_true hb;cases hr;intro a w ha hw;have hsl:∀ (w:World) (lv hv:Option Value),(lv=none/\L=0\/∃ k,lv=some (.int k L))->(hv=none/\H=s.size\/∃ k,hv=some (.int k H))->(Instr.sliceAt t (.string s) lv hv none).run P w=.ok (.string (s.extract L.toNat H.toNat)) w:=by
  intro w;have h4:L<=s.size:=by omega
  have h5:0<=H:=by omega
  have h6:L<=max H 0:=by omega
  rintro lv hv (⟨rfl,rfl⟩ | ⟨k,rfl⟩) (⟨rfl,rfl⟩ | ⟨k',rfl⟩);simp [Instr.sliceAt,Instr.slice,Instr.sliceBounds,run_underlying ht];simp [Instr.sliceAt,Instr.slice,Instr.sliceBounds,Instr.sliceBound,asIntOf,run_underlying ht,h3,h5];simp [Instr.sliceAt,Instr.slice,Instr.sliceBounds,Instr.sliceBound,asIntOf,run_underlying ht,h1,h4];simp [Instr.sliceAt,Instr.slice,Instr.sliceBounds,Instr.sliceBound,asIntOf,run_underlying ht,h1,h3,h5,h6,h2]
 refine DJ (F_ ha hg) (λw'=>?_) (h _ _ (ha.Bk _ hd) hw);have hrun:=hsl w' (lo.map a.eval) (hi.map a.eval) (hlo.imp (λ⟨e,e'⟩=>⟨by rw [e];rfl,e'⟩) (λ⟨y,k,e,e'⟩=>⟨k,by rw [e];exact congrArg some (ha.eval e')⟩)) (hhi.imp (λ⟨e,e'⟩=>⟨by rw [e];rfl,e'⟩) (λ⟨y,k,e,e'⟩=>⟨k,by rw [e];exact congrArg some (ha.eval e')⟩));unfold execOp;simp only [ho,ha.eval hx,Option.map_none,Sem.run_bind,hrun,Result.andThen_ok,Sem.run_pure]
theorem Bpc {v:Value} (vs:List Orc) (es:List Ev) (hg:BK ops env o=some true) (hs:(D8 o.op && allB o.op.operands.toList env && inB n o.dst)=true) (hf:follow P (execOp (rho env) o) vs=some (.value v,es)) (hS:∀ w,S w->Mr es w w)
  (h:K ds A n (Bk env o.dst v) l (BH P ops Q S tail pl)):K ds A n env l (BH P ops Q S tail ((o,3) :: pl)):=λa w ha hw=>by
 simp only [Bool.and_eq_true] at hs;exact FA (F_ ha hg) (λw' hw'=>by rw [execOp_congr a.eval (rho env) o hs.1.1 (ha.rho hs.1.2)];exact I2 hf (hS w' hw')) (h _ _ (ha.Bk v hs.2) hw)
theorem Aiv (hg:BK ops env o=some true) (h:K ds A n env l (λa w=>o.wp P a w (λa w=>S w/\BH P ops Q S tail pl a w) Q)):K ds A n env l (BH P ops Q S tail ((o,1) :: pl)):=λa w ha hw =>
 Ou (F_ ha hg) λ_ hK=>Oper.wp_mono hK (h a w ha hw)
theorem IY (hS:∀ w,St A l w->S w) (h:K ds A n env l q):K ds A n env l (λa w=>S w/\q a w):=λa w ha hw=>⟨hS w hw,h a w ha hw⟩
theorem As {next:Act->World->Prop} (h:K ds A n env l next):K ds A n env l (Exit.then next Q .normal):=h
theorem B6 {next:Act->World->Prop} {id:Nat} (h:K ds A n env l (Q (.exit id))):K ds A n env l (Exit.then next Q (.exit id)):=h
theorem Bh {next:Act->World->Prop} (h:K ds A n env l (Q .ret)):K ds A n env l (Exit.then next Q .ret):=h
theorem Bw {next:Act->World->Prop} {c:List PanicEntry} (h:K ds A n env l (Q (.panic c))):K ds A n env l (Exit.then next Q (.panic c)):=h
theorem A_ {id:Nat} (h:K ds A n env l (Q .normal)):K ds A n env l (Exit.inBlock id Q .normal):=h
theorem B3 {id:Nat} (h:K ds A n env l (Q .ret)):K ds A n env l (Exit.inBlock id Q .ret):=h
theorem Co {id:Nat} {c:List PanicEntry} (h:K ds A n env l (Q (.panic c))):K ds A n env l (Exit.inBlock id Q (.panic c)):=h
theorem Alg {f:FuncId} {args:Array Value} {hs:List Am} {v:Value} {next:Act->World->Prop} (hg1:(D8 o.op && allB o.op.operands.toList env && inB n o.dst)=true) (hp:FB P (execOp (rho env) o)=some (.enter f args))
  (hc:Ct P f args [] hs λe l1=>e=.returned v/\l1=[]) (hh:If hs l) (hk:K ds A n (Bk env o.dst v) l next):K ds A n env l (λa w=>o.wp P a w next Q) :=
 Sg (X:=l) hg1 hp hc rfl hh (by rintro e l1 ⟨rfl,rfl⟩;exact hk)
theorem Bob {f:FuncId} {args:Array Value} {hs:List Am} {v:Value} (hg:BK ops env o=some true) (hg1:(D8 o.op && allB o.op.operands.toList env && inB n o.dst)=true) (hp:FB P (execOp (rho env) o)=some (.enter f args))
  (hc:Ct P f args [] hs λe l1=>e=.returned v/\l1=[]) (hh:If hs l) (hk:K ds A n (Bk env o.dst v) l (wpList P ops Q rest)):K ds A n env l (wpList P ops Q (o :: rest)):=Ec hg (Alg hg1 hp hc hh hk)
end
def A2 {γ β:Type} (f:γ) (g:γ->Option β):Option β:=g f
theorem By {γ β:Type} {f:γ} {g:γ->Option β} {r:β} (h:A2 f g=some r):∃ J,J=f/\g J=some r:=⟨f,rfl,h⟩
def EX (s:Ah):List Int:=s.data.toList.map λb=>(b.toNat:Int)
def Own (T:TypeId) (sz:Nat) (h:Am) (v:Value) (n:Nat) (cs:List Value):Prop :=
 cs.length=n * sz/\(∀ u ∈ cs,u.oneCell'=true)/\((v=.slice none 0 0/\n=0) \/
  ∃ g cap cur,v=.slice (some ⟨g,0,none⟩) n cap/\h=blk g (.cells cur T (0,0))/\n<=cap/\cap<=maxLen/\cur.size=cap * sz/\cur.toList.take (n * sz)=cs)
def Rd (sz:Nat) (h:Am) (v:Value) (n:Nat) (cs:List Value):Prop :=
 cs.length=n * sz/\(∀ u ∈ cs,u.oneCell'=true)/\((v=.slice none 0 0/\n=0) \/
  ∃ b off cap cur T z,v=.slice (some ⟨b,off,none⟩) n cap/\h b=some (.cells cur T z)/\n<=cap/\cap<=maxLen/\∀ j u,cs[j]? = some u->cur[off+j]? = some u)
theorem Own.rd {T:TypeId} {sz:Nat} {h:Am} {v:Value} {n:Nat} {cs:List Value} (ho:Own T sz h v n cs):Rd sz h v n cs:=by
 obtain ⟨h1,h2,h3⟩:=ho;refine ⟨h1,h2,?_⟩;rcases h3 with h3 | ⟨g,cap,cur,rfl,rfl,h4,h5,h6,h7⟩;exact .inl h3;refine .inr ⟨g,0,cap,cur,T,(0,0),rfl,by simp [blk],h4,h5,λj u hj=>?_⟩;rw [<- h7,List.getElem?_take] at hj;split at hj
 simpa using hj
 cases hj
theorem Own.nil (T:TypeId) (sz:Nat) (h:Am):Own T sz h (.slice none 0 0) 0 []:=⟨by simp,by simp,.inl ⟨rfl,rfl⟩⟩
theorem Own.blk (T:TypeId) (sz b n:Nat) (cs:List Value) (hl:cs.length=n * sz) (h1:(cs.all (·.oneCell'))=true) (hm:n<=maxLen):Own T sz (blk b (.cells cs.toArray T (0,0))) (.slice (some ⟨b,0,none⟩) n n) n cs :=
 ⟨hl,λu hu=>List.all_eq_true.1 h1 u hu,.inr ⟨b,n,cs.toArray,rfl,rfl,Nat.le_refl _,hm,by simpa using hl,by simp [<- hl]⟩⟩
theorem Own.max {T:TypeId} {sz:Nat} {h:Am} {v:Value} {n:Nat} {cs:List Value} (ho:Own T sz h v n cs):n<=maxLen:=by
 rcases ho.2.2 with ⟨_,rfl⟩ | ⟨g,cap,cur,_,_,h4,h5,_⟩;exact Nat.zero_le _;exact Nat.le_trans h4 h5
structure G0 (P:Program) (TS T:TypeId) (sz by_:Nat) (i:TypeInfo) (z:Value):Prop where
 slice:P.underlying TS=some (.slice T)
 info:P.info? T=some i
 zero:i.zero=some z
 size:i.size=sz
 bytes:i.bytes=by_
 cells:z.cells.size=sz
 pos:0 < by_
structure Src (P:Program) (sz:Nat) (w:World) (y:Value) (m:Nat) (news:List Value):Prop where
 len:∀ w',(Builtin.lenOf y).run P w'=.ok m w'
 now:(Builtin.firstCells sz m y).run P w=.ok news.toArray w
 drew:(Builtin.firstCells sz m y).run P w.drew=.ok news.toArray w.drew
def I_ (P:Program) (U:TypeId):Bool :=
 match P.underlying U with
 | some (.slice _)=>true
 | some .string=>true
 | _=>false
theorem XU {P:Program} {U:TypeId} (h:I_ P U=true):(∃ e,P.underlying U=some (.slice e))\/P.underlying U=some .string:=by
 unfold I_ at h;split at h;rename_i e hd;exact .inl ⟨e,hd⟩;rename_i hd;exact .inr hd;cases h
section
variable {P:Program} {w:World} {TS U T:TypeId} {sz bytes:Nat} {i:TypeInfo} {z y:Value} {m:Nat} {news:List Value} {ty:TypeId}
theorem Apl (he:G0 P TS T sz bytes i z) (hu:I_ P U=true) (hs:Src P sz w y 0 []):(Builtin.append_ #[TS,U] ty #[.slice none 0 0,y]).run P w=.ok (.slice none 0 0) w:=by
 have h1:=hs.now;have h2:=he.size;rcases XU hu with ⟨e',hd⟩ | hd <;> simp [Builtin.append_,run_underlying he.slice,run_underlying hd,sizeOf,typeInfo,he.info,h2,hs.len,h1]
theorem S0 (he:G0 P TS T sz bytes i z) (hu:I_ P U=true) (hs:Src P sz w y m news) (a:Option Addr) (sLen sCap:Nat) (olds:List Value) (hg:sCap < sLen+m)
  (hold:(Builtin.firstCells sz sLen (.slice a sLen sCap)).run P w.drew=.ok olds.toArray w.drew)
  (h63:((sLen+m:Nat):Int)<=9223372036854775807) (hfit:Builtin.nextslicecap (sLen+m) sCap * bytes<=281474976710656) :
  (Builtin.append_ #[TS,U] ty #[.slice a sLen sCap,y]).run P w =
   .ok (.slice (some ⟨w.heap.size,0,none⟩) (sLen+m) (grownCap w (sLen+m) sCap T)) (w.drew.alloc (.cells (olds.toArray++news.toArray++Builtin.zeroCells z.cells (grownCap w (sLen+m) sCap T - (sLen+m))) T)):=by
 have hn:¬ (sLen+m<=sCap):=by omega
 have h63':¬ (9223372036854775807 < ((sLen:Int)+(m:Int))):=by omega
 have h48':¬ (281474976710656 < Builtin.nextslicecap (sLen+m) sCap * bytes):=by omega
 have hb:=he.bytes;have hsz:=he.size;have hp:=he.pos;have hp':¬ bytes=0:=by omega
 rcases XU hu with ⟨e',hd⟩ | hd <;>
 ·simp [Builtin.append_,run_underlying he.slice,run_underlying hd,sizeOf,typeInfo,zeroValue,he.info,he.zero,hsz,hb,hs.len,hn,h63',h48',hp',Question.forced,hs.drew,hold,newRow,grownCap]
  congr 2;apply Array.ext';simp [Bx]
theorem Apm (he:G0 P TS T sz bytes i z) (hu:I_ P U=true) (hs:Src P sz w y m news) (hl:news.length=m * sz) (h1:∀ u ∈ news,u.oneCell'=true) (g sLen sCap:Nat) (cur:Array Value) (hg:w.heap[g]? = some (.cells cur T (0,0)))
  (hroom:sLen+m<=sCap) (hfit:sLen * sz+news.length<=cur.size) :
  (Builtin.append_ #[TS,U] ty #[.slice (some ⟨g,0,none⟩) sLen sCap,y]).run P w =
   .ok (.slice (some ⟨g,0,none⟩) (sLen+m) sCap) (w.setRow g (cur.toList.take (sLen * sz)++news++cur.toList.drop (sLen * sz+news.length)).toArray):=by
 have hst:=run_storeCells_at P g (sLen * sz) T news 0 cur w hg (by simpa using hfit) h1;simp only [Nat.add_zero] at hst;have hsz:=he.size;rcases XU hu with ⟨e',hd⟩ | hd <;> simp [Builtin.append_,run_underlying he.slice,run_underlying hd,sizeOf,typeInfo,he.info,hsz,hs.len,hroom,hs.now,Addr.add_lit,hst]
end
section
variable {A:World} {ds:List Deferred} {n0:Nat} {env env':Env} {l l' X:List Am} {q:Act->World->Prop} {P:Program} {Q:Exit->Act->World->Prop} {ops:Array Oper} {os rest:List Oper} {o:Oper}
theorem St.setRow {w:World} {g:Nat} {cur:Array Value} {T:TypeId} (h:St A (blk g (.cells cur T (0,0)) :: l) w) (cs:Array Value):St A (blk g (.cells cs T (0,0)) :: l) (w.setRow g cs):=by
 have hg:w.heap[g]? = some (.cells cur T (0,0)):=h.sat.1 g _ (by simp [blk]);refine ⟨⟨λk o hk=>?_,λf hf k=>?_,h.sat.2.2.keep λf hf k o hk=>?_⟩,h.os,h.tape,h.output,?_⟩;unfold blk at hk;split at hk;rename_i e;subst e;cases hk;exact setRow_heap w k cur cs T _ hg;cases hk;rcases h.sat.2.1 f hf k with h' | h';unfold blk at h' ⊢;split at h';cases h';rename_i e';rw [if_neg e'];exact .inl rfl;exact .inr h';refine setRow_other w g k cs λe'=>?_;subst e';rcases h.sat.2.1 f hf k with h' | h';simp [blk] at h';rw [h'] at hk;cases hk;have:=h.size;simp [World.setRow];omega
theorem V2 {w:World} {f:Am} {l:List Am} (h:Sat l w) (hf:f ∈ l) {b:Nat} {cur:Array Value} {T:TypeId} {z:Nat×Nat} (hb:f b=some (.cells cur T z)) (i:Nat):w.cell? ⟨b,i,none⟩=cur[i]?:=by
 have:=h.on f hf b _ hb;simp [World.cell?,this]
theorem addr_add (b off j:Nat):(⟨b,off,none⟩:Addr).add j=⟨b,off+j,none⟩:=by unfold Addr.add;split <;> simp_all
theorem Rd.src {sz:Nat} {h:Am} {v:Value} {m:Nat} {news:List Value} (hr:Rd sz h v m news) {w:World} (hw:Sat l w) (hm:h ∈ l):Src P sz w v m news:=by
 obtain ⟨h1,h2,h3⟩:=hr;rcases h3 with ⟨rfl,rfl⟩ | ⟨b,off,cap,cur,T,z,rfl,hb,_,_,hc⟩;have:news=[]:=List.eq_nil_of_length_eq_zero (by simpa using h1);subst this;exact ⟨λ_=>rfl,rfl,rfl⟩;have hcell:∀ j u,news[j]? = some u->w.cell? ((⟨b,off,none⟩:Addr).add j)=some u:=λj u hj=>by rw [addr_add,V2 hw hm hb];exact hc j u hj
 exact ⟨λ_=>rfl,run_firstCells_some w sz m _ _ _ _ h1 hcell,run_firstCells_some w.drew sz m _ _ _ _ h1 (by simpa using hcell)⟩
theorem B1z (s:Ah) (w:World):Src P 1 w (.string s) s.size ((EX s).map (Value.int .u8)):=by
 have:((s.extract 0 s.size).data.map λb=>Value.int .u8 b.toNat)=((EX s).map (Value.int .u8)).toArray:=by
  apply Array.ext';simp [EX]
 exact ⟨λ_=>rfl,by simp only [Builtin.firstCells,this];rfl,by simp only [Builtin.firstCells,this];rfl⟩
theorem Aio {T TS U:TypeId} {sz bytes:Nat} {i:TypeInfo} {z:Value} {h:Am} {v y:Value} {n m:Nat} {cs news:List Value} {s x:Operand} (ho:o.op=.call { callee:=.builtin .append,args:=#[s,x],argTypes:=#[TS,U] })
  (he:G0 P TS T sz bytes i z) (hg:BK ops env o=some true) (hd:inB n0 o.dst=true) (hs:B9 env s=some v) (hx:B9 env x=some y) (hu:I_ P U=true) (hO:Own T sz h v n cs) (hsrc:∀ w,Sat (h :: l) w->Src P sz w y m news)
  (hl:news.length=m * sz) (h1:∀ u ∈ news,u.oneCell'=true) (hb:(n+m) * bytes<=140737488355328)
  (hk:∀ h' v',Own T sz h' v' (n+m) (cs++news)->K ds A n0 (Bk env o.dst v') (h' :: l) (wpList P ops Q rest)):K ds A n0 env (h :: l) (wpList P ops Q (o :: rest)):=by
 refine Ec hg λa w ha hw=>?_;have hsr:=hsrc w hw.sat;have hlen:(cs++news).length=(n+m) * sz:=by rw [Bv,hO.1,hl,Nat.add_mul]
 have QV:∀ u ∈ cs++news,u.oneCell'=true:=λu hu=>(GO.1 hu).elim (hO.2.1 u) (h1 u);have hpos:=he.pos;have hnm:n+m<=140737488355328:=Nat.le_trans (Nat.le_mul_of_pos_right _ hpos) hb;have hmax:n+m<=maxLen:=by unfold maxLen;omega
 have hex:∃ v' w',(Builtin.append_ #[TS,U] o.type #[v,y]).run P w=.ok v' w'/\∃ h',Own T sz h' v' (n+m) (cs++news)/\St A (h' :: l) w':=by
  have grown:∀ (old:Nat),old < n+m ->
    Own T sz (blk w.heap.size (.cells (cs.toArray++news.toArray++Builtin.zeroCells z.cells (grownCap w (n+m) old T - (n+m))) T (0,0))) (.slice (some ⟨w.heap.size,0,none⟩) (n+m) (grownCap w (n+m) old T)) (n+m) (cs++news) /\
    St A (blk w.heap.size (.cells (cs.toArray++news.toArray++Builtin.zeroCells z.cells (grownCap w (n+m) old T - (n+m))) T (0,0)) :: l) (w.drew.alloc (.cells (cs.toArray++news.toArray++Builtin.zeroCells z.cells (grownCap w (n+m) old T - (n+m))) T)):=by
   intro old hold;have hge:=grownCap_ge w (n+m) old T;have hcm:grownCap w (n+m) old T<=maxLen:=grownCap_le_maxLen w (n+m) old T hmax;refine ⟨⟨hlen,QV,.inr ⟨w.heap.size,_,_,rfl,rfl,hge,hcm,?_,?_⟩⟩,hw.tail.drew.new _⟩;simp only [Array.size_append,List.size_toArray,size_zeroCells,he.cells,hO.1,hl,<- Nat.add_mul];congr 1;omega;simp only [Array.toList_append,Bx];rw [<- Bx,<- hlen];exact List.take_left
  rcases hO.2.2 with ⟨rfl,rfl⟩ | ⟨g,cap,cur,rfl,rfl,h4,h5,h6,h7⟩;have hcs:cs=[]:=List.eq_nil_of_length_eq_zero (by simpa using hO.1);subst hcs;by_cases hm:m=0;subst hm;have hn:news=[]:=List.eq_nil_of_length_eq_zero (by simpa using hl);subst hn;exact ⟨_,w,Apl he hu hsr,h,Own.nil T sz h,hw⟩;have hr:=S0 (ty:=o.type) he hu hsr none 0 0 [] (by omega) rfl (by omega) (growslice_fits (by omega) hb);have hgr:=grown 0 (by omega);simp only [Nat.zero_add,List.nil_append] at hr hgr ⊢;exact ⟨_,_,hr,_,hgr.1,hgr.2⟩;by_cases hroom:n+m<=cap;have hfit:n * sz+news.length<=cur.size:=by rw [hl,h6,<- Nat.add_mul];exact Nat.mul_le_mul_right _ hroom
  have hgc:w.heap[g]? = some (.cells cur T (0,0)):=hw.sat.1 g _ (by simp [blk]);refine ⟨_,_,Apm he hu hsr hl h1 g n cap cur hgc hroom hfit,_,⟨hlen,QV,.inr ⟨g,cap,_,rfl,rfl,hroom,h5,?_,?_⟩⟩,hw.setRow _⟩;simp only [List.size_toArray,Bv,List.length_take,BA,Array.length_toList];omega;rw [h7,<- hlen];exact List.take_left;have hold:(Builtin.firstCells sz n (.slice (some ⟨g,0,none⟩) n cap)).run P w.drew=.ok cs.toArray w.drew :=
   ((Own.rd ⟨hO.1,hO.2.1,.inr ⟨g,cap,cur,rfl,rfl,h4,h5,h6,h7⟩⟩:Rd sz _ _ n cs).src (l:=blk g (.cells cur T (0,0)) :: l) hw.sat (Db ..)).drew
  have hr:=S0 (ty:=o.type) he hu hsr (some ⟨g,0,none⟩) n cap cs (by omega) hold (by omega) (growslice_fits (by omega) hb);have hgr:=grown cap (by omega);exact ⟨_,_,hr,_,hgr.1,hgr.2⟩
 obtain ⟨v',w',hr,h',hO',hw'⟩:=hex;unfold Oper.wp execOp;simp only [ho,resolve,invoke,builtin,Sem.run_bind,Sem.run_pure,Result.andThen_ok,List.map_toArray,List.map_cons,List.map_nil,ha.eval hs,ha.eval hx,hr];exact hk h' v' hO' _ _ (ha.Bk v' hd) hw'
end
def apd {α:Type} (b:Nat) (l ys:List α):Option (List α):=cond (decide ((l.length+ys.length) * b<=140737488355328)) (some (l++ys)) none
theorem To {α:Type} {b:Nat} {l ys l':List α} (h:apd b l ys=some l'):(l.length+ys.length) * b<=140737488355328/\l'=l++ys:=by
 obtain ⟨h1,h2⟩:=I0 h;exact ⟨of_decide_eq_true h1,(Ap h2).symm⟩
def Bm {α:Type} (l:List α) (i:Int):Option α:=if 0<=i then l[i.toNat]? else none
theorem RI {α:Type} {l:List α} {i:Int} {x:α} (h:Bm l i=some x):0<=i/\i < l.length/\l[i.toNat]? = some x:=by
 unfold Bm at h;split at h;rename_i h0;have:=(List.getElem?_eq_some_iff.1 h).1;exact ⟨h0,by omega,h⟩;cases h
structure En {α:Type} (E:α->List Value) (sz:Nat):Prop where
 len:∀ x,(E x).length=sz
 one:∀ x,((E x).all (·.oneCell'))=true
section
variable {α:Type} {E:α->List Value} {sz:Nat}
theorem En.lens (h:En E sz) (l:List α):(l.flatMap E).length=l.length * sz:=by
 induction l with
 | nil=>simp
 | cons x l ih=>rw [List.flatMap_cons,Bv,ih,h.len,AH,Nat.add_mul,Nat.one_mul,Nat.add_comm]
theorem En.ones (h:En E sz) (l:List α):∀ u ∈ l.flatMap E,u.oneCell'=true:=λu hu=>by
 obtain ⟨x,_,hx⟩:=List.mem_flatMap.1 hu;exact List.all_eq_true.1 (h.one x) u hx
theorem En.at_ (h:En E sz):∀ (l:List α) (k:Nat) (x:α),l[k]? = some x->((l.flatMap E).drop (k * sz)).take sz=E x
 | y :: l,0,x,hx=>by
  simp only [List.getElem?_cons_zero,Option.some.injEq] at hx;subst hx;rw [List.flatMap_cons,Nat.zero_mul,List.drop_zero,<- h.len y,List.take_left]
 | y :: l,k+1,x,hx=>by
  rw [List.getElem?_cons_succ] at hx;rw [List.flatMap_cons,Nat.add_mul,Nat.one_mul,Nat.add_comm,<- List.drop_drop,show (E y++l.flatMap E).drop sz=l.flatMap E by rw [<- h.len y,List.drop_left]];exact h.at_ l k x hx
end
def AC {α:Type} (E:α->List Value) (T:TypeId) (sz:Nat) (h:Am) (v:Value) (l:List α):Prop:=Own T sz h v l.length (l.flatMap E)
def Ce {α:Type} (E:α->List Value) (sz:Nat) (h:Am) (v:Value) (l:List α):Prop:=Rd sz h v l.length (l.flatMap E)
theorem Own.val {T:TypeId} {sz:Nat} {h:Am} {v:Value} {n:Nat} {cs:List Value} (ho:Own T sz h v n cs):∃ a c,v=.slice a n c:=by
 rcases ho.2.2 with ⟨rfl,rfl⟩ | ⟨g,cap,cur,rfl,_⟩;exact ⟨none,0,rfl⟩;exact ⟨_,cap,rfl⟩
theorem Rd.val {sz:Nat} {h:Am} {v:Value} {n:Nat} {cs:List Value} (ho:Rd sz h v n cs):∃ a c,v=.slice a n c:=by
 rcases ho.2.2 with ⟨rfl,rfl⟩ | ⟨b,off,cap,cur,T,z,rfl,_⟩;exact ⟨none,0,rfl⟩;exact ⟨_,cap,rfl⟩
theorem AC.rd {α:Type} {E:α->List Value} {T:TypeId} {sz:Nat} {h:Am} {v:Value} {l:List α} (ho:AC E T sz h v l):Ce E sz h v l:=Own.rd ho
theorem AC.nil {α:Type} (E:α->List Value) (T:TypeId) (sz:Nat) (h:Am):AC E T sz h (.slice none 0 0) []:=Own.nil T sz h
theorem Ce.nil {α:Type} (E:α->List Value) (sz:Nat) (h:Am):Ce E sz h (.slice none 0 0) []:=(Own.nil 0 sz h).rd
theorem AC.blk {α:Type} {E:α->List Value} (T:TypeId) {sz:Nat} (hE:En E sz) (b:Nat) (l:List α) (cs:Array Value) (n:Nat) (hc:(l.flatMap E).toArray=cs) (hn:l.length=n) (hm:n<=maxLen):AC E T sz (blk b (.cells cs T (0,0))) (.slice (some ⟨b,0,none⟩) n n) l:=by
 subst hc hn;exact Own.blk T sz b l.length (l.flatMap E) (hE.lens l) (List.all_eq_true.2 (hE.ones l)) hm
def none_:Am:=λ_=>none
def Elem (h:Am) (p:Value) (us:List Value):Prop:=∃ b off cur T z,p=.pointer (some ⟨b,off,none⟩)/\h b=some (.cells cur T z)/\∀ j u,us[j]? = some u->cur[off+j]? = some u
section
variable {A:World} {ds:List Deferred} {n0:Nat} {env env':Env} {l l' X:List Am} {q:Act->World->Prop} {P:Program} {Q:Exit->Act->World->Prop} {ops:Array Oper} {os rest:List Oper} {o:Oper}
theorem Aim {α:Type} {E:α->List Value} {xs ys xs':List α} {T TS U:TypeId} {sz bytes:Nat} {i:TypeInfo} {z:Value} {h:Am} {v y:Value} {s x:Operand} (hE:En E sz) (ho:o.op=.call { callee:=.builtin .append,args:=#[s,x],argTypes:=#[TS,U] })
  (he:G0 P TS T sz bytes i z) (hg:BK ops env o=some true) (hd:inB n0 o.dst=true) (hs:B9 env s=some v) (hx:B9 env x=some y) (hu:I_ P U=true) (hap:apd bytes xs ys=some xs') (hO:AC E T sz h v xs) (hsrc:∀ w,Sat (h :: l) w->Src P sz w y ys.length (ys.flatMap E))
  (hk:∀ h' a' c',AC E T sz h' (.slice a' xs'.length c') xs'->K ds A n0 (Bk env o.dst (.slice a' xs'.length c')) (h' :: l) (wpList P ops Q rest)):K ds A n0 env (h :: l) (wpList P ops Q (o :: rest)):=by
 obtain ⟨hb,rfl⟩:=To hap;refine Aio ho he hg hd hs hx hu hO hsrc (hE.lens ys) (hE.ones ys) hb λh' v' hO'=>?_;have hO2:AC E T sz h' v' (xs++ys):=by
  unfold AC;rw [Bv,List.flatMap_append];exact hO'
 obtain ⟨a',c',rfl⟩:=hO2.val;exact hk h' a' c' hO2
theorem Cp {α:Type} {E:α->List Value} {sz:Nat} (hE:En E sz) (ys:List α) {T:TypeId} {b n:Nat} {cs:Array Value} (hc:(ys.flatMap E).toArray=cs) (hn:ys.length=n) (hm:n<=maxLen) (j:Nat) (hj:l[j]? = some (blk b (.cells cs T (0,0)))) (w:World) (hw:Sat l w) :
  Src P sz w (.slice (some ⟨b,0,none⟩) n n) ys.length (ys.flatMap E):=by
 have:=(AC.blk T hE b ys cs n hc hn hm).rd;exact Rd.src this hw (List.mem_of_getElem? hj)
theorem B1y {α:Type} {E:α->List Value} {sz:Nat} {ys:List α} {h2:Am} {v:Value} (hr:Ce E sz h2 v ys) (hm:h2 ∈ l) (w:World) (hw:Sat l w):Src P sz w v ys.length (ys.flatMap E):=Rd.src hr hw hm
def encI (k:IntKind) (x:Int):List Value:=[.int k x]
theorem CN (k:IntKind):En (encI k) 1:=⟨λ_=>rfl,λ_=>rfl⟩
def encS (x:Ah):List Value:=[.string x]
theorem Bg:En encS 1:=⟨λ_=>rfl,λ_=>rfl⟩
theorem TA (k:IntKind) (l:List Int):l.flatMap (encI k)=l.map (Value.int k):=by
 induction l with
 | nil=>rfl
 | cons x l ih=>rw [List.flatMap_cons,ih];rfl
theorem Z4 (s:Ah) (w:World):Src P 1 w (.string s) (EX s).length ((EX s).flatMap (encI .u8)):=by
 rw [TA,show (EX s).length=s.size by simp [EX]];exact B1z s w
theorem Bn9 {s:Ah} {S T U:TypeId} {x:Operand} (ho:o.op=.convert S T x) (hg:BK ops env o=some true) (hd:inB n0 o.dst=true) (hx:B9 env x=some (.string s)) (h1:P.underlying S=some .string) (h2:P.underlying T=some (.slice U)) (h3:P.underlying U=some (.int .u8)) (hs:s.size<=maxLen)
  (hk:∀ h' a' c',Ce (encI .u8) 1 h' (.slice a' (EX s).length c') (EX s)->K ds A n0 (Bk env o.dst (.slice a' (EX s).length c')) (h' :: l) (wpList P ops Q rest)):K ds A n0 env l (wpList P ops Q (o :: rest)):=by
 refine Ec hg λa w ha hw=>?_;have hr:=run_bytes_of_string (P:=P) w S T U s h1 h2 h3;unfold Oper.wp execOp;simp only [ho,ha.eval hx,Sem.run_bind,hr,Result.andThen_ok,Sem.run_pure];have hlen:(EX s).length=s.size:=by simp [EX]
 rw [<- hlen];refine hk _ _ _ ?_ _ _ (ha.Bk _ hd) (hw.drew.new _);unfold Ce;rw [TA,hlen];have hge:=grownCap_ge w s.size 0 U;refine ⟨by simp [EX],λu hu=>?_,.inr ⟨w.heap.size,0,_,_,U,_,rfl,if_pos rfl,hge,grownCap_le_maxLen w _ _ _ hs,λj u hj=>?_⟩⟩;obtain ⟨n,_,rfl⟩:=List.mem_map.1 hu;rfl;have hlt:j < s.data.size:=by
  have:=(List.getElem?_eq_some_iff.1 hj).1
  simpa [EX] using this
 rw [Nat.zero_add];simp only [bytesRow];rw [Array.getElem?_append_left (by simpa using hlt)];simp only [EX,List.map_map,List.getElem?_map] at hj;rw [Array.getElem?_map]
 simpa using hj
theorem NW {h:Am} {v:Value} {xs:List Int} {S T U:TypeId} {x:Operand} (ho:o.op=.convert S T x) (hg:BK ops env o=some true) (hd:inB n0 o.dst=true) (hx:B9 env x=some v) (h1:P.underlying S=some (.slice U)) (h2:P.underlying T=some .string) (h3:P.underlying U=some (.int .u8))
  (hR:Ce (encI .u8) 1 h v xs) (hm:h ∈ l) (hk:K ds A n0 (Bk env o.dst (.string (strOfNums xs))) l (wpList P ops Q rest)):K ds A n0 env l (wpList P ops Q (o :: rest)):=by
 refine Ec hg λa w ha hw=>?_;have hr:(convert S T v).run P w=.ok (.string (strOfNums xs)) w:=by
  unfold Ce at hR;rw [TA] at hR;obtain ⟨_,_,hc⟩:=hR;rcases hc with ⟨rfl,h0⟩ | ⟨b,off,cap,cur,E,z,rfl,hb,_,_,hc⟩;have:xs=[]:=List.eq_nil_of_length_eq_zero h0;subst this;rw [run_convert_bytes_nil w S U h1 h3 0 0 T h2];rfl;exact run_convert_bytes_arg w S U h1 h3 b off xs.length cap xs rfl (λi hi=>by
   rw [V2 hw.sat hm hb];exact hc i _ (by simp [List.getD,List.getElem?_eq_getElem hi])) T h2
 unfold Oper.wp execOp;simp only [ho,ha.eval hx,Sem.run_bind,hr,Result.andThen_ok,Sem.run_pure];exact hk _ _ (ha.Bk _ hd) hw
def mkd {α:Type} (b:Nat) (z:α) (n:Int):Option (List α):=cond (decide (0<=n/\b * n<=140737488355328)) (some (List.replicate n.toNat z)) none
theorem Bp7 {α:Type} {E:α->List Value} {sz:Nat} (hE:En E sz) (zz:α) (n:Nat):madeCells (E zz).toArray (n * sz)=((List.replicate n zz).flatMap E).toArray:=by
 apply Array.ext;simp [size_madeCells,hE.len,List.length_flatMap];intro i h1 h2;rw [size_madeCells] at h1;have hp:0 < sz:=by
  rcases Nat.eq_zero_or_pos sz with h | h;subst h;simp at h1;exact h
 have hq:i / sz < n:=(Nat.div_lt_iff_lt_mul hp).2 h1;have ha:=hE.at_ (List.replicate n zz) (i / sz) zz (by simp [hq]);have hmod:i % sz < sz:=Nat.mod_lt _ hp;have hi:i / sz * sz+i % sz=i:=by rw [Nat.mul_comm];exact Nat.div_add_mod i sz
 have hg:((List.replicate n zz).flatMap E)[i]? = (E zz)[i % sz]?:=by
  rw [<- ha,List.getElem?_take,if_pos hmod,List.getElem?_drop,hi]
 have h3:(E zz)[i % sz]? = some ((E zz)[i % sz]'(by rw [hE.len];exact hmod)):=List.getElem?_eq_getElem _;rw [h3] at hg;have h4:=(List.getElem?_eq_some_iff.1 hg).2;simp only [List.getElem_toArray];rw [h4];simp only [madeCells,Array.getElem_map,Array.getElem_range,List.size_toArray,hE.len];rw [Array.getElem!_eq_getD,Array.getD_eq_getD_getElem?];simp [h3]
theorem Boq {α:Type} {E:α->List Value} {xs:List α} {n:Int} {T TS:TypeId} {sz bytes:Nat} {i:TypeInfo} {z:Value} (zz:α) {kl kc:IntKind} {x y:Operand} (hE:En E sz) (hz:z.cells=(E zz).toArray) (ho:o.op=.makeSlice TS x y) (he:G0 P TS T sz bytes i z) (hg:BK ops env o=some true)
  (hd:inB n0 o.dst=true) (hx:B9 env x=some (.int kl n)) (hy:B9 env y=some (.int kc n)) (hmk:mkd bytes zz n=some xs) (hk:∀ h' a' c',AC E T sz h' (.slice a' xs.length c') xs->K ds A n0 (Bk env o.dst (.slice a' xs.length c')) (h' :: l) (wpList P ops Q rest)):K ds A n0 env l (wpList P ops Q (o :: rest)):=by
 refine Ec hg λa w ha hw=>?_;obtain ⟨hb,hxs⟩:=I0 hmk;cases hxs;obtain ⟨h0,h1⟩:=of_decide_eq_true hb;have hp:=he.pos;have hnb:n<=bytes * n:=by
  have h2:(1:Int)<=bytes:=by omega
  have:=Int.mul_le_mul_of_nonneg_right h2 h0;omega
 have hr:=run_make (P:=P) w TS T i z he.slice he.info he.zero kl kc n n h0 (Int.le_refl _) (by rw [he.bytes];omega) (by omega);unfold Oper.wp execOp;simp only [ho,ha.eval hx,ha.eval hy,Sem.run_bind,hr,Result.andThen_ok,Sem.run_pure];have hO:AC E T sz (blk w.heap.size (.cells (madeCells z.cells (n.toNat * i.size)) T (0,0))) (.slice (some ⟨w.heap.size,0,none⟩) n.toNat n.toNat) (List.replicate n.toNat zz):=by
  rw [he.size,hz,Bp7 hE];exact AC.blk T hE _ _ _ n.toNat rfl (by simp) (by unfold maxLen;omega)
 have e:(Value.slice (some ⟨w.heap.size,0,none⟩) n.toNat n.toNat)=.slice (some ⟨w.heap.size,0,none⟩) (List.replicate n.toNat zz).length n.toNat:=by rw [List.length_replicate]
 rw [e] at hO ⊢;exact hk _ _ _ hO _ _ (ha.Bk _ hd) (hw.new _)
theorem Apk {P:Program} {T:TypeId} (w:World) (h:(match P.underlying T with | some (.struct _)=>true | some (.array _ _)=>true | _=>false)=true):(isAgg T).run P w=.ok true w:=by
 split at h;rename_i hd;simp [isAgg,run_underlying hd];rename_i hd;simp [isAgg,run_underlying hd];cases h
theorem Aps {P:Program} {T:TypeId} (w:World) (h:(match P.underlying T with | some (.struct _)=>true | some (.array _ _)=>true | some _=>false | none=>true)=false):(isAgg T).run P w=.ok false w:=by
 unfold isAgg;cases hd:P.underlying T with
 | none=>rw [hd] at h;cases h
 | some d=>cases d <;> simp_all [run_underlying hd]
theorem Elem.cell {h:Am} {p:Value} {us:List Value} (he:Elem h p us) {w:World} (hw:Sat l w) (hm:h ∈ l):∃ a,p=.pointer (some a)/\∀ j u,us[j]? = some u->w.cell? (a.add j)=some u:=by
 obtain ⟨b,off,cur,T,z,rfl,hb,hc⟩:=he;exact ⟨_,rfl,λj u hj=>by rw [addr_add,V2 hw hm hb];exact hc j u hj⟩
theorem Jy {h:Am} {p u:Value} {us:List Value} {T:TypeId} {x:Operand} (ho:o.op=.load T x) (hg:BK ops env o=some true) (hd:inB n0 o.dst=true) (hx:B9 env x=some p) (hT:(match P.underlying T with | some (.struct _)=>true | some (.array _ _)=>true | some _=>false | none=>true)=false) (hE:Elem h p (u :: us)) (hm:h ∈ l)
  (hk:K ds A n0 (Bk env o.dst u) l (wpList P ops Q rest)):K ds A n0 env l (wpList P ops Q (o :: rest)):=by
 refine Ec hg λa w ha hw=>?_;obtain ⟨ad,rfl,hc⟩:=hE.cell hw.sat hm;have h0:=hc 0 u rfl;rw [show ad.add 0=ad from rfl] at h0;have hr:(Instr.loadAt T (.pointer (some ad))).run P w=.ok u w:=by
  simp [Instr.loadAt,Instr.sureAddr,loadVar,Aps w hT,load,Sem.run,h0]
 unfold Oper.wp execOp;simp only [ho,ha.eval hx,Sem.run_bind,hr,Result.andThen_ok,Sem.run_pure];exact hk _ _ (ha.Bk _ hd) hw
theorem Bom {h:Am} {p:Value} {us:List Value} {T:TypeId} {x:Operand} (ho:o.op=.load T x) (hg:BK ops env o=some true) (hd:inB n0 o.dst=true) (hx:B9 env x=some p) (hT:(match P.underlying T with | some (.struct _)=>true | some (.array _ _)=>true | _=>false)=true) (hs:(P.info? T).map (·.size)=some us.length) (hE:Elem h p us) (hm:h ∈ l)
  (hk:K ds A n0 (Bk env o.dst (.agg us.toArray)) l (wpList P ops Q rest)):K ds A n0 env l (wpList P ops Q (o :: rest)):=by
 refine Ec hg λa w ha hw=>?_;obtain ⟨ad,rfl,hc⟩:=hE.cell hw.sat hm;cases hif:P.info? T with
 | none=>rw [hif] at hs;cases hs
 | some i =>
  rw [hif] at hs;have hsz:i.size=us.length:=Ap hs;have hr:(Instr.loadAt T (.pointer (some ad))).run P w=.ok (.agg us.toArray) w:=by
   simp [Instr.loadAt,Instr.sureAddr,loadVar,Apk w hT,sizeOf,typeInfo,hif,hsz,run_loadCells_list w ad us hc]
  unfold Oper.wp execOp;simp only [ho,ha.eval hx,Sem.run_bind,hr,Result.andThen_ok,Sem.run_pure];exact hk _ _ (ha.Bk _ hd) hw
theorem CX (h:K ds A n0 env (none_ :: l) q):K ds A n0 env l q:=λa w ha hw=>h a w ha ⟨⟨λ_ _ h=>(by cases h),λ_ _ _=>.inl rfl,hw.sat⟩,hw.os,hw.tape,hw.output,hw.size⟩
theorem OK (pre:List Am) (f:Am) (post:List Am) (h:K ds A n0 env (f :: (pre++post)) q):K ds A n0 env (pre++f :: post) q:=h.perm List.perm_middle
theorem BI {a b c d e f:Am} {l:List Am} (h:K ds A n0 env (f :: a :: b :: c :: d :: e :: l) q):K ds A n0 env (a :: b :: c :: d :: e :: f :: l) q:=OK [a,b,c,d,e] f l h
theorem Aa8 {a b c d e f g:Am} {l:List Am} (h:K ds A n0 env (g :: a :: b :: c :: d :: e :: f :: l) q):K ds A n0 env (a :: b :: c :: d :: e :: f :: g :: l) q:=OK [a,b,c,d,e,f] g l h
theorem B7o {a b c d e f g i:Am} {l:List Am} (h:K ds A n0 env (i :: a :: b :: c :: d :: e :: f :: g :: l) q):K ds A n0 env (a :: b :: c :: d :: e :: f :: g :: i :: l) q:=OK [a,b,c,d,e,f,g] i l h
theorem B7p {a b c d e f g i j:Am} {l:List Am} (h:K ds A n0 env (j :: a :: b :: c :: d :: e :: f :: g :: i :: l) q):K ds A n0 env (a :: b :: c :: d :: e :: f :: g :: i :: j :: l) q:=OK [a,b,c,d,e,f,g,i] j l h
theorem B7r {a b c d e f g i j k:Am} {l:List Am} (h:K ds A n0 env (k :: a :: b :: c :: d :: e :: f :: g :: i :: j :: l) q):K ds A n0 env (a :: b :: c :: d :: e :: f :: g :: i :: j :: k :: l) q:=OK [a,b,c,d,e,f,g,i,j] k l h
theorem B7m {a b c d e f g i j k m:Am} {l:List Am} (h:K ds A n0 env (m :: a :: b :: c :: d :: e :: f :: g :: i :: j :: k :: l) q):K ds A n0 env (a :: b :: c :: d :: e :: f :: g :: i :: j :: k :: m :: l) q:=OK [a,b,c,d,e,f,g,i,j,k] m l h
end
section
variable {A:World} {ds:List Deferred} {n0:Nat} {env:Env} {d:Option Nat} {X:List Am} {next:Act->World->Prop} {Q:Exit->Act->World->Prop} {v:Value} {f1 f2 f3 f4:Am}
theorem BU (h:K ds A n0 (Bk env d v) (f1 :: X) next):Nx ds A n0 env d X next Q (.returned v) [f1]:=h
theorem AR (h:K ds A n0 (Bk env d v) (f1 :: f2 :: X) next):Nx ds A n0 env d X next Q (.returned v) [f1,f2]:=h
end
def Place (A:Option Addr) (k:Nat) (p:Value):Prop:=∃ b off,A=some ⟨b,off,none⟩/\p=.pointer (some ⟨b,off+k,none⟩)
def I5 {α:Type} (l:List α) (i:Int) (x:α):Option (List α):=cond (decide (0<=i/\i < l.length)) (some (l.set i.toNat x)) none
theorem Aj7 {α:Type} {l l':List α} {i:Int} {x:α} (h:I5 l i x=some l'):0<=i/\i < l.length/\l'=l.set i.toNat x:=by
 obtain ⟨h1,h2⟩:=I0 h;obtain ⟨h3,h4⟩:=of_decide_eq_true h1;exact ⟨h3,h4,(Ap h2).symm⟩
theorem Ur {α:Type} {l l':List α} {i:Int} {x:α} (h:I5 l i x=some l'):l'.length=l.length:=by
 obtain ⟨_,_,rfl⟩:=Aj7 h;exact List.length_set
theorem En.set {α:Type} {E:α->List Value} {sz:Nat} (hE:En E sz) (x:α):∀ (l:List α) (k:Nat),k < l.length->(l.set k x).flatMap E=(l.flatMap E).take (k * sz)++E x++(l.flatMap E).drop (k * sz+sz)
 | y :: l,0,_=>by
  rw [List.set_cons_zero,List.flatMap_cons,List.flatMap_cons,Nat.zero_mul,List.take_zero,List.nil_append,Nat.zero_add,<- hE.len y,List.drop_left]
 | y :: l,k+1,h=>by
  have h':k < l.length:=by simpa using h
  rw [List.set_cons_succ,List.flatMap_cons,List.flatMap_cons,hE.set x l k h'];rw [show (k+1) * sz=(E y).length+k * sz by rw [hE.len,Nat.add_mul,Nat.one_mul,Nat.add_comm]];rw [List.take_length_add_append,show (E y).length+k * sz+sz=(E y).length+(k * sz+sz) by omega,List.drop_length_add_append];simp [Bx]
theorem B1x {α:Type} (C Ab:List α) (kk off sz nn:Nat) (h1:off+Ab.length<=sz) (h2:kk+sz<=nn) (h3:nn<=C.length) :
  (C.take (kk+off)++Ab++C.drop (kk+off+Ab.length)).take nn =
   (C.take nn).take kk++((((C.take nn).drop kk).take sz).take off++Ab++(((C.take nn).drop kk).take sz).drop (off+Ab.length))++(C.take nn).drop (kk+sz):=by
 apply List.ext_getElem?;intro j;by_cases j1:j < kk;rw [List.getElem?_take,if_pos (by omega),List.getElem?_append_left (by simp;omega),List.getElem?_append_left (by simp;omega),List.getElem?_take,if_pos (by omega)];rw [List.getElem?_append_left (by simp;omega),List.getElem?_append_left (by simp;omega),List.getElem?_take,if_pos j1,List.getElem?_take,if_pos (by omega)];obtain ⟨i,rfl⟩:∃ i,j=kk+i:=⟨j - kk,by omega⟩;have hL:∀ (m:Nat),i < m->m<=nn - kk->((C.take nn).drop kk)[i]? = C[kk+i]?:=λm h h'=>by rw [List.getElem?_drop,List.getElem?_take,if_pos (by omega)]
 rw [Bx ((C.take nn).take kk),List.getElem?_append_right (l₁:=(C.take nn).take kk) (by simp;omega)];rw [show ((C.take nn).take kk).length=kk by simp;omega,Nat.add_sub_cancel_left];by_cases j2:i < off;rw [List.getElem?_take,if_pos (by omega),Bx,List.getElem?_append_left (by simp;omega),List.getElem?_take,if_pos (by omega)];rw [Bx,Bx,List.getElem?_append_left (by simp;omega),List.getElem?_take,if_pos j2,List.getElem?_take,if_pos (by omega),hL (i+1) (by omega) (by omega)];by_cases j3:i < off+Ab.length;rw [List.getElem?_take,if_pos (by omega),Bx,List.getElem?_append_right (by simp;omega),List.getElem?_append_left (by simp;omega)];rw [Bx,Bx,List.getElem?_append_right (by simp;omega),List.getElem?_append_left (by simp;omega)];congr 1;simp;omega;by_cases j4:i < sz;rw [List.getElem?_take,if_pos (by omega),Bx,List.getElem?_append_right (by simp;omega),List.getElem?_append_right (by simp;omega),List.getElem?_drop];rw [Bx,Bx,List.getElem?_append_right (by simp;omega),List.getElem?_append_right (by simp;omega),List.getElem?_append_left (by simp;omega),List.getElem?_drop,List.getElem?_take,if_pos (by simp;omega),List.getElem?_drop,List.getElem?_take,if_pos (by simp;omega)];congr 1;simp;omega;by_cases j5:kk+i < nn;rw [List.getElem?_take,if_pos (by omega),Bx,List.getElem?_append_right (by simp;omega),List.getElem?_append_right (by simp;omega),List.getElem?_drop];rw [Bx,Bx,List.getElem?_append_right (by simp;omega),List.getElem?_append_right (by simp;omega),List.getElem?_append_right (by simp;omega),List.getElem?_drop,List.getElem?_take,if_pos (by simp;omega)];congr 1;simp;omega;rw [List.getElem?_take,if_neg (by omega)]
 symm
 apply List.getElem?_eq_none;simp;omega
def Dh:List Am->World->Prop
 | [],_=>True
 | f :: l,w=>f.On w/\Dh l w
theorem Dh.mem:∀ {l:List Am} {w:World},Dh l w->∀ f ∈ l,f.On w
 | _ :: _,_,h,f,hf=>by
  rcases List.mem_cons.1 hf with rfl | hf;exact h.1;exact h.2.mem f hf
theorem Dh.evs {l:List Am} {w:World} (hw:Dh l w):∀ {es:List Ev},Jo l es->Mr es w w
 | [],_=>rfl
 | .ld a v :: es,h=>by
  obtain ⟨⟨i,cs,e,z,h1,h2,h3⟩,h4⟩:=h;refine ⟨?_,hw.evs h4⟩;have hb:=hw.mem _ (List.mem_of_getElem? h1) a.block (.cells cs e z) (by simp [blk]);obtain ⟨x,y,s⟩:=a;simp only at h2 h3 hb;subst h2;simp [World.cell?,hb,h3]
 | Ev.st .. :: _,h=>h.elim
 | Ev.nw .. :: _,h=>h.elim
section
variable {A:World} {ds:List Deferred} {n0:Nat} {env env':Env} {l l' X:List Am} {q:Act->World->Prop} {P:Program} {Q:Exit->Act->World->Prop} {ops:Array Oper} {os rest:List Oper} {o:Oper}
theorem K.eq (he:env=env') (hl:l=l') (h:K ds A n0 env' l' q):K ds A n0 env l q:=by subst he hl;exact h
theorem Bok {α:Type} {E:α->List Value} {xs:List α} {a:α} {ix:Int} {kd:IntKind} {h:Am} {A':AG} {c:Nat} {T TS:TypeId} {sz:Nat} {x y:Operand} (hE:En E sz) (ho:o.op=.indexAddr TS x y) (hg:BK ops env o=some true) (hd:inB n0 o.dst=true) (hx:B9 env x=some (.slice A' xs.length c)) (hy:B9 env y=some (.int kd ix))
  (h1:P.underlying TS=some (.slice T)) (h2:(P.info? T).map (·.size)=some sz) (hi:Bm xs ix=some a) (hR:Ce E sz h (.slice A' xs.length c) xs) (hk:∀ p,Elem h p (E a)->Place A' (ix.toNat * sz) p->K ds A n0 (Bk env o.dst p) l (wpList P ops Q rest)):K ds A n0 env l (wpList P ops Q (o :: rest)):=by
 refine Ec hg λa' w ha hw=>?_;obtain ⟨hi0,hi1,hi2⟩:=RI hi;obtain ⟨hl,_,hc⟩:=hR;cases hif:P.info? T with
 | none=>rw [hif] at h2;cases h2
 | some i =>
  rw [hif] at h2;have hsz:i.size=sz:=Ap h2;rcases hc with ⟨_,h0⟩ | ⟨b,off,cap,cur,T',z,he,hb,_,_,hc⟩;omega;cases he;have hr:(Instr.indexAt TS (.slice (some ⟨b,off,none⟩) xs.length c) (.int kd ix)).run P w=.ok (.pointer (some ⟨b,off+ix.toNat * sz,none⟩)) w:=by
   simp [Instr.indexAt,run_underlying h1,asIntOf,hi0,hi1,sizeOf,typeInfo,hif,hsz,addr_add]
  unfold Oper.wp execOp;simp only [ho,ha.eval hx,ha.eval hy,Sem.run_bind,hr,Result.andThen_ok,Sem.run_pure];refine hk _ ⟨b,off+ix.toNat * sz,cur,T',z,rfl,hb,λj u hj=>?_⟩ ⟨b,off,rfl,rfl⟩ _ _ (ha.Bk _ hd) hw;rw [<- hE.at_ xs ix.toNat a hi2,List.getElem?_take] at hj;split at hj;rw [List.getElem?_drop] at hj;rw [Nat.add_assoc];exact hc _ u hj;cases hj
theorem Boj {h:Am} {p:Value} {us:List Value} {T:TypeId} {k off k0:Nat} {A':Option Addr} {x:Operand} (ho:o.op=.fieldAddr T x k) (hg:BK ops env o=some true) (hd:inB n0 o.dst=true) (hx:B9 env x=some p)
  (hT:(match P.underlying T with | some (.struct fs)=>(match fs[k]? with | some f=>(match (P.info? f.type).map (·.size) with | some (s+1)=>some f.offset | _=>none) | none=>none) | _=>none)=some off) (hE:Elem h p us) (hp:Place A' k0 p) (hk:∀ p',Elem h p' (us.drop off)->Place A' (k0+off) p'->K ds A n0 (Bk env o.dst p') l (wpList P ops Q rest)):K ds A n0 env l (wpList P ops Q (o :: rest)):=by
 refine Ec hg λa w ha hw=>?_;obtain ⟨b1,Lm,rfl,rfl⟩:=hp;obtain ⟨b,of_,cur,T',z,he,hb,hc⟩:=hE;cases he;split at hT;rename_i fs hfs;split at hT;rename_i f hf;split at hT;rename_i s hs;cases hT;cases hif:P.info? f.type with
 | none=>rw [hif] at hs;cases hs
 | some i =>
  rw [hif] at hs;have hsz:i.size=s+1:=Ap hs;have hr:(Instr.fieldAt T (.pointer (some ⟨b1,Lm+k0,none⟩)) k).run P w=.ok (.pointer (some ⟨b1,Lm+k0+f.offset,none⟩)) w:=by
   simp [Instr.fieldAt,run_underlying hfs,hf,Instr.sureAddr,fieldPlace,sizeOf,typeInfo,hif,hsz,addr_add]
  unfold Oper.wp execOp;simp only [ho,ha.eval hx,Sem.run_bind,hr,Result.andThen_ok,Sem.run_pure];refine hk _ ⟨b1,Lm+k0+f.offset,cur,T',z,rfl,hb,λj u hj=>?_⟩ ⟨b1,Lm,rfl,by rw [Nat.add_assoc]⟩ _ _ (ha.Bk _ hd) hw;rw [List.getElem?_drop] at hj;rw [Nat.add_assoc];exact hc _ u hj
 cases hT;cases hT;cases hT
theorem Ui {α:Type} {E:α->List Value} {xs xs':List α} {x x':α} {ix:Int} {h:Am} {A':AG} {c:Nat} {T T1:TypeId} {sz off:Nat} {p v:Value} {s y:Operand} (hE:En E sz) (ho:o.op=.store T1 s y) (hg:BK ops env o=some true) (hd:inB n0 o.dst=true)
  (hs:B9 env s=some p) (hy:B9 env y=some v) (hsz:(P.info? T1).map (·.size)=some v.cells.size) (hp:Place A' (ix.toNat * sz+off) p) (hO:AC E T sz h (.slice A' xs.length c) xs) (hx:Bm xs ix=some x) (hx':E x'=(E x).take off++v.cells.toList++(E x).drop (off+v.cells.toList.length))
  (hfit:Nat.ble (off+v.cells.toList.length) sz=true) (hset:I5 xs ix x'=some xs') (hk:∀ h',AC E T sz h' (.slice A' xs'.length c) xs'->K ds A n0 (Bk env o.dst undef) (h' :: l) (wpList P ops Q rest)):K ds A n0 env (h :: l) (wpList P ops Q (o :: rest)):=by
 refine Ec hg λa w ha hw=>?_;obtain ⟨hi0,hi1,hxi⟩:=RI hx;obtain ⟨_,_,rfl⟩:=Aj7 hset;have hfit:off+v.cells.toList.length<=sz:=AY hfit;cases hif:P.info? T1 with
 | none=>rw [hif] at hsz;cases hsz
 | some i =>
  rw [hif] at hsz;have hsize:i.size=v.cells.size:=Ap hsz;rcases hO.2.2 with ⟨he,h0⟩ | ⟨g,cap,cur,he,rfl,h4,h5,h6,h7⟩;omega;cases he;obtain ⟨b,of_,he,rfl⟩:=hp;cases he;have hgc:w.heap[g]? = some (.cells cur T (0,0)):=hw.sat.1 g _ (by simp [blk]);have hk1:ix.toNat < xs.length:=by omega
  have hle:ix.toNat * sz+sz<=xs.length * sz:=by
   have:=Nat.mul_le_mul_right sz (show ix.toNat+1<=xs.length by omega);rw [Nat.add_mul,Nat.one_mul] at this;exact this
  have hcc:xs.length * sz<=cur.size:=by rw [h6];exact Nat.mul_le_mul_right _ h4
  have hone:∀ u ∈ v.cells.toList,u.oneCell'=true:=λu hu=>by
   have:u ∈ E x':=by rw [hx'];simp [hu]
   exact List.all_eq_true.1 (hE.one x') u this
  have hst:=run_storeCells_at P g (ix.toNat * sz+off) T v.cells.toList 0 cur w hgc (by omega) hone;simp only [Nat.add_zero] at hst;have hr:(Instr.storeAt T1 (.pointer (some ⟨g,0+(ix.toNat * sz+off),none⟩)) v).run P w=.ok () (w.setRow g (cur.toList.take (ix.toNat * sz+off)++v.cells.toList++cur.toList.drop (ix.toNat * sz+off+v.cells.toList.length)).toArray):=by
   simp [Instr.storeAt,Instr.sureAddr,storeVar,sizeOf,typeInfo,hif,hsize]
   simpa using hst
  unfold Oper.wp execOp;simp only [ho,ha.eval hs,ha.eval hy,Sem.run_bind,hr,Result.andThen_ok,Sem.run_pure];refine hk _ ?_ _ _ (ha.Bk _ hd) (hw.setRow _);rw [List.length_set];unfold AC;rw [List.length_set];refine ⟨by rw [hE.lens,List.length_set],hE.ones _,.inr ⟨g,c,_,rfl,rfl,h4,h5,?_,?_⟩⟩;simp only [List.size_toArray,Bv,List.length_take,BA,Array.length_toList];rw [Nat.min_eq_left (by omega)];have:v.cells.toList.length=v.cells.size:=Array.length_toList;omega;rw [hE.set x' xs _ hk1];have ha1:=hE.at_ xs ix.toNat x hxi;rw [hx',<- ha1,<- h7];exact B1x cur.toList v.cells.toList _ off sz _ hfit (by omega) (by simpa using hcc)
theorem X4 {S:World->Prop} {tail:Act->World->Prop} {pl:List (Oper×Nat)} {v:Value} (s:List Am) (vs:List Orc) (es:List Ev) (hg:BK ops env o=some true) (hs:(D8 o.op && allB o.op.operands.toList env && inB n0 o.dst)=true) (hf:follow P (execOp (rho env) o) vs=some (.value v,es)) (hS:∀ w,S w->Dh s w) (hl:Jo s es)
  (h:K ds A n0 (Bk env o.dst v) l (BH P ops Q S tail pl)):K ds A n0 env l (BH P ops Q S tail ((o,3) :: pl)):=Bpc vs es hg hs hf (λw hw=>(hS w hw).evs hl) h
variable {S:World->Prop} {tail:Act->World->Prop} {pl:List (Oper×Nat)}
theorem Bo7 {α:Type} {E:α->List Value} {xs:List α} {a:α} {ix:Int} {kd:IntKind} {h:Am} {A':AG} {c:Nat} {T TS:TypeId} {sz:Nat} {x y:Operand} (hE:En E sz) (ho:o.op=.indexAddr TS x y) (hg:BK ops env o=some true) (hd:inB n0 o.dst=true) (hx:B9 env x=some (.slice A' xs.length c)) (hy:B9 env y=some (.int kd ix))
  (h1:P.underlying TS=some (.slice T)) (h2:(P.info? T).map (·.size)=some sz) (hi:Bm xs ix=some a) (hR:Ce E sz h (.slice A' xs.length c) xs) (hk:∀ p,Elem h p (E a)->Place A' (ix.toNat * sz) p->K ds A n0 (Bk env o.dst p) l (BH P ops Q S tail pl)):K ds A n0 env l (BH P ops Q S tail ((o,0) :: pl)):=by
 intro a' w ha hw;obtain ⟨hi0,hi1,hi2⟩:=RI hi;obtain ⟨hl,_,hc⟩:=hR;cases hif:P.info? T with
 | none=>rw [hif] at h2;cases h2
 | some i =>
  rw [hif] at h2;have hsz:i.size=sz:=Ap h2;rcases hc with ⟨_,h0⟩ | ⟨b,off,cap,cur,T',z,he,hb,_,_,hc⟩;omega;cases he;refine DJ (v:=.pointer (some ⟨b,off+ix.toNat * sz,none⟩)) (F_ ha hg) (λw'=>?_) (hk _ ⟨b,off+ix.toNat * sz,cur,T',z,rfl,hb,λj u hj=>?_⟩ ⟨b,off,rfl,rfl⟩ _ _ (ha.Bk _ hd) hw);have hr:(Instr.indexAt TS (.slice (some ⟨b,off,none⟩) xs.length c) (.int kd ix)).run P w'=.ok (.pointer (some ⟨b,off+ix.toNat * sz,none⟩)) w':=by
   simp [Instr.indexAt,run_underlying h1,asIntOf,hi0,hi1,sizeOf,typeInfo,hif,hsz,addr_add]
  unfold execOp;simp only [ho,ha.eval hx,ha.eval hy,Sem.run_bind,hr,Result.andThen_ok,Sem.run_pure];rw [<- hE.at_ xs ix.toNat a hi2,List.getElem?_take] at hj;split at hj;rw [List.getElem?_drop] at hj;rw [Nat.add_assoc];exact hc _ u hj;cases hj
theorem Bo6 {h:Am} {p:Value} {us:List Value} {T:TypeId} {k off k0:Nat} {A':Option Addr} {x:Operand} (ho:o.op=.fieldAddr T x k) (hg:BK ops env o=some true) (hd:inB n0 o.dst=true) (hx:B9 env x=some p)
  (hT:(match P.underlying T with | some (.struct fs)=>(match fs[k]? with | some f=>(match (P.info? f.type).map (·.size) with | some (s+1)=>some f.offset | _=>none) | none=>none) | _=>none)=some off) (hE:Elem h p us) (hp:Place A' k0 p) (hk:∀ p',Elem h p' (us.drop off)->Place A' (k0+off) p'->K ds A n0 (Bk env o.dst p') l (BH P ops Q S tail pl)):K ds A n0 env l (BH P ops Q S tail ((o,0) :: pl)):=by
 intro a w ha hw;obtain ⟨b1,Lm,rfl,rfl⟩:=hp;obtain ⟨b,of_,cur,T',z,he,hb,hc⟩:=hE;cases he;split at hT;rename_i fs hfs;split at hT;rename_i f hf;split at hT;rename_i s hs;cases hT;cases hif:P.info? f.type with
 | none=>rw [hif] at hs;cases hs
 | some i =>
  rw [hif] at hs;have hsz:i.size=s+1:=Ap hs;refine DJ (v:=.pointer (some ⟨b1,Lm+k0+f.offset,none⟩)) (F_ ha hg) (λw'=>?_) (hk _ ⟨b1,Lm+k0+f.offset,cur,T',z,rfl,hb,λj u hj=>?_⟩ ⟨b1,Lm,rfl,by rw [Nat.add_assoc]⟩ _ _ (ha.Bk _ hd) hw);have hr:(Instr.fieldAt T (.pointer (some ⟨b1,Lm+k0,none⟩)) k).run P w'=.ok (.pointer (some ⟨b1,Lm+k0+f.offset,none⟩)) w':=by
   simp [Instr.fieldAt,run_underlying hfs,hf,Instr.sureAddr,fieldPlace,sizeOf,typeInfo,hif,hsz,addr_add]
  unfold execOp;simp only [ho,ha.eval hx,Sem.run_bind,hr,Result.andThen_ok,Sem.run_pure];rw [List.getElem?_drop] at hj;rw [Nat.add_assoc];exact hc _ u hj
 cases hT;cases hT;cases hT
theorem Elem.cellS {h:Am} {p:Value} {us:List Value} (he:Elem h p us) {w:World} (hw:h.On w):∃ a,p=.pointer (some a)/\∀ j u,us[j]? = some u->w.cell? (a.add j)=some u:=by
 obtain ⟨b,off,cur,T,z,rfl,hb,hc⟩:=he;refine ⟨_,rfl,λj u hj=>?_⟩;rw [addr_add];have:=hw b _ hb;simp [World.cell?,this,hc j u hj]
theorem R2 {h:Am} {p u:Value} {us:List Value} {T:TypeId} {x:Operand} (ho:o.op=.load T x) (hg:BK ops env o=some true) (hd:inB n0 o.dst=true) (hx:B9 env x=some p) (hT:(match P.underlying T with | some (.struct _)=>true | some (.array _ _)=>true | some _=>false | none=>true)=false) (hE:Elem h p (u :: us)) (hm:∀ w,S w->h.On w)
  (hk:K ds A n0 (Bk env o.dst u) l (BH P ops Q S tail pl)):K ds A n0 env l (BH P ops Q S tail ((o,3) :: pl)):=by
 intro a w ha hw;refine FA (v:=u) (F_ ha hg) (λw' hw'=>?_) (hk _ _ (ha.Bk _ hd) hw);obtain ⟨ad,rfl,hc⟩:=hE.cellS (hm w' hw');have h0:=hc 0 u rfl;rw [show ad.add 0=ad from rfl] at h0;have hr:(Instr.loadAt T (.pointer (some ad))).run P w'=.ok u w':=by
  simp [Instr.loadAt,Instr.sureAddr,loadVar,Aps w' hT,load,Sem.run,h0]
 unfold execOp;simp only [ho,ha.eval hx,Sem.run_bind,hr,Result.andThen_ok,Sem.run_pure]
theorem Bpa {h:Am} {p:Value} {us:List Value} {T:TypeId} {x:Operand} (ho:o.op=.load T x) (hg:BK ops env o=some true) (hd:inB n0 o.dst=true) (hx:B9 env x=some p) (hT:(match P.underlying T with | some (.struct _)=>true | some (.array _ _)=>true | _=>false)=true) (hs:(P.info? T).map (·.size)=some us.length) (hE:Elem h p us) (hm:∀ w,S w->h.On w)
  (hk:K ds A n0 (Bk env o.dst (.agg us.toArray)) l (BH P ops Q S tail pl)):K ds A n0 env l (BH P ops Q S tail ((o,3) :: pl)):=by
 intro a w ha hw;refine FA (v:=.agg us.toArray) (F_ ha hg) (λw' hw'=>?_) (hk _ _ (ha.Bk _ hd) hw);obtain ⟨ad,rfl,hc⟩:=hE.cellS (hm w' hw');cases hif:P.info? T with
 | none=>rw [hif] at hs;cases hs
 | some i =>
  rw [hif] at hs;have hsz:i.size=us.length:=Ap hs;have hr:(Instr.loadAt T (.pointer (some ad))).run P w'=.ok (.agg us.toArray) w':=by
   simp [Instr.loadAt,Instr.sureAddr,loadVar,Apk w' hT,sizeOf,typeInfo,hif,hsz,run_loadCells_list w' ad us hc]
  unfold execOp;simp only [ho,ha.eval hx,Sem.run_bind,hr,Result.andThen_ok,Sem.run_pure]
end
def eqF (P:Program) (xs ys:Array Value):List Field->Option Bool
 | []=>some true
 | f :: fs =>
  match f.name == "_",P.underlying f.type,xs[f.offset]?,ys[f.offset]? with
  | false,some (.int _),some (.int k a),some (.int k' b)=>(match decide (k=k') with | true=>(eqF P xs ys fs).map λr=>(a == b) && r | false=>none)
  | false,some .string,some (.string a),some (.string b)=>(eqF P xs ys fs).map λr=>(a.toList == b.toList) && r
  | false,some .bool,some (.bool a),some (.bool b)=>(eqF P xs ys fs).map λr=>(a == b) && r
  | _,_,_,_=>none
theorem PN {P:Program} {t:TypeId} (w:World) {cs:Array Value} {off:Nat} {v:Value} (ht:∀ fs,P.underlying t≠some (.struct fs)) (ha:∀ n e,P.underlying t≠some (.array n e)) (hd:(P.underlying t).isSome=true) (h:cs[off]? = some v):(part t cs off).run P w=.ok v w:=by
 unfold part isAgg;cases hq:P.underlying t with
 | none=>rw [hq] at hd;cases hd
 | some d =>
  cases d <;> first | exact absurd hq (ht _) | exact absurd hq (ha _ _) | simp [run_underlying hq,h]
theorem T7 {P:Program} {xs ys:Array Value} (d:Nat) (w:World):∀ (fs:List Field) (r:Bool),eqF P xs ys fs=some r->(Op.eqFields (d+1) xs ys fs).run P w=.ok r w
 | [],r,h=>by simp only [eqF,Option.some.injEq] at h;subst h;rfl
 | f :: fs,r,h=>by
  simp only [eqF] at h;split at h;rename_i k0 k a k' b hn hu hx hy;split at h;rename_i hk;have hk:=of_decide_eq_true hk;subst hk;obtain ⟨r',hr',rfl⟩:=Option.map_eq_some_iff.1 h;have hn:f.name≠ "_" :=by simpa using hn
  have h1:=PN (P:=P) (t:=f.type) w (by intro fs e;rw [hu] at e;cases e) (by intro n e' e;rw [hu] at e;cases e) (by rw [hu];rfl) hx;have h2:=PN (P:=P) (t:=f.type) w (by intro fs e;rw [hu] at e;cases e) (by intro n e' e;rw [hu] at e;cases e) (by rw [hu];rfl) hy;have h3:=run_equalIn_int (P:=P) w d f.type k k0 a b hu;have ih:=T7 d w fs r' hr';simp only [Op.eqFields,if_pos hn,Sem.run_bind,h1,h2,h3,Result.andThen_ok];cases hab:(a == b) with
  | true=>simp only [Bool.not_true,Bool.false_eq_true,if_false,Bool.true_and];exact ih
  | false=>simp only [Bool.not_false,if_true,Bool.false_and,Sem.run_pure]
  cases h;rename_i a b hn hu hx hy;obtain ⟨r',hr',rfl⟩:=Option.map_eq_some_iff.1 h;have hn:f.name≠ "_" :=by simpa using hn
  have h1:=PN (P:=P) (t:=f.type) w (by intro fs e;rw [hu] at e;cases e) (by intro n e' e;rw [hu] at e;cases e) (by rw [hu];rfl) hx;have h2:=PN (P:=P) (t:=f.type) w (by intro fs e;rw [hu] at e;cases e) (by intro n e' e;rw [hu] at e;cases e) (by rw [hu];rfl) hy;have h3:=run_equalIn_string (P:=P) w d f.type a b hu;have ih:=T7 d w fs r' hr';simp only [Op.eqFields,if_pos hn,Sem.run_bind,h1,h2,h3,Result.andThen_ok];cases hab:(a.toList == b.toList) with
  | true=>simp only [Bool.not_true,Bool.false_eq_true,if_false,Bool.true_and];exact ih
  | false=>simp only [Bool.not_false,if_true,Bool.false_and,Sem.run_pure]
  rename_i a b hn hu hx hy;obtain ⟨r',hr',rfl⟩:=Option.map_eq_some_iff.1 h;have hn:f.name≠ "_" :=by simpa using hn
  have h1:=PN (P:=P) (t:=f.type) w (by intro fs e;rw [hu] at e;cases e) (by intro n e' e;rw [hu] at e;cases e) (by rw [hu];rfl) hx;have h2:=PN (P:=P) (t:=f.type) w (by intro fs e;rw [hu] at e;cases e) (by intro n e' e;rw [hu] at e;cases e) (by rw [hu];rfl) hy;have h3:=run_equalIn_bool' (P:=P) w d f.type a b hu;have ih:=T7 d w fs r' hr';simp only [Op.eqFields,if_pos hn,Sem.run_bind,h1,h2,h3,Result.andThen_ok];cases hab:(a == b) with
  | true=>simp only [Bool.not_true,Bool.false_eq_true,if_false,Bool.true_and];exact ih
  | false=>simp only [Bool.not_false,if_true,Bool.false_and,Sem.run_pure]
  cases h
def T9 (P:Program) (t:TypeId):Option (List Field) :=
 match P.underlying t with
 | some (.struct fs)=>some fs.toList
 | _=>none
section
variable {A:World} {ds:List Deferred} {n:Nat} {env env':Env} {l l' X:List Am} {q:Act->World->Prop} {P:Program} {Q:Exit->Act->World->Prop} {ops:Array Oper} {os rest:List Oper} {o:Oper}
theorem Apr {t:TypeId} {xs ys:Array Value} {r:Bool} {x y:Operand} {ty:TypeId} (hf:((T9 P t).bind (eqF P xs ys))=some r) (hp:P.stoodInHeld t=false) (hm:P.eqGuardType P.depth t=false) (w:World) :
  (Op.equal t (.agg xs) (.agg ys)).run P w=.ok r w:=by
 unfold T9 at hf;cases hu:P.underlying t with
 | none=>rw [hu] at hf;cases hf
 | some d =>
  rw [hu] at hf;cases d with
  | struct fs =>
   have hfs:P.fieldsOf t=fs:=by unfold Program.fieldsOf;rw [hu]
   have:=run_equalIn_struct (P:=P) w 9999 t xs ys (by rw [hfs];exact hu) hp;rw [hfs] at this;show (Op.equalIn 10000 t _ _).run P w=_;rw [this];exact T7 9998 w fs.toList r hf
  | _=>cases hf
theorem Boo {bo:BinOp} {t t2:TypeId} {xs ys:Array Value} {r:Bool} {x y:Operand} (neg:Bool) (hb:(match bo,neg with | .eql,false=>true | .neq,true=>true | _,_=>false)=true) (ho:o.op=.binOp bo t x y t2) (hg:BK ops env o=some true) (hd:inB n o.dst=true) (hx:B9 env x=some (.agg xs)) (hy:B9 env y=some (.agg ys))
  (hp:P.stoodInHeld t=false) (hm:P.eqGuardType P.depth t=false) (hf:((T9 P t).bind (eqF P xs ys))=some r) (h:K ds A n (Bk env o.dst (.bool (cond neg (!r) r))) l (wpList P ops Q rest)):K ds A n env l (wpList P ops Q (o :: rest)) :=
 Ec hg λa w ha hw=>by
  have h1:=Apr (P:=P) (ty:=0) (x:=x) (y:=y) hf hp hm w;have h2:∀ bo,(eqGuard bo t x y (.agg xs) (.agg ys)).run P w=.ok () w:=λbo=>run_eqGuard_agg w bo t x y xs ys hm;unfold Oper.wp execOp;simp only [ho,ha.eval hx,ha.eval hy,Sem.run_bind,h2,Result.andThen_ok];split at hb;simp only [binOp,Sem.run_bind,h1,Result.andThen_ok,Sem.run_pure];exact h _ _ (ha.Bk _ hd) hw;simp only [binOp,Sem.run_bind,h1,Result.andThen_ok,Sem.run_pure];exact h _ _ (ha.Bk _ hd) hw;cases hb
def GJ (a b:Ah):Option Ah:=cond (decide (a.size+b.size<=9223372036854775807)) (some (a++b)) none
theorem R1 {a b r:Ah} {t t2:TypeId} {x y:Operand} (ho:o.op=.binOp .add t x y t2) (hg:BK ops env o=some true) (hd:inB n o.dst=true) (hx:B9 env x=some (.string a)) (hy:B9 env y=some (.string b)) (hc:GJ a b=some r)
  (h:K ds A n (Bk env o.dst (.string r)) l (wpList P ops Q rest)):K ds A n env l (wpList P ops Q (o :: rest)) :=
 Ec hg λac w ha hw=>by
  obtain ⟨h1,h2⟩:=I0 hc;cases h2;have h1:=of_decide_eq_true h1;have h3:¬ (((a.size+b.size:Nat):Int) > IntKind.i64.max):=by
   have:IntKind.i64.max=9223372036854775807:=by decide
   omega
  unfold Oper.wp execOp;simp only [ho,ha.eval hx,ha.eval hy,Sem.run_bind,eqGuard];simp only [binOp,Op.stringOp,if_neg h3];exact h _ _ (ha.Bk _ hd) hw
end
def Am.or (f g:Am):Am:=λk=>match f k with | some o=>some o | none=>g k
theorem Am.or_none (f:Am):f.or none_=f:=by
 funext k
 unfold Am.or none_;cases f k <;> rfl
theorem Am.or_assoc (f g h:Am):(f.or g).or h=f.or (g.or h):=by
 funext k
 unfold Am.or;cases f k <;> rfl
theorem Am.Uu {f g:Am} {k:Nat} {o:Obj} (h:f k=some o):(f.or g) k=some o:=by simp [Am.or,h]
theorem Am.Uv {f g:Am} (ha:f.Apart g) {k:Nat} {o:Obj} (h:g k=some o):(f.or g) k=some o:=by
 rcases ha k with h' | h';simp [Am.or,h',h];rw [h'] at h;cases h
theorem Am.or_some {f g:Am} {k:Nat} {o:Obj} (h:(f.or g) k=some o):f k=some o\/g k=some o:=by
 unfold Am.or at h;split at h;rename_i o' ho;cases h;exact .inl ho;exact .inr h
theorem Am.Apart.Ok {f g h:Am} (h1:f.Apart h) (h2:g.Apart h):(f.or g).Apart h:=λk=>by
 rcases h1 k with e | e;rcases h2 k with e' | e';exact .inl (by simp [Am.or,e,e']);exact .inr e';exact .inr e
theorem Am.Apart.Ll {f g h:Am} (hfg:f.Apart g) (h1:(f.or g).Apart h):f.Apart h/\g.Apart h:=by
 refine ⟨λk=>?_,λk=>?_⟩;rcases h1 k with e | e;left;cases hf:f k with
 | none=>rfl
 | some o=>rw [Am.Uu hf] at e;cases e
 exact .inr e;rcases h1 k with e | e;left;cases hg:g k with
 | none=>rfl
 | some o=>rw [Am.Uv hfg hg] at e;cases e
 exact .inr e
theorem Am.Bqi (f:Am):none_.Apart f:=λ_=>.inl rfl
theorem Am.Axt (f:Am):f.Apart none_:=λ_=>.inr rfl
def Am.In (f g:Am):Prop:=∀ k o,f k=some o->g k=some o
theorem Am.In.refl (f:Am):f.In f:=λ_ _ h=>h
theorem Am.In.trans {f g h:Am} (h1:f.In g) (h2:g.In h):f.In h:=λk o e=>h2 k o (h1 k o e)
theorem Am.TV (f g:Am):f.In (f.or g):=λ_ _ h=>Am.Uu h
theorem Am.Rs {f g:Am} (h:f.Apart g):g.In (f.or g):=λ_ _ e=>Am.Uv h e
theorem Sat.Ali {f g:Am} {l:List Am} {w:World} (ha:f.Apart g):Sat (f.or g :: l) w ↔ Sat (f :: g :: l) w:=by
 constructor;rintro ⟨h1,h2,h3⟩;refine ⟨λk o e=>h1 k o (Am.Uu e),λx hx=>?_,λk o e=>h1 k o (Am.Uv ha e),λx hx=>(Am.Apart.Ll ha (h2 x hx)).2,h3⟩;rcases List.mem_cons.1 hx with rfl | hx;exact ha;exact (Am.Apart.Ll ha (h2 x hx)).1;rintro ⟨h1,h2,h3,h4,h5⟩;refine ⟨λk o e=>(Am.or_some e).elim (h1 k o) (h3 k o),λx hx=>(h2 x (DF _ hx)).Ok (h4 x hx),h5⟩
theorem St.join {A w:World} {f g:Am} {l:List Am} (h:St A (f :: g :: l) w):f.Apart g/\St A (f.or g :: l) w:=by
 have ha:=h.sat.2.1 g (Db ..);exact ⟨ha,(Sat.Ali ha).2 h.sat,h.os,h.tape,h.output,h.size⟩
theorem St.split {A w:World} {f g:Am} {l:List Am} (ha:f.Apart g) (h:St A (f.or g :: l) w):St A (f :: g :: l) w:=⟨(Sat.Ali ha).1 h.sat,h.os,h.tape,h.output,h.size⟩
structure KW (α:Type) where
 sz:Nat
 own:α->Am->List Value->Prop
 rd:α->Am->List Value->Prop
 len:∀ {x H cs},own x H cs->cs.length=sz/\∀ u ∈ cs,u.oneCell'=true
 lenr:∀ {x H cs},rd x H cs->cs.length=sz/\∀ u ∈ cs,u.oneCell'=true
 UK:∀ {x H H' cs},own x H cs->H.In H'->rd x H' cs
section
variable {α:Type} (R:KW α)
def B2:List α->Am->List Value->Prop
 | [],_,cs=>cs=[]
 | x :: l,H,cs=>∃ H1 H2 c1 c2,H=H1.or H2/\H1.Apart H2/\cs=c1++c2/\R.own x H1 c1/\B2 l H2 c2
def Ge:List α->Am->List Value->Prop
 | [],_,cs=>cs=[]
 | x :: l,H,cs=>∃ c1 c2,cs=c1++c2/\R.rd x H c1/\Ge l H c2
variable {R}
theorem B2.UK:∀ {l:List α} {H H':Am} {cs:List Value},B2 R l H cs->H.In H'->Ge R l H' cs
 | [],_,_,_,h,_=>h
 | x :: l,_,H',_,⟨H1,H2,c1,c2,rfl,ha,rfl,h1,h2⟩,hi=>⟨c1,c2,rfl,R.UK h1 ((Am.TV H1 H2).trans hi),h2.UK ((Am.Rs ha).trans hi)⟩
theorem B2.len:∀ {l:List α} {H:Am} {cs:List Value},B2 R l H cs->cs.length=l.length * R.sz/\∀ u ∈ cs,u.oneCell'=true
 | [],_,_,h=>by cases h;simp
 | x :: l,_,_,⟨H1,H2,c1,c2,_,_,rfl,h1,h2⟩=>by
  obtain ⟨e1,e2⟩:=R.len h1;obtain ⟨e3,e4⟩:=h2.len;refine ⟨by rw [Bv,e1,e3,AH,Nat.add_mul,Nat.one_mul,Nat.add_comm],λu hu=>(GO.1 hu).elim (e2 u) (e4 u)⟩
theorem Ge.len:∀ {l:List α} {H:Am} {cs:List Value},Ge R l H cs->cs.length=l.length * R.sz/\∀ u ∈ cs,u.oneCell'=true
 | [],_,_,h=>by cases h;simp
 | x :: l,_,_,⟨c1,c2,rfl,h1,h2⟩=>by
  obtain ⟨e1,e2⟩:=R.lenr h1;obtain ⟨e3,e4⟩:=h2.len;refine ⟨by rw [Bv,e1,e3,AH,Nat.add_mul,Nat.one_mul,Nat.add_comm],λu hu=>(GO.1 hu).elim (e2 u) (e4 u)⟩
theorem B2.one {x:α} {H:Am} {cs:List Value} (h:R.own x H cs):B2 R [x] H cs:=⟨H,none_,cs,[],(Am.or_none H).symm,Am.Axt H,(List.append_nil _).symm,h,rfl⟩
theorem B2.cons {x:α} {l:List α} {H1 H2:Am} {c1 c2:List Value} (h:R.own x H1 c1) (ha:H1.Apart H2) (hr:B2 R l H2 c2):B2 R (x :: l) (H1.or H2) (c1++c2):=⟨H1,H2,c1,c2,rfl,ha,rfl,h,hr⟩
theorem B2.append:∀ {l m:List α} {H1 H2:Am} {c1 c2:List Value},B2 R l H1 c1->B2 R m H2 c2->H1.Apart H2->∃ H,B2 R (l++m) H (c1++c2)/\∀ f,(H1.or H2).Apart f->H.Apart f/\H.In (H1.or H2)
 | [],m,H1,H2,c1,c2,h1,h2,ha=>by cases h1;exact ⟨H2,h2,λf hf=>⟨(Am.Apart.Ll ha hf).2,Am.Rs ha⟩⟩
 | x :: l,m,_,H2,_,c2,⟨K1,K2,d1,d2,rfl,hk,rfl,g1,g2⟩,h2,ha=>by
  obtain ⟨a1,a2⟩:=Am.Apart.Ll hk ha;obtain ⟨H,hH,hf⟩:=B2.append g2 h2 a2;have hka:=hf K1 ((hk.symm).Ok a1.symm);refine ⟨K1.or H,⟨K1,H,d1,d2++c2,rfl,hka.1.symm,by rw [Bx],g1,hH⟩,λf hff=>?_⟩;rw [Am.or_assoc] at hff ⊢;have hk2:K1.Apart (K2.or H2):=((hk.symm).Ok a1.symm).symm;obtain ⟨b1,b2⟩:=Am.Apart.Ll hk2 hff;refine ⟨b1.Ok (hf f b2).1,λk o e=>?_⟩;rcases Am.or_some e with e | e;exact Am.Uu e;exact Am.Uv hk2 ((hf f b2).2 k o e)
theorem B2.append' {l m:List α} {H1 H2:Am} {c1 c2:List Value} (h1:B2 R l H1 c1) (h2:B2 R m H2 c2) (ha:H1.Apart H2):B2 R (l++m) (H1.or H2) (c1++c2):=by
 induction l generalizing H1 c1 with
 | nil =>
  cases h1;cases m with
  | nil=>exact h2
  | cons y m =>
   obtain ⟨K1,K2,d1,d2,rfl,hk,rfl,g1,g2⟩:=h2
   -- nothing is asked of H1: it goes with the last of the elements
   refine ⟨K1,H1.or K2,d1,d2,?_,?_,rfl,g1,?_⟩;obtain ⟨b1,b2⟩:=Am.Apart.Ll hk ha.symm
   funext k
   rcases b1 k with e | e;simp [Am.or,e];cases h:K1 k <;> simp [Am.or,e,h];obtain ⟨b1,b2⟩:=Am.Apart.Ll hk ha.symm;exact ((b1.symm).Ok hk.symm).symm;have:∀ {l:List α} {H H1:Am} {c:List Value},B2 R l H c->H1.Apart H->B2 R l (H1.or H) c:=by
    intro l;induction l with
    | nil=>intro H H1 c h _;exact h
    | cons z l ih =>
     intro H H1 c h hap;obtain ⟨L1,L2,e1,e2,rfl,hl,rfl,f1,f2⟩:=h;obtain ⟨b1,b2⟩:=Am.Apart.Ll hl hap.symm;refine ⟨L1,H1.or L2,e1,e2,?_,((b1.symm).Ok hl.symm).symm,rfl,f1,ih f2 b2.symm⟩
     funext k
     rcases b1 k with e | e;simp [Am.or,e];cases h:L1 k <;> simp [Am.or,e,h]
   exact this g2 (Am.Apart.Ll hk ha.symm).2.symm
 | cons x l ih =>
  obtain ⟨K1,K2,d1,d2,rfl,hk,rfl,g1,g2⟩:=h1;obtain ⟨a1,a2⟩:=Am.Apart.Ll hk ha;exact ⟨K1,K2.or H2,d1,d2++c2,Am.or_assoc ..,((hk.symm).Ok a1.symm).symm,by rw [Bx],g1,ih g2 a2⟩
theorem Ge.at_:∀ {l:List α} {H:Am} {cs:List Value},Ge R l H cs->∀ (k:Nat) (x:α),l[k]? = some x->R.rd x H ((cs.drop (k * R.sz)).take R.sz)
 | y :: l,H,_,⟨c1,c2,rfl,h1,h2⟩,0,x,hx=>by
  simp only [List.getElem?_cons_zero,Option.some.injEq] at hx;subst hx;rw [Nat.zero_mul,List.drop_zero,<- (R.lenr h1).1,List.take_left];exact h1
 | y :: l,H,_,⟨c1,c2,rfl,h1,h2⟩,k+1,x,hx=>by
  rw [List.getElem?_cons_succ] at hx;rw [Nat.add_mul,Nat.one_mul,Nat.add_comm,<- List.drop_drop,show (c1++c2).drop R.sz=c2 by rw [<- (R.lenr h1).1,List.drop_left]];exact h2.at_ k x hx
theorem Ge.drop:∀ {l:List α} {H:Am} {cs:List Value} (k:Nat),Ge R l H cs->Ge R (l.drop k) H (cs.drop (k * R.sz))
 | l,H,cs,0,h=>by simpa using h
 | [],H,cs,k+1,h=>by cases h;simp [Ge]
 | y :: l,H,_,k+1,⟨c1,c2,rfl,h1,h2⟩=>by
  rw [List.drop_succ_cons,Nat.add_mul,Nat.one_mul,Nat.add_comm,<- List.drop_drop,show (c1++c2).drop R.sz=c2 by rw [<- (R.lenr h1).1,List.drop_left]];exact h2.drop k
theorem Ge.take:∀ {l:List α} {H:Am} {cs:List Value} (k:Nat),Ge R l H cs->Ge R (l.take k) H (cs.take (k * R.sz))
 | l,H,cs,0,h=>by simp [Ge]
 | [],H,cs,k+1,h=>by cases h;simp [Ge]
 | y :: l,H,_,k+1,⟨c1,c2,rfl,h1,h2⟩=>by
  rw [List.take_succ_cons,Nat.add_mul,Nat.one_mul,Nat.add_comm,<- (R.lenr h1).1,List.take_length_add_append,(R.lenr h1).1];exact ⟨c1,_,rfl,h1,h2.take k⟩
variable (R)
def Bi (T:TypeId) (h:Am) (v:Value) (l:List α):Prop:=∃ Ho Hi cs,h=Ho.or Hi/\Ho.Apart Hi/\Own T R.sz Ho v l.length cs/\B2 R l Hi cs
def RdR (h:Am) (v:Value) (l:List α):Prop:=∃ cs,Rd R.sz h v l.length cs/\Ge R l h cs
variable {R}
theorem Rd.mono {sz:Nat} {h h':Am} {v:Value} {n:Nat} {cs:List Value} (hr:Rd sz h v n cs) (hi:h.In h'):Rd sz h' v n cs:=by
 obtain ⟨h1,h2,h3⟩:=hr;refine ⟨h1,h2,?_⟩;rcases h3 with h3 | ⟨b,off,cap,cur,T,z,h4,h5,h6⟩;exact .inl h3;exact .inr ⟨b,off,cap,cur,T,z,h4,hi _ _ h5,h6⟩
theorem Bi.Bzu {T:TypeId} {h h':Am} {v:Value} {l:List α} (ho:Bi R T h v l) (hi:h.In h'):RdR R h' v l:=by
 obtain ⟨Ho,Hi,cs,rfl,ha,h1,h2⟩:=ho;exact ⟨cs,h1.rd.mono ((Am.TV Ho Hi).trans hi),h2.UK ((Am.Rs ha).trans hi)⟩
theorem Bi.rd {T:TypeId} {h:Am} {v:Value} {l:List α} (ho:Bi R T h v l):RdR R h v l:=ho.Bzu (.refl _)
theorem Bi.nil (R:KW α) (T:TypeId) (h:Am):Bi R T h (.slice none 0 0) []:=⟨none_,h,[],rfl,Am.Bqi h,Own.nil T R.sz none_,rfl⟩
theorem RdR.nil (R:KW α) (h:Am):RdR R h (.slice none 0 0) []:=(Bi.nil R 0 h).rd
theorem Bi.val {T:TypeId} {h:Am} {v:Value} {l:List α} (ho:Bi R T h v l):∃ a c,v=.slice a l.length c:=by
 obtain ⟨_,_,_,_,_,h1,_⟩:=ho;exact h1.val
theorem RdR.val {h:Am} {v:Value} {l:List α} (ho:RdR R h v l):∃ a c,v=.slice a l.length c:=by
 obtain ⟨_,h1,_⟩:=ho;exact h1.val
end
section
variable {A:World} {ds:List Deferred} {n0:Nat} {env env':Env} {l l' X:List Am} {q:Act->World->Prop} {P:Program} {Q:Exit->Act->World->Prop} {ops:Array Oper} {os rest:List Oper} {o:Oper} {α:Type} {R:KW α}
theorem Ko {f g:Am} (h:f.Apart g->K ds A n0 env (f.or g :: l) q):K ds A n0 env (f :: g :: l) q:=λa w ha hw=>h hw.join.1 a w ha hw.join.2
theorem Aig {f g:Am} (ha':f.Apart g) (h:K ds A n0 env (f :: g :: l) q):K ds A n0 env (f.or g :: l) q:=λa w ha hw=>h a w ha (hw.split ha')
theorem BZ {b n:Nat} {T:TypeId} {cs:List Value} {ca:Array Value} {H:Am} {xs:List α} (hr:B2 R xs H cs) (hc:cs.toArray=ca) (hn:xs.length=n) (hm:n<=maxLen) (hk:∀ h,Bi R T h (.slice (some ⟨b,0,none⟩) n n) xs->K ds A n0 env (h :: l) q) :
  K ds A n0 env (blk b (.cells ca T (0,0)) :: H :: l) q:=by
 subst hc hn;refine Ko λha=>hk _ ⟨_,H,cs,rfl,ha,Own.blk T R.sz b _ cs hr.len.1 (List.all_eq_true.2 hr.len.2) hm,hr⟩
theorem Bn7 {T TS U:TypeId} {sz bytes:Nat} {i:TypeInfo} {z:Value} {h hy:Am} {v y:Value} {xs ys xs':List α} {s x:Operand} (ho:o.op=.call { callee:=.builtin .append,args:=#[s,x],argTypes:=#[TS,U] })
  (he:G0 P TS T sz bytes i z) (hsz:sz=R.sz) (hg:BK ops env o=some true) (hd:inB n0 o.dst=true) (hs:B9 env s=some v) (hx:B9 env x=some y) (hu:I_ P U=true) (hap:apd bytes xs ys=some xs') (hO:Bi R T h v xs) (hY:Bi R T hy y ys)
  (hk:∀ h' a' c',Bi R T h' (.slice a' xs'.length c') xs'->K ds A n0 (Bk env o.dst (.slice a' xs'.length c')) (h' :: l) (wpList P ops Q rest)):K ds A n0 env (h :: hy :: l) (wpList P ops Q (o :: rest)):=by
 subst hsz;obtain ⟨hb,rfl⟩:=To hap;obtain ⟨Ho,Hi,cs,rfl,ha,h1,h2⟩:=hO;obtain ⟨Yo,Yi,ds,rfl,hya,h3,h4⟩:=hY;refine Aig ha ?_;refine Aq (Aig hya ?_)
 -- Yo :: Yi :: Ho :: Hi :: l
 refine K.perm (l':=Ho :: Yo :: Hi :: Yi :: l) ?_ ?_
 ·refine Aio ho he hg hd hs hx hu h1 (λw hw=>Rd.src h3.rd hw (.tail _ (.head _))) h4.len.1 h4.len.2 hb λh' v' hO'=>?_
  refine Ak (Ao ?_);refine Aq (Aq (Ko λha2=>Ak (Ko λha3=>?_)));have hN:Bi R T (h'.or (Hi.or Yi)) v' (xs++ys):=⟨h',_,cs++ds,rfl,ha3,by rw [Bv];exact hO',h2.append' h4 ha2⟩;obtain ⟨a',c',rfl⟩:=hN.val;exact hk _ a' c' hN
 ·have p1:(Yo :: Yi :: Ho :: Hi :: l).Perm (Ho :: Yo :: Yi :: Hi :: l):=((List.Perm.swap Ho Yi (Hi :: l)).cons Yo).trans (List.Perm.swap Ho Yo (Yi :: Hi :: l))
  exact p1.trans (((List.Perm.swap Hi Yi l).cons Yo).cons Ho)
theorem Bol {xs:List α} {a:α} {ix:Int} {kd:IntKind} {h:Am} {A':AG} {c:Nat} {T TS:TypeId} {x y:Operand} (ho:o.op=.indexAddr TS x y) (hg:BK ops env o=some true) (hd:inB n0 o.dst=true) (hx:B9 env x=some (.slice A' xs.length c)) (hy:B9 env y=some (.int kd ix))
  (h1:P.underlying TS=some (.slice T)) (h2:(P.info? T).map (·.size)=some R.sz) (hi:Bm xs ix=some a) (hR:RdR R h (.slice A' xs.length c) xs) (hk:∀ p us,R.rd a h us->Elem h p us->Place A' (ix.toNat * R.sz) p->K ds A n0 (Bk env o.dst p) l (wpList P ops Q rest)):K ds A n0 env l (wpList P ops Q (o :: rest)):=by
 refine Ec hg λa' w ha hw=>?_;obtain ⟨hi0,hi1,hi2⟩:=RI hi;obtain ⟨cs,⟨hl,_,hc⟩,hrow⟩:=hR;cases hif:P.info? T with
 | none=>rw [hif] at h2;cases h2
 | some i =>
  rw [hif] at h2;have hsz:i.size=R.sz:=Ap h2;rcases hc with ⟨_,h0⟩ | ⟨b,off,cap,cur,T',z,he,hb,_,_,hc⟩;omega;cases he;have hr:(Instr.indexAt TS (.slice (some ⟨b,off,none⟩) xs.length c) (.int kd ix)).run P w=.ok (.pointer (some ⟨b,off+ix.toNat * R.sz,none⟩)) w:=by
   simp [Instr.indexAt,run_underlying h1,asIntOf,hi0,hi1,sizeOf,typeInfo,hif,hsz,addr_add]
  unfold Oper.wp execOp;simp only [ho,ha.eval hx,ha.eval hy,Sem.run_bind,hr,Result.andThen_ok,Sem.run_pure];refine hk _ _ (hrow.at_ ix.toNat a hi2) ⟨b,off+ix.toNat * R.sz,cur,T',z,rfl,hb,λj u hj=>?_⟩ ⟨b,off,rfl,rfl⟩ _ _ (ha.Bk _ hd) hw;rw [List.getElem?_take] at hj;split at hj;rw [List.getElem?_drop] at hj;rw [Nat.add_assoc];exact hc _ u hj;cases hj
end
inductive Tree where
 | mk (kind:Int) (text:Ah) (n at_:Int) (kids:List Tree)
def Tree.kind:Tree->Int | .mk k _ _ _ _=>k
def Tree.text:Tree->Ah | .mk _ t _ _ _=>t
def Tree.n:Tree->Int | .mk _ _ n _ _=>n
def Tree.at_:Tree->Int | .mk _ _ _ a _=>a
def Tree.kids:Tree->List Tree | .mk _ _ _ _ l=>l
section
variable (T:TypeId)
mutual
def MT:Tree->Am->List Value->Prop
 | .mk k t n a l,H,cs=>∃ A c,cs=[.int .i64 k,.string t,.int .i64 n,.int .i64 a,.slice A l.length c]/\∃ Ho Hi ds,H=Ho.or Hi/\Ho.Apart Hi/\Own T 5 Ho (.slice A l.length c) l.length ds/\MU l Hi ds
def MU:List Tree->Am->List Value->Prop
 | [],_,cs=>cs=[]
 | x :: l,H,cs=>∃ H1 H2 c1 c2,H=H1.or H2/\H1.Apart H2/\cs=c1++c2/\MT x H1 c1/\MU l H2 c2
end
mutual
def MV:Tree->Am->List Value->Prop
 | .mk k t n a l,H,cs=>∃ A c,cs=[.int .i64 k,.string t,.int .i64 n,.int .i64 a,.slice A l.length c]/\∃ ds,Rd 5 H (.slice A l.length c) l.length ds/\MW l H ds
def MW:List Tree->Am->List Value->Prop
 | [],_,cs=>cs=[]
 | x :: l,H,cs=>∃ c1 c2,cs=c1++c2/\MV x H c1/\MW l H c2
end
mutual
theorem Aq5:∀ (x:Tree) {H H':Am} {cs:List Value},MT T x H cs->H.In H'->MV x H' cs
 | .mk k t n a l,H,H',cs,h,hi=>by
  simp only [MT] at h;obtain ⟨A,c,rfl,Ho,Hi,ds,rfl,ha,h1,h2⟩:=h;simp only [MV];exact ⟨A,c,rfl,ds,h1.rd.mono ((Am.TV Ho Hi).trans hi),Aq7 l h2 ((Am.Rs ha).trans hi)⟩
theorem Aq7:∀ (l:List Tree) {H H':Am} {cs:List Value},MU T l H cs->H.In H'->MW l H' cs
 | [],H,H',cs,h,hi=>by simp only [MU] at h;simp only [MW];exact h
 | x :: l,H,H',cs,h,hi=>by
  simp only [MU] at h;obtain ⟨H1,H2,c1,c2,rfl,ha,rfl,h1,h2⟩:=h;simp only [MW];exact ⟨c1,c2,rfl,Aq5 x h1 ((Am.TV H1 H2).trans hi),Aq7 l h2 ((Am.Rs ha).trans hi)⟩
end
theorem B21 {x:Tree} {H:Am} {cs:List Value} (h:MT T x H cs):cs.length=5/\∀ u ∈ cs,u.oneCell'=true:=by
 cases x;simp only [MT] at h;obtain ⟨A,c,rfl,_⟩:=h;exact ⟨rfl,List.all_eq_true.1 rfl⟩
theorem B22 {x:Tree} {H:Am} {cs:List Value} (h:MV x H cs):cs.length=5/\∀ u ∈ cs,u.oneCell'=true:=by
 cases x;simp only [MV] at h;obtain ⟨A,c,rfl,_⟩:=h;exact ⟨rfl,List.all_eq_true.1 rfl⟩
def AM:KW Tree:=⟨5,MT T,MV,B21 T,B22,λh hi=>Aq5 T _ h hi⟩
theorem ZB:∀ (l:List Tree) {H:Am} {cs:List Value},MU T l H cs ↔ B2 (AM T) l H cs
 | [],_,_=>by simp only [MU,B2]
 | x :: l,H,cs=>by
  simp only [MU,B2];constructor;rintro ⟨H1,H2,c1,c2,e1,e2,e3,h1,h2⟩;exact ⟨H1,H2,c1,c2,e1,e2,e3,h1,(ZB l).1 h2⟩;rintro ⟨H1,H2,c1,c2,e1,e2,e3,h1,h2⟩;exact ⟨H1,H2,c1,c2,e1,e2,e3,h1,(ZB l).2 h2⟩
theorem ZC:∀ (l:List Tree) {H:Am} {cs:List Value},MW l H cs ↔ Ge (AM T) l H cs
 | [],_,_=>by simp only [MW,Ge]
 | x :: l,H,cs=>by
  simp only [MW,Ge];constructor;rintro ⟨c1,c2,e3,h1,h2⟩;exact ⟨c1,c2,e3,h1,(ZC l).1 h2⟩;rintro ⟨c1,c2,e3,h1,h2⟩;exact ⟨c1,c2,e3,h1,(ZC l).2 h2⟩
theorem BO {k n a:Int} {t:Ah} {l:List Tree} {H:Am} {A:Option Addr} {c:Nat} (h:Bi (AM T) T H (.slice A l.length c) l) :
  (AM T).own (.mk k t n a l) H [.int .i64 k,.string t,.int .i64 n,.int .i64 a,.slice A l.length c]:=by
 obtain ⟨Ho,Hi,ds,h1,h2,h3,h4⟩:=h;show MT T _ _ _;simp only [MT];exact ⟨A,c,rfl,Ho,Hi,ds,h1,h2,h3,(ZB T l).2 h4⟩
theorem CB {x:Tree} {H:Am} {cs:List Value} (h:(AM T).rd x H cs):∃ A c,cs=[.int .i64 x.kind,.string x.text,.int .i64 x.n,.int .i64 x.at_,.slice A x.kids.length c]/\RdR (AM T) H (.slice A x.kids.length c) x.kids:=by
 cases x with
 | mk k t n a l =>
  have h:MV _ _ _:=h;simp only [MV] at h;obtain ⟨A,c,rfl,ds,h1,h2⟩:=h;exact ⟨A,c,rfl,ds,h1,(ZC T l).1 h2⟩
end
inductive PR (α:Type) (ε:Type:=Int) where
 | ok (a:α)
 | bad (at_:ε)
def PR.bind {α β ε:Type} (x:Option (PR α ε)) (f:α->Option (PR β ε)):Option (PR β ε) :=
 match x with
 | none=>none
 | some (.ok a)=>f a
 | some (.bad i)=>some (.bad i)
theorem Al7 {α β ε:Type} {x:Option (PR α ε)} {f:α->Option (PR β ε)} {r:PR β ε} (h:PR.bind x f=some r):(∃ i,x=some (.bad i)/\r=.bad i)\/∃ a,x=some (.ok a)/\f a=some r:=by
 unfold PR.bind at h;split at h;cases h;exact .inr ⟨_,rfl,h⟩;exact .inl ⟨_,rfl,(Ap h).symm⟩
def PR.Post {α ε:Type} (fl:ε->Value) (Ae:α->Ending->List Am->Prop):PR α ε->Ending->List Am->Prop
 | .ok a,e,l1=>Ae a e l1
 | .bad i,e,l1=>e=.panicked [{ v:=fl i,recovered:=false }]/\l1=[]
theorem PR.okI {α ε:Type} {fl:ε->Value} {Ae:α->Ending->List Am->Prop} {a:α} {e:Ending} {l1:List Am} (h:Ae a e l1):PR.Post fl Ae (.ok a) e l1:=h
theorem PR.Azo {α ε:Type} {fl:ε->Value} {Ae:α->Ending->List Am->Prop} {i:ε}:PR.Post fl Ae (.bad i) (.panicked [{ v:=fl i,recovered:=false }]) []:=⟨rfl,rfl⟩
theorem Alb {A:World} {ds:List Deferred} {n0:Nat} {env:Env} {d:Option Nat} {X:List Am} {next:Act->World->Prop} {Q:Exit->Act->World->Prop} {c:List PanicEntry} {l1:List Am} (h:K ds A n0 env (l1++X) (Q (.panic c))):Nx ds A n0 env d X next Q (.panicked c) l1:=h
def e60 (x:Int×Ah×Int×Int):List Value:=[.int .i64 x.1,.string x.2.1,.int .i64 x.2.2.1,.int .i64 x.2.2.2]
theorem T5:En e60 4:=⟨λ_=>rfl,λ_=>rfl⟩
section
variable {A:World} {ds:List Deferred} {n0:Nat} {env env':Env} {l l' X:List Am} {q:Act->World->Prop} {P:Program} {Q:Exit->Act->World->Prop} {ops:Array Oper} {os rest:List Oper} {o:Oper} {α:Type} {R:KW α}
variable {S:World->Prop} {tail:Act->World->Prop} {pl:List (Oper×Nat)}
theorem Bo9 {xs:List α} {a:α} {ix:Int} {kd:IntKind} {h:Am} {A':AG} {c:Nat} {T TS:TypeId} {x y:Operand} (ho:o.op=.indexAddr TS x y) (hg:BK ops env o=some true) (hd:inB n0 o.dst=true) (hx:B9 env x=some (.slice A' xs.length c)) (hy:B9 env y=some (.int kd ix))
  (h1:P.underlying TS=some (.slice T)) (h2:(P.info? T).map (·.size)=some R.sz) (hi:Bm xs ix=some a) (hR:RdR R h (.slice A' xs.length c) xs) (hk:∀ p us,R.rd a h us->Elem h p us->Place A' (ix.toNat * R.sz) p->K ds A n0 (Bk env o.dst p) l (BH P ops Q S tail pl)):K ds A n0 env l (BH P ops Q S tail ((o,0) :: pl)):=by
 intro a' w ha hw;obtain ⟨hi0,hi1,hi2⟩:=RI hi;obtain ⟨cs,⟨hl,_,hc⟩,hrow⟩:=hR;cases hif:P.info? T with
 | none=>rw [hif] at h2;cases h2
 | some i =>
  rw [hif] at h2;have hsz:i.size=R.sz:=Ap h2;rcases hc with ⟨_,h0⟩ | ⟨b,off,cap,cur,T',z,he,hb,_,_,hc⟩;omega;cases he;refine DJ (v:=.pointer (some ⟨b,off+ix.toNat * R.sz,none⟩)) (F_ ha hg) (λw'=>?_) (hk _ _ (hrow.at_ ix.toNat a hi2) ⟨b,off+ix.toNat * R.sz,cur,T',z,rfl,hb,λj u hj=>?_⟩ ⟨b,off,rfl,rfl⟩ _ _ (ha.Bk _ hd) hw);have hr:(Instr.indexAt TS (.slice (some ⟨b,off,none⟩) xs.length c) (.int kd ix)).run P w'=.ok (.pointer (some ⟨b,off+ix.toNat * R.sz,none⟩)) w':=by
   simp [Instr.indexAt,run_underlying h1,asIntOf,hi0,hi1,sizeOf,typeInfo,hif,hsz,addr_add]
  unfold execOp;simp only [ho,ha.eval hx,ha.eval hy,Sem.run_bind,hr,Result.andThen_ok,Sem.run_pure];rw [List.getElem?_take] at hj;split at hj;rw [List.getElem?_drop] at hj;rw [Nat.add_assoc];exact hc _ u hj;cases hj
end
abbrev pt (b:Nat):Value:=.pointer (some ⟨b,0,none⟩)
abbrev W {α:Type} (A:Option Addr) (xs:List α) (c:Nat):Value:=.slice A xs.length c
abbrev V (x:Int):Value:=.int .i64 x
abbrev D (x:Ah):Value:=.string x
abbrev bv (x:Bool):Value:=.bool x
abbrev bk (b:Nat) (cs:Array Value) (T:TypeId):Am:=blk b (.cells cs T (0,0))
abbrev nS:Value:=.slice none 0 0
abbrev noS:Ah:=⟨#[]⟩
universe u
abbrev c3 {α0 α1 α2:Type} {ρ:Sort u} (f:α0->α1->α2->ρ) (t:α0×α1×α2):ρ:=f t.1 t.2.1 t.2.2
abbrev c4 {α0 α1 α2 α3:Type} {ρ:Sort u} (f:α0->α1->α2->α3->ρ) (t:α0×α1×α2×α3):ρ:=f t.1 t.2.1 t.2.2.1 t.2.2.2
abbrev c5 {α0 α1 α2 α3 α4:Type} {ρ:Sort u} (f:α0->α1->α2->α3->α4->ρ) (t:α0×α1×α2×α3×α4):ρ:=f t.1 t.2.1 t.2.2.1 t.2.2.2.1 t.2.2.2.2
abbrev c6 {α0 α1 α2 α3 α4 α5:Type} {ρ:Sort u} (f:α0->α1->α2->α3->α4->α5->ρ) (t:α0×α1×α2×α3×α4×α5):ρ:=f t.1 t.2.1 t.2.2.1 t.2.2.2.1 t.2.2.2.2.1 t.2.2.2.2.2
abbrev c7 {α0 α1 α2 α3 α4 α5 α6:Type} {ρ:Sort u} (f:α0->α1->α2->α3->α4->α5->α6->ρ) (t:α0×α1×α2×α3×α4×α5×α6):ρ:=f t.1 t.2.1 t.2.2.1 t.2.2.2.1 t.2.2.2.2.1 t.2.2.2.2.2.1 t.2.2.2.2.2.2
abbrev c8 {α0 α1 α2 α3 α4 α5 α6 α7:Type} {ρ:Sort u} (f:α0->α1->α2->α3->α4->α5->α6->α7->ρ) (t:α0×α1×α2×α3×α4×α5×α6×α7):ρ:=f t.1 t.2.1 t.2.2.1 t.2.2.2.1 t.2.2.2.2.1 t.2.2.2.2.2.1 t.2.2.2.2.2.2.1 t.2.2.2.2.2.2.2
abbrev c9 {α0 α1 α2 α3 α4 α5 α6 α7 α8:Type} {ρ:Sort u} (f:α0->α1->α2->α3->α4->α5->α6->α7->α8->ρ) (t:α0×α1×α2×α3×α4×α5×α6×α7×α8):ρ:=f t.1 t.2.1 t.2.2.1 t.2.2.2.1 t.2.2.2.2.1 t.2.2.2.2.2.1 t.2.2.2.2.2.2.1 t.2.2.2.2.2.2.2.1 t.2.2.2.2.2.2.2.2
abbrev c10 {α0 α1 α2 α3 α4 α5 α6 α7 α8 α9:Type} {ρ:Sort u} (f:α0->α1->α2->α3->α4->α5->α6->α7->α8->α9->ρ) (t:α0×α1×α2×α3×α4×α5×α6×α7×α8×α9):ρ:=f t.1 t.2.1 t.2.2.1 t.2.2.2.1 t.2.2.2.2.1 t.2.2.2.2.2.1 t.2.2.2.2.2.2.1 t.2.2.2.2.2.2.2.1 t.2.2.2.2.2.2.2.2.1 t.2.2.2.2.2.2.2.2.2
abbrev c13 {α0 α1 α2 α3 α4 α5 α6 α7 α8 α9 EJ EK EL:Type} {ρ:Sort u} (f:α0->α1->α2->α3->α4->α5->α6->α7->α8->α9->EJ->EK->EL->ρ) (t:α0×α1×α2×α3×α4×α5×α6×α7×α8×α9×EJ×EK×EL):ρ:=f t.1 t.2.1 t.2.2.1 t.2.2.2.1 t.2.2.2.2.1 t.2.2.2.2.2.1 t.2.2.2.2.2.2.1 t.2.2.2.2.2.2.2.1 t.2.2.2.2.2.2.2.2.1 t.2.2.2.2.2.2.2.2.2.1 t.2.2.2.2.2.2.2.2.2.2.1 t.2.2.2.2.2.2.2.2.2.2.2.1 t.2.2.2.2.2.2.2.2.2.2.2.2
abbrev c14 {α0 α1 α2 α3 α4 α5 α6 α7 α8 α9 EJ EK EL F0:Type} {ρ:Sort u} (f:α0->α1->α2->α3->α4->α5->α6->α7->α8->α9->EJ->EK->EL->F0->ρ) (t:α0×α1×α2×α3×α4×α5×α6×α7×α8×α9×EJ×EK×EL×F0):ρ:=f t.1 t.2.1 t.2.2.1 t.2.2.2.1 t.2.2.2.2.1 t.2.2.2.2.2.1 t.2.2.2.2.2.2.1 t.2.2.2.2.2.2.2.1 t.2.2.2.2.2.2.2.2.1 t.2.2.2.2.2.2.2.2.2.1 t.2.2.2.2.2.2.2.2.2.2.1 t.2.2.2.2.2.2.2.2.2.2.2.1 t.2.2.2.2.2.2.2.2.2.2.2.2.1 t.2.2.2.2.2.2.2.2.2.2.2.2.2
abbrev c16 {α0 α1 α2 α3 α4 α5 α6 α7 α8 α9 EJ EK EL F0 Gb Gc:Type} {ρ:Sort u} (f:α0->α1->α2->α3->α4->α5->α6->α7->α8->α9->EJ->EK->EL->F0->Gb->Gc->ρ) (t:α0×α1×α2×α3×α4×α5×α6×α7×α8×α9×EJ×EK×EL×F0×Gb×Gc):ρ:=f t.1 t.2.1 t.2.2.1 t.2.2.2.1 t.2.2.2.2.1 t.2.2.2.2.2.1 t.2.2.2.2.2.2.1 t.2.2.2.2.2.2.2.1 t.2.2.2.2.2.2.2.2.1 t.2.2.2.2.2.2.2.2.2.1 t.2.2.2.2.2.2.2.2.2.2.1 t.2.2.2.2.2.2.2.2.2.2.2.1 t.2.2.2.2.2.2.2.2.2.2.2.2.1 t.2.2.2.2.2.2.2.2.2.2.2.2.2.1 t.2.2.2.2.2.2.2.2.2.2.2.2.2.2.1 t.2.2.2.2.2.2.2.2.2.2.2.2.2.2.2
abbrev c19 {α0 α1 α2 α3 α4 α5 α6 α7 α8 α9 EJ EK EL F0 Gb Gc Hs Ht Hu:Type} {ρ:Sort u} (f:α0->α1->α2->α3->α4->α5->α6->α7->α8->α9->EJ->EK->EL->F0->Gb->Gc->Hs->Ht->Hu->ρ) (t:α0×α1×α2×α3×α4×α5×α6×α7×α8×α9×EJ×EK×EL×F0×Gb×Gc×Hs×Ht×Hu):ρ:=f t.1 t.2.1 t.2.2.1 t.2.2.2.1 t.2.2.2.2.1 t.2.2.2.2.2.1 t.2.2.2.2.2.2.1 t.2.2.2.2.2.2.2.1 t.2.2.2.2.2.2.2.2.1 t.2.2.2.2.2.2.2.2.2.1 t.2.2.2.2.2.2.2.2.2.2.1 t.2.2.2.2.2.2.2.2.2.2.2.1 t.2.2.2.2.2.2.2.2.2.2.2.2.1 t.2.2.2.2.2.2.2.2.2.2.2.2.2.1 t.2.2.2.2.2.2.2.2.2.2.2.2.2.2.1 t.2.2.2.2.2.2.2.2.2.2.2.2.2.2.2.1 t.2.2.2.2.2.2.2.2.2.2.2.2.2.2.2.2.1 t.2.2.2.2.2.2.2.2.2.2.2.2.2.2.2.2.2.1 t.2.2.2.2.2.2.2.2.2.2.2.2.2.2.2.2.2.2
abbrev c21 {α0 α1 α2 α3 α4 α5 α6 α7 α8 α9 EJ EK EL F0 Gb Gc Hs Ht Hu IF IG:Type} {ρ:Sort u} (f:α0->α1->α2->α3->α4->α5->α6->α7->α8->α9->EJ->EK->EL->F0->Gb->Gc->Hs->Ht->Hu->IF->IG->ρ) (t:α0×α1×α2×α3×α4×α5×α6×α7×α8×α9×EJ×EK×EL×F0×Gb×Gc×Hs×Ht×Hu×IF×IG):ρ:=f t.1 t.2.1 t.2.2.1 t.2.2.2.1 t.2.2.2.2.1 t.2.2.2.2.2.1 t.2.2.2.2.2.2.1 t.2.2.2.2.2.2.2.1 t.2.2.2.2.2.2.2.2.1 t.2.2.2.2.2.2.2.2.2.1 t.2.2.2.2.2.2.2.2.2.2.1 t.2.2.2.2.2.2.2.2.2.2.2.1 t.2.2.2.2.2.2.2.2.2.2.2.2.1 t.2.2.2.2.2.2.2.2.2.2.2.2.2.1 t.2.2.2.2.2.2.2.2.2.2.2.2.2.2.1 t.2.2.2.2.2.2.2.2.2.2.2.2.2.2.2.1 t.2.2.2.2.2.2.2.2.2.2.2.2.2.2.2.2.1 t.2.2.2.2.2.2.2.2.2.2.2.2.2.2.2.2.2.1 t.2.2.2.2.2.2.2.2.2.2.2.2.2.2.2.2.2.2.1 t.2.2.2.2.2.2.2.2.2.2.2.2.2.2.2.2.2.2.2.1 t.2.2.2.2.2.2.2.2.2.2.2.2.2.2.2.2.2.2.2.2
abbrev c23 {α0 α1 α2 α3 α4 α5 α6 α7 α8 α9 EJ EK EL F0 Gb Gc Hs Ht Hu IF IG KP KQ:Type} {ρ:Sort u} (f:α0->α1->α2->α3->α4->α5->α6->α7->α8->α9->EJ->EK->EL->F0->Gb->Gc->Hs->Ht->Hu->IF->IG->KP->KQ->ρ) (t:α0×α1×α2×α3×α4×α5×α6×α7×α8×α9×EJ×EK×EL×F0×Gb×Gc×Hs×Ht×Hu×IF×IG×KP×KQ):ρ:=f t.1 t.2.1 t.2.2.1 t.2.2.2.1 t.2.2.2.2.1 t.2.2.2.2.2.1 t.2.2.2.2.2.2.1 t.2.2.2.2.2.2.2.1 t.2.2.2.2.2.2.2.2.1 t.2.2.2.2.2.2.2.2.2.1 t.2.2.2.2.2.2.2.2.2.2.1 t.2.2.2.2.2.2.2.2.2.2.2.1 t.2.2.2.2.2.2.2.2.2.2.2.2.1 t.2.2.2.2.2.2.2.2.2.2.2.2.2.1 t.2.2.2.2.2.2.2.2.2.2.2.2.2.2.1 t.2.2.2.2.2.2.2.2.2.2.2.2.2.2.2.1 t.2.2.2.2.2.2.2.2.2.2.2.2.2.2.2.2.1 t.2.2.2.2.2.2.2.2.2.2.2.2.2.2.2.2.2.1 t.2.2.2.2.2.2.2.2.2.2.2.2.2.2.2.2.2.2.1 t.2.2.2.2.2.2.2.2.2.2.2.2.2.2.2.2.2.2.2.1 t.2.2.2.2.2.2.2.2.2.2.2.2.2.2.2.2.2.2.2.2.1 t.2.2.2.2.2.2.2.2.2.2.2.2.2.2.2.2.2.2.2.2.2.1 t.2.2.2.2.2.2.2.2.2.2.2.2.2.2.2.2.2.2.2.2.2.2
abbrev c24 {α0 α1 α2 α3 α4 α5 α6 α7 α8 α9 EJ EK EL F0 Gb Gc Hs Ht Hu IF IG KP KQ Na:Type} {ρ:Sort u} (f:α0->α1->α2->α3->α4->α5->α6->α7->α8->α9->EJ->EK->EL->F0->Gb->Gc->Hs->Ht->Hu->IF->IG->KP->KQ->Na->ρ) (t:α0×α1×α2×α3×α4×α5×α6×α7×α8×α9×EJ×EK×EL×F0×Gb×Gc×Hs×Ht×Hu×IF×IG×KP×KQ×Na):ρ:=f t.1 t.2.1 t.2.2.1 t.2.2.2.1 t.2.2.2.2.1 t.2.2.2.2.2.1 t.2.2.2.2.2.2.1 t.2.2.2.2.2.2.2.1 t.2.2.2.2.2.2.2.2.1 t.2.2.2.2.2.2.2.2.2.1 t.2.2.2.2.2.2.2.2.2.2.1 t.2.2.2.2.2.2.2.2.2.2.2.1 t.2.2.2.2.2.2.2.2.2.2.2.2.1 t.2.2.2.2.2.2.2.2.2.2.2.2.2.1 t.2.2.2.2.2.2.2.2.2.2.2.2.2.2.1 t.2.2.2.2.2.2.2.2.2.2.2.2.2.2.2.1 t.2.2.2.2.2.2.2.2.2.2.2.2.2.2.2.2.1 t.2.2.2.2.2.2.2.2.2.2.2.2.2.2.2.2.2.1 t.2.2.2.2.2.2.2.2.2.2.2.2.2.2.2.2.2.2.1 t.2.2.2.2.2.2.2.2.2.2.2.2.2.2.2.2.2.2.2.1 t.2.2.2.2.2.2.2.2.2.2.2.2.2.2.2.2.2.2.2.2.1 t.2.2.2.2.2.2.2.2.2.2.2.2.2.2.2.2.2.2.2.2.2.1 t.2.2.2.2.2.2.2.2.2.2.2.2.2.2.2.2.2.2.2.2.2.2.1 t.2.2.2.2.2.2.2.2.2.2.2.2.2.2.2.2.2.2.2.2.2.2.2
abbrev c25 {α0 α1 α2 α3 α4 α5 α6 α7 α8 α9 EJ EK EL F0 Gb Gc Hs Ht Hu IF IG KP KQ Na SK:Type} {ρ:Sort u} (f:α0->α1->α2->α3->α4->α5->α6->α7->α8->α9->EJ->EK->EL->F0->Gb->Gc->Hs->Ht->Hu->IF->IG->KP->KQ->Na->SK->ρ) (t:α0×α1×α2×α3×α4×α5×α6×α7×α8×α9×EJ×EK×EL×F0×Gb×Gc×Hs×Ht×Hu×IF×IG×KP×KQ×Na×SK):ρ:=f t.1 t.2.1 t.2.2.1 t.2.2.2.1 t.2.2.2.2.1 t.2.2.2.2.2.1 t.2.2.2.2.2.2.1 t.2.2.2.2.2.2.2.1 t.2.2.2.2.2.2.2.2.1 t.2.2.2.2.2.2.2.2.2.1 t.2.2.2.2.2.2.2.2.2.2.1 t.2.2.2.2.2.2.2.2.2.2.2.1 t.2.2.2.2.2.2.2.2.2.2.2.2.1 t.2.2.2.2.2.2.2.2.2.2.2.2.2.1 t.2.2.2.2.2.2.2.2.2.2.2.2.2.2.1 t.2.2.2.2.2.2.2.2.2.2.2.2.2.2.2.1 t.2.2.2.2.2.2.2.2.2.2.2.2.2.2.2.2.1 t.2.2.2.2.2.2.2.2.2.2.2.2.2.2.2.2.2.1 t.2.2.2.2.2.2.2.2.2.2.2.2.2.2.2.2.2.2.1 t.2.2.2.2.2.2.2.2.2.2.2.2.2.2.2.2.2.2.2.1 t.2.2.2.2.2.2.2.2.2.2.2.2.2.2.2.2.2.2.2.2.1 t.2.2.2.2.2.2.2.2.2.2.2.2.2.2.2.2.2.2.2.2.2.1 t.2.2.2.2.2.2.2.2.2.2.2.2.2.2.2.2.2.2.2.2.2.2.1 t.2.2.2.2.2.2.2.2.2.2.2.2.2.2.2.2.2.2.2.2.2.2.2.1 t.2.2.2.2.2.2.2.2.2.2.2.2.2.2.2.2.2.2.2.2.2.2.2.2
abbrev c26 {α0 α1 α2 α3 α4 α5 α6 α7 α8 α9 EJ EK EL F0 Gb Gc Hs Ht Hu IF IG KP KQ Na SK α25:Type} {ρ:Sort u} (f:α0->α1->α2->α3->α4->α5->α6->α7->α8->α9->EJ->EK->EL->F0->Gb->Gc->Hs->Ht->Hu->IF->IG->KP->KQ->Na->SK->α25->ρ) (t:α0×α1×α2×α3×α4×α5×α6×α7×α8×α9×EJ×EK×EL×F0×Gb×Gc×Hs×Ht×Hu×IF×IG×KP×KQ×Na×SK×α25):ρ:=f t.1 t.2.1 t.2.2.1 t.2.2.2.1 t.2.2.2.2.1 t.2.2.2.2.2.1 t.2.2.2.2.2.2.1 t.2.2.2.2.2.2.2.1 t.2.2.2.2.2.2.2.2.1 t.2.2.2.2.2.2.2.2.2.1 t.2.2.2.2.2.2.2.2.2.2.1 t.2.2.2.2.2.2.2.2.2.2.2.1 t.2.2.2.2.2.2.2.2.2.2.2.2.1 t.2.2.2.2.2.2.2.2.2.2.2.2.2.1 t.2.2.2.2.2.2.2.2.2.2.2.2.2.2.1 t.2.2.2.2.2.2.2.2.2.2.2.2.2.2.2.1 t.2.2.2.2.2.2.2.2.2.2.2.2.2.2.2.2.1 t.2.2.2.2.2.2.2.2.2.2.2.2.2.2.2.2.2.1 t.2.2.2.2.2.2.2.2.2.2.2.2.2.2.2.2.2.2.1 t.2.2.2.2.2.2.2.2.2.2.2.2.2.2.2.2.2.2.2.1 t.2.2.2.2.2.2.2.2.2.2.2.2.2.2.2.2.2.2.2.2.1 t.2.2.2.2.2.2.2.2.2.2.2.2.2.2.2.2.2.2.2.2.2.1 t.2.2.2.2.2.2.2.2.2.2.2.2.2.2.2.2.2.2.2.2.2.2.1 t.2.2.2.2.2.2.2.2.2.2.2.2.2.2.2.2.2.2.2.2.2.2.2.1 t.2.2.2.2.2.2.2.2.2.2.2.2.2.2.2.2.2.2.2.2.2.2.2.2.1 t.2.2.2.2.2.2.2.2.2.2.2.2.2.2.2.2.2.2.2.2.2.2.2.2.2
theorem N {α β:Type} {x:Option α} {f:α->Option β} {r:β} {Af:Prop} (h:x.bind f=some r) (k:∀ a,x=some a->f a=some r->Af):Af:=by
 obtain ⟨a,h1,h2⟩:=Azr h;exact k a h1 h2
def PX (P:Program) (ops:Array Oper) (n:Nat) (os:List Oper) (env:Env):Env:=(Hq P ops n os env).getD []
section
variable {A:World} {ds:List Deferred} {n:Nat} {env env':Env} {l l' X:List Am} {q next:Act->World->Prop} {P:Program} {Q:Exit->Act->World->Prop} {ops:Array Oper} {os rest:List Oper} {o:Oper} {S:World->Prop} {tail:Act->World->Prop} {pl:List (Oper×Nat)}
theorem M (m:Nat) (hk:K ds A n (PX P ops n (os.take m) env) l (wpList P ops Q (os.drop m))) (h:(Hq P ops n (os.take m) env).isSome=true:=by kernel_rfl):K ds A n env l (wpList P ops Q os):=by
 cases hs:Hq P ops n (os.take m) env with
 | none=>rw [hs] at h;cases h
 | some JU =>
  have e:PX P ops n (os.take m) env=JU:=by unfold PX;rw [hs];rfl
  rw [e] at hk;have:=Ug (rest:=os.drop m) (os.take m) env hs hk
  rwa [List.take_append_drop] at this
theorem AJ (m:Nat) (hk:K ds A n (PX P ops n ((pl.take m).map (·.1)) env) l (BH P ops Q S tail (pl.drop m))) (hz:((pl.take m).all λx=>Nat.beq x.2 0)=true:=by kernel_rfl) (h:(Hq P ops n ((pl.take m).map (·.1)) env).isSome=true:=by kernel_rfl):K ds A n env l (BH P ops Q S tail pl):=by
 cases hs:Hq P ops n ((pl.take m).map (·.1)) env with
 | none=>rw [hs] at h;cases h
 | some JU =>
  have e:PX P ops n ((pl.take m).map (·.1)) env=JU:=by unfold PX;rw [hs];rfl
  rw [e] at hk;have:=Uj ((pl.take m).map (·.1)) env hs hk
  rwa [<- X5 _ hz,List.take_append_drop] at this
theorem Bt (k:Nat) {α:Type} {t:Bool} {F Af:Option α} {r:α} (h:cond t F Af=some r) (hx:F=some r->K ds A n ((k,.bool true) :: env) l q) (hy:Af=some r->K ds A n ((k,.bool false) :: env) l q) (hk:env.get k=some (.bool t):=by kernel_rfl):K ds A n env l q:=by
 have put:∀ u,t=u->K ds A n ((k,.bool u) :: env) l q->K ds A n env l q:=λu hu hq a w ha hw=>hq a w ⟨ha.size,ha.defers,λi v hi=>by
  simp only [Env.get] at hi;cases hb:Nat.beq k i with
  | true =>
   rw [hb] at hi;cases hi;rw [<- Nat.eq_of_beq_eq_true hb,<- hu];exact ha.at_ _ _ hk
  | false=>rw [hb] at hi;exact ha.at_ i v hi⟩ hw
 cases t with
 | true=>exact put true rfl (hx h)
 | false=>exact put false rfl (hy h)
theorem At {c:Operand} {x y:Code} {α:Type} {t:Bool} {F Af:Option α} {r:α} (h:cond t F Af=some r) (hx:F=some r->K ds A n env l (x.wp P Q)) (hy:Af=some r->K ds A n env l (y.wp P Q)) (hc:B9 env c=some (.bool t):=by kernel_rfl):K ds A n env l ((Code.cond c x y).wp P Q):=by
 cases t with
 | true=>exact Xy hc (hx h)
 | false=>exact Xx hc (hy h)
def lds (b:Nat):Nat->List Value->List Ev
 | _,[]=>[]
 | off,v :: r=>.ld ⟨b,off,none⟩ v :: lds b (off+1) r
def sts (b:Nat):Nat->List Value->List Ev
 | _,[]=>[]
 | off,v :: r=>.st ⟨b,off,none⟩ v :: sts b (off+1) r
theorem Z5 (b:Nat):∀ (off:Nat) (vs:List Value),S4 b (sts b off vs)
 | _,[]=>trivial
 | off,v :: r=>⟨rfl,Z5 b (off+1) r⟩
theorem Px {b:Nat} {cs:Array Value} {T:TypeId} {z:Nat×Nat} {i:Nat} (hi:l[i]? = some (blk b (.cells cs T z))):∀ (vs:List Value) (off:Nat),(∀ j v,vs[j]? = some v->cs[off+j]? = some v)->Jo l (lds b off vs)
 | [],_,_=>trivial
 | v :: r,off,h=>⟨⟨i,cs,T,z,hi,rfl,by simpa using h 0 v rfl⟩,Px hi r (off+1) λj u hj=>by
   have:=h (j+1) u hj
   rwa [show off+1+j=off+(j+1) by omega]⟩
def cut (cs:Array Value) (off m:Nat):List Value:=(cs.toList.drop off).take m
theorem QK {cs:Array Value} {off m j:Nat} {v:Value} (h:(cut cs off m)[j]? = some v):cs[off+j]? = some v:=by
 unfold cut at h;rw [List.getElem?_take] at h;split at h;rw [List.getElem?_drop] at h;simpa using h;cases h
theorem kld (i off:Nat) {b:Nat} {cs:Array Value} {T:TypeId} {z:Nat×Nat} (hi:l[i]? = some (blk b (.cells cs T z))) (hk:K ds A n (Bk env o.dst (cs.getD off undef)) l (wpList P ops Q rest)) (hg:BK ops env o=some true:=by kernel_rfl) (hs:(D8 o.op && allB o.op.operands.toList env && inB n o.dst)=true:=by kernel_rfl)
  (hf:follow P (execOp (rho env) o) ((cut cs off 1).map .val)=some (.value (cs.getD off undef),lds b off (cut cs off 1)):=by kernel_rfl):K ds A n env l (wpList P ops Q (o :: rest)):=Aip _ _ hg hs hf (Px hi _ _ λ_ _ h=>QK h) hk
theorem C0 (i off m:Nat) {b:Nat} {cs:Array Value} {T:TypeId} {z:Nat×Nat} (hi:l[i]? = some (blk b (.cells cs T z))) (hk:K ds A n (Bk env o.dst (.agg (cut cs off m).toArray)) l (wpList P ops Q rest)) (hg:BK ops env o=some true:=by kernel_rfl) (hs:(D8 o.op && allB o.op.operands.toList env && inB n o.dst)=true:=by kernel_rfl)
  (hf:follow P (execOp (rho env) o) ((cut cs off m).map .val)=some (.value (.agg (cut cs off m).toArray),lds b off (cut cs off m)):=by kernel_rfl):K ds A n env l (wpList P ops Q (o :: rest)):=Aip _ _ hg hs hf (Px hi _ _ λ_ _ h=>QK h) hk
theorem AB (off m:Nat) {b:Nat} {e:TypeId} {cs:Array Value} (cs':Array Value) (hk:K ds A n (Bk env o.dst undef) (blk b (.cells cs' e (0,0)) :: l) (wpList P ops Q rest)) (hg:BK ops env o=some true:=by kernel_rfl) (hs:(D8 o.op && allB o.op.operands.toList env && inB n o.dst)=true:=by kernel_rfl)
  (hf:follow P (execOp (rho env) o) []=some (.skip,sts b off (cut cs' off m)):=by kernel_rfl) (hc:MQ b e (sts b off (cut cs' off m)) cs=some cs':=by kernel_rfl):K ds A n env (blk b (.cells cs e (0,0)) :: l) (wpList P ops Q (o :: rest)):=X2 _ hg hs hf (Z5 ..) hc hk
theorem ost (off m:Nat) {b:Nat} {e:TypeId} {cs:Array Value} (cs':Array Value) (hk:K ds A n (Bk env o.dst undef) (blk b (.cells cs' e (0,0)) :: l) q) (hs:(D8 o.op && allB o.op.operands.toList env && inB n o.dst)=true:=by kernel_rfl)
  (hf:follow P (execOp (rho env) o) []=some (.skip,sts b off (cut cs' off m)):=by kernel_rfl) (hc:MQ b e (sts b off (cut cs' off m)) cs=some cs':=by kernel_rfl):K ds A n env (blk b (.cells cs e (0,0)) :: l) (λa w=>o.wp P a w q Q):=Y4 _ hs hf (Z5 ..) hc hk
theorem knp (cs:Array Value) (T:TypeId) (hk:∀ b,K ds A n (Bk env o.dst (pt b)) (bk b cs T :: l) (wpList P ops Q rest)) (hg:BK ops env o=some true:=by kernel_rfl) (hs:(D8 o.op && allB o.op.operands.toList env && inB n o.dst)=true:=by kernel_rfl) (hf:∀ b,follow P (execOp (rho env) o) [.num b]=some (.value (pt b),[.nw (.cells cs T (0,0)) b]):=by (intro b;kernel_rfl)) :
  K ds A n env l (wpList P ops Q (o :: rest)):=X0 _ _ hg hs hf hk
theorem Bl (cs:Array Value) (T m:Nat) (hk:∀ b,K ds A n (Bk env o.dst (.slice (some ⟨b,0,none⟩) m m)) (bk b cs T :: l) (wpList P ops Q rest)) (hg:BK ops env o=some true:=by kernel_rfl) (hs:(D8 o.op && allB o.op.operands.toList env && inB n o.dst)=true:=by kernel_rfl) (hf:∀ b,follow P (execOp (rho env) o) [.num b]=some (.value (.slice (some ⟨b,0,none⟩) m m),[.nw (.cells cs T (0,0)) b]):=by (intro b;kernel_rfl)) :
  K ds A n env l (wpList P ops Q (o :: rest)):=X0 _ _ hg hs hf hk
theorem Y2 (cs:Array Value) (T:TypeId) (hk:∀ b,K ds A n (Bk env o.dst (pt b)) (bk b cs T :: l) q) (hs:(D8 o.op && allB o.op.operands.toList env && inB n o.dst)=true:=by kernel_rfl) (hf:∀ b,follow P (execOp (rho env) o) [.num b]=some (.value (pt b),[.nw (.cells cs T (0,0)) b]):=by (intro b;kernel_rfl)) :
  K ds A n env l (λa w=>o.wp P a w q Q):=Y3 _ _ hs hf hk
theorem E_ (cs:Array Value) (T m:Nat) (hk:∀ b,K ds A n (Bk env o.dst (.slice (some ⟨b,0,none⟩) m m)) (bk b cs T :: l) q) (hs:(D8 o.op && allB o.op.operands.toList env && inB n o.dst)=true:=by kernel_rfl) (hf:∀ b,follow P (execOp (rho env) o) [.num b]=some (.value (.slice (some ⟨b,0,none⟩) m m),[.nw (.cells cs T (0,0)) b]):=by (intro b;kernel_rfl)) :
  K ds A n env l (λa w=>o.wp P a w q Q):=Y3 _ _ hs hf hk
theorem AZ {f:FuncId} {args:Array Value} {l0 hs:List Am} {R:Ending->List Am->Prop} (hc:Ct P f args l0 hs R) (hl:l=l0++X) (hh:If hs X) (hk:∀ e l1,R e l1->Nx ds A n env o.dst X (wpList P ops Q rest) Q e l1) (hg:BK ops env o=some true:=by kernel_rfl)
  (hg1:(D8 o.op && allB o.op.operands.toList env && inB n o.dst)=true:=by kernel_rfl) (hp:FB P (execOp (rho env) o)=some (.enter f args):=by kernel_rfl):K ds A n env l (wpList P ops Q (o :: rest)):=Uh X hg hg1 hp hc hl hh hk
theorem Ex {f:FuncId} {args:Array Value} {l0 hs:List Am} {R:Ending->List Am->Prop} (hc:Ct P f args l0 hs R) (hl:l=l0++X) (hh:If hs X) (hk:∀ e l1,R e l1->Nx ds A n env o.dst X q Q e l1)
  (hg1:(D8 o.op && allB o.op.operands.toList env && inB n o.dst)=true:=by kernel_rfl) (hp:FB P (execOp (rho env) o)=some (.enter f args):=by kernel_rfl):K ds A n env l (λa w=>o.wp P a w q Q):=Sg hg1 hp hc hl hh hk
theorem CQ {f:FuncId} {args:Array Value} {hs:List Am} {v:Value} (hc:Ct P f args [] hs λe l1=>e=.returned v/\l1=[]) (hh:If hs l) (hk:K ds A n (Bk env o.dst v) l (wpList P ops Q rest)) (hg:BK ops env o=some true:=by kernel_rfl)
  (hg1:(D8 o.op && allB o.op.operands.toList env && inB n o.dst)=true:=by kernel_rfl) (hp:FB P (execOp (rho env) o)=some (.enter f args):=by kernel_rfl):K ds A n env l (wpList P ops Q (o :: rest)):=Bob hg hg1 hp hc hh hk
theorem ocv {f:FuncId} {args:Array Value} {hs:List Am} {v:Value} (hc:Ct P f args [] hs λe l1=>e=.returned v/\l1=[]) (hh:If hs l) (hk:K ds A n (Bk env o.dst v) l q)
  (hg1:(D8 o.op && allB o.op.operands.toList env && inB n o.dst)=true:=by kernel_rfl) (hp:FB P (execOp (rho env) o)=some (.enter f args):=by kernel_rfl):K ds A n env l (λa w=>o.wp P a w q Q):=Alg hg1 hp hc hh hk
theorem Bf {f:FuncId} {args:Array Value} {l0 hs:List Am} {v:Value} {p1:Am} (hc:Ct P f args l0 hs λe l1=>e=.returned v/\l1=[p1]) (hl:l=l0++X) (hh:If hs X) (hk:K ds A n (Bk env o.dst v) (p1 :: X) (wpList P ops Q rest)) (hg:BK ops env o=some true:=by kernel_rfl)
  (hg1:(D8 o.op && allB o.op.operands.toList env && inB n o.dst)=true:=by kernel_rfl) (hp:FB P (execOp (rho env) o)=some (.enter f args):=by kernel_rfl):K ds A n env l (wpList P ops Q (o :: rest)):=Uh X hg hg1 hp hc hl hh (by rintro e l1 ⟨rfl,rfl⟩;exact hk)
theorem C9 {α β ε:Type} {x:Option (PR α ε)} {F:α->Option (PR β ε)} {r:PR β ε} {f:FuncId} {args:Array Value} {l0 hs:List Am} {fl:ε->Value} {Ae:α->Ending->List Am->Prop} (h:PR.bind x F=some r) (hc:∀ v,x=some v->Ct P f args l0 hs (PR.Post fl Ae v)) (hl:l=l0++X) (hh:If hs X)
  (hb:∀ i,r=.bad i->K ds A n env X (Q (.panic [{ v:=fl i,recovered:=false }]))) (hk:∀ a,F a=some r->∀ e l1,Ae a e l1->Nx ds A n env o.dst X (wpList P ops Q rest) Q e l1) (hg:BK ops env o=some true:=by kernel_rfl)
  (hg1:(D8 o.op && allB o.op.operands.toList env && inB n o.dst)=true:=by kernel_rfl) (hp:FB P (execOp (rho env) o)=some (.enter f args):=by kernel_rfl):K ds A n env l (wpList P ops Q (o :: rest)):=by
 rcases Al7 h with ⟨i,hx,hr⟩ | ⟨a,hx,h⟩;exact Uh X hg hg1 hp (hc _ hx) hl hh (by rintro e l1 ⟨rfl,rfl⟩;exact hb i hr);exact Uh X hg hg1 hp (hc _ hx) hl hh (hk a h)
theorem ocp {α β ε:Type} {x:Option (PR α ε)} {F:α->Option (PR β ε)} {r:PR β ε} {f:FuncId} {args:Array Value} {l0 hs:List Am} {fl:ε->Value} {Ae:α->Ending->List Am->Prop} (h:PR.bind x F=some r) (hc:∀ v,x=some v->Ct P f args l0 hs (PR.Post fl Ae v)) (hl:l=l0++X) (hh:If hs X)
  (hb:∀ i,r=.bad i->K ds A n env X (Q (.panic [{ v:=fl i,recovered:=false }]))) (hk:∀ a,F a=some r->∀ e l1,Ae a e l1->Nx ds A n env o.dst X q Q e l1)
  (hg1:(D8 o.op && allB o.op.operands.toList env && inB n o.dst)=true:=by kernel_rfl) (hp:FB P (execOp (rho env) o)=some (.enter f args):=by kernel_rfl):K ds A n env l (λa w=>o.wp P a w q Q):=by
 rcases Al7 h with ⟨i,hx,hr⟩ | ⟨a,hx,h⟩;exact Sg hg1 hp (hc _ hx) hl hh (by rintro e l1 ⟨rfl,rfl⟩;exact hb i hr);exact Sg hg1 hp (hc _ hx) hl hh (hk a h)
theorem St.Ac5:∀ (m:Nat) {l:List Am} {w:World},St A l w->St A (l.drop m) w
 | 0,_,_,h=>h
 | _+1,[],_,h=>h
 | m+1,_ :: _,_,h=>St.Ac5 m h.tail
theorem kpn (m:Nat) {fn:Func} {β ε:Type} {r:PR β ε} {fl:ε->Value} {Ae:β->Ending->List Am->Prop} {i:ε} (hr:r=.bad i) (hl:l.drop m=X):K [] A n env l (bodyPost P fn (λe w'=>∃ l1,PR.Post fl Ae r e l1/\St A (l1++X) w') (.panic [{ v:=fl i,recovered:=false }])):=by
 subst hr hl;exact λa w ha hw=>⟨ha.defers,[],⟨rfl,rfl⟩,hw.Ac5 m⟩
theorem kdn {fn:Func} {v:Value} {L:List Am} (hl:l=L++X) (hr:hasAll fn.results.toList env=true:=by kernel_rfl) (hf:follow P (JH fn.results (JI env)) []=some (v,[]):=by kernel_rfl) :
  K [] A n env l (bodyPost P fn (λe w'=>∃ l1,(e=.returned v/\l1=L)/\St A (l1++X) w') .ret):=by
 subst hl;exact F7 [] [] L hr hf trivial λa w ha hw=>⟨⟨rfl,rfl⟩,hw⟩
theorem kdv {fn:Func} {R:Ending->List Am->Prop} (v:Value) (l1:List Am) (hk:K [] A n env l λ_ w=>R (.returned v) l1/\St A (l1++X) w) (hr:hasAll fn.results.toList env=true:=by kernel_rfl) (hf:follow P (JH fn.results (JI env)) []=some (v,[]):=by kernel_rfl) :
  K [] A n env l (bodyPost P fn (λe w'=>∃ l1,R e l1/\St A (l1++X) w') .ret):=F7 [] [] l1 hr hf trivial hk
theorem Do {fn:Func} {R:Ending->List Am->Prop} (i m:Nat) {b:Nat} {cs:Array Value} {T:TypeId} {z:Nat×Nat} (hi:l[i]? = some (blk b (.cells cs T z))) (l1:List Am) (hk:K [] A n env l λ_ w=>R (.returned (.agg cs)) l1/\St A (l1++X) w) (hr:hasAll fn.results.toList env=true:=by kernel_rfl)
  (hf:follow P (JH fn.results (JI env)) ((cut cs 0 m).map .val)=some (.agg cs,lds b 0 (cut cs 0 m)):=by kernel_rfl):K [] A n env l (bodyPost P fn (λe w'=>∃ l1,R e l1/\St A (l1++X) w') .ret):=F7 _ _ l1 hr hf (Px hi _ _ λ_ _ h=>QK h) hk
def U2 (is:List Nat) (l:List Am):List Am:=is.filterMap (l[·]?)
theorem Y0 {w:World} (hw:Sat l w):∀ (is:List Nat),Dh (U2 is l) w
 | []=>trivial
 | i :: is=>by
  unfold U2;rw [List.filterMap_cons];have ih:=Y0 hw is;cases h:l[i]? with
  | none=>exact ih
  | some f=>exact ⟨hw.on f (List.mem_of_getElem? h),ih⟩
theorem kpr {id:Nat} (plan:List (Nat×Nat)) (is:List Nat) (h:K ds A n env l (BH P os.toArray Q (λw=>Dh (U2 is l) w) (wpList P os.toArray Q (os.drop plan.length)) (Dz os.toArray plan))) (hm:P.follows .mixedOrders=true:=by kernel_rfl)
  (hB:Sl os plan=true:=by kernel_rfl)
  (hQ:∀ c a d v w,Q (.panic c) (Act.put a d v) w->Q (.panic c) a w:=by (intro _ _ d _ _ h;cases d <;> exact h)):K ds A n env l ((Code.region id os.toArray true).wp P Q) :=
 Xz plan _ hm hB hQ (λ_ hw=>Y0 hw.sat is) h
theorem LP {id:Nat} (plan:List (Nat×Nat)) (s:List Am) (hS:∀ w,St A l w->Dh s w) (h:K ds A n env l (BH P os.toArray Q (λw=>Dh s w) (wpList P os.toArray Q (os.drop plan.length)) (Dz os.toArray plan))) (hm:P.follows .mixedOrders=true:=by kernel_rfl)
  (hB:Sl os plan=true:=by kernel_rfl)
  (hQ:∀ c a d v w,Q (.panic c) (Act.put a d v) w->Q (.panic c) a w:=by (intro _ _ d _ _ h;cases d <;> exact h)):K ds A n env l ((Code.region id os.toArray true).wp P Q) :=
 Xz plan _ hm hB hQ hS h
theorem B_ (js:List Nat) {s:List Am} (hs:U2 js l=s) (h:K ds A n env l q):K ds A n env l (λa w=>Dh s w/\q a w):=IY (λ_ hw=>hs ▸ Y0 hw.sat js) h
theorem kpt (h:K ds A n env l (λa w=>o.wp P a w (λa w=>S w/\BH P ops Q S tail pl a w) Q)) (hg:BK ops env o=some true:=by kernel_rfl):K ds A n env l (BH P ops Q S tail ((o,1) :: pl)):=Aiv hg h
theorem B7 (i off:Nat) {s:List Am} {b:Nat} {cs:Array Value} {T:TypeId} {z:Nat×Nat} (hi:s[i]? = some (blk b (.cells cs T z))) (hk:K ds A n (Bk env o.dst (cs.getD off undef)) l (BH P ops Q (λw=>Dh s w) tail pl)) (hg:BK ops env o=some true:=by kernel_rfl) (hs:(D8 o.op && allB o.op.operands.toList env && inB n o.dst)=true:=by kernel_rfl)
  (hf:follow P (execOp (rho env) o) ((cut cs off 1).map .val)=some (.value (cs.getD off undef),lds b off (cut cs off 1)):=by kernel_rfl):K ds A n env l (BH P ops Q (λw=>Dh s w) tail ((o,3) :: pl)):=X4 s _ _ hg hs hf (λ_ h=>h) (Px hi _ _ λ_ _ h=>QK h) hk
theorem H5 (i off m:Nat) {s:List Am} {b:Nat} {cs:Array Value} {T:TypeId} {z:Nat×Nat} (hi:s[i]? = some (blk b (.cells cs T z))) (hk:K ds A n (Bk env o.dst (.agg (cut cs off m).toArray)) l (BH P ops Q (λw=>Dh s w) tail pl)) (hg:BK ops env o=some true:=by kernel_rfl) (hs:(D8 o.op && allB o.op.operands.toList env && inB n o.dst)=true:=by kernel_rfl)
  (hf:follow P (execOp (rho env) o) ((cut cs off m).map .val)=some (.value (.agg (cut cs off m).toArray),lds b off (cut cs off m)):=by kernel_rfl):K ds A n env l (BH P ops Q (λw=>Dh s w) tail ((o,3) :: pl)):=X4 s _ _ hg hs hf (λ_ h=>h) (Px hi _ _ λ_ _ h=>QK h) hk
theorem ksr {id:Nat} {y:Code} (h:K ds A n env l (wpList P os.toArray (Exit.then (y.wp P Q) Q) os)):K ds A n env l ((Code.seq (Code.region id os.toArray false) y).wp P Q):=AU (AK h)
theorem G (h:K ds A n env l next) (he:os=[]:=by rfl):K ds A n env l (wpList P ops (Exit.then next Q) os):=he ▸ M7 (As h)
theorem AP {id:Nat} {y:Code} {os':List Oper} {Q':Exit->Act->World->Prop} (h:K ds A n env l (wpList P os.toArray (Exit.then (y.wp P Q) Q) os)) (he:os'=[]:=by rfl):K ds A n env l (wpList P ops (Exit.then ((Code.seq (Code.region id os.toArray false) y).wp P Q) Q') os'):=he ▸ M7 (As (AU (AK h)))
theorem CY {id:Nat} {os':List Oper} {Q':Exit->Act->World->Prop} (h:K ds A n env l (wpList P os.toArray Q os)) (he:os'=[]:=by rfl):K ds A n env l (wpList P ops (Exit.then ((Code.region id os.toArray false).wp P Q) Q') os'):=he ▸ M7 (As (AK h))
theorem knl (h:K ds A n env l (Q .normal)) (he:os=[]:=by rfl):K ds A n env l (wpList P ops Q os):=he ▸ M7 h
theorem BF (h:K ds A n env l tail) (he:pl=[]:=by rfl):K ds A n env l (BH P ops Q S tail pl):=he ▸ Air h
theorem sb {sub:Env} (h:picks (sub.map (·.1)) env=some (sub.map (·.2)):=by kernel_rfl):Sub env sub:=U3 h
theorem gr {k:Nat} {v:Value} (h:env.get k=some v:=by kernel_rfl):env.get k=some v:=h
theorem gb {k:Nat} {t q:Bool} (h:t=q) (hk:env.get k=some (.bool t):=by kernel_rfl):env.get k=some (.bool q):=h ▸ hk
theorem Ail {fn:Func} {β ε:Type} {x:β} {fl:ε->Value} {Ae:β->Ending->List Am->Prop} {v:Value} {L:List Am} (hD:Ae x (.returned v) L) (hl:l=L++X) (hr:hasAll fn.results.toList env=true:=by kernel_rfl) (hf:follow P (JH fn.results (JI env)) []=some (v,[]):=by kernel_rfl) :
  K [] A n env l (bodyPost P fn (λe w'=>∃ l1,PR.Post fl Ae (.ok x) e l1/\St A (l1++X) w') .ret):=by
 subst hl;exact F7 [] [] L hr hf trivial λa w ha hw=>⟨hD,hw⟩
theorem t2 {α:Type} {x a0 a1:α} {r:List α} (h:x ∈ r):x ∈ a0 :: a1 :: r:=.tail _ (.tail _ (h))
theorem t3 {α:Type} {x a0 a1 a2:α} {r:List α} (h:x ∈ r):x ∈ a0 :: a1 :: a2 :: r:=.tail _ (.tail _ (.tail _ (h)))
theorem t4 {α:Type} {x a0 a1 a2 a3:α} {r:List α} (h:x ∈ r):x ∈ a0 :: a1 :: a2 :: a3 :: r:=.tail _ (.tail _ (.tail _ (.tail _ (h))))
theorem t5 {α:Type} {x a0 a1 a2 a3 a4:α} {r:List α} (h:x ∈ r):x ∈ a0 :: a1 :: a2 :: a3 :: a4 :: r:=.tail _ (.tail _ (.tail _ (.tail _ (.tail _ (h)))))
theorem t7 {α:Type} {x a0 a1 a2 a3 a4 a5 a6:α} {r:List α} (h:x ∈ r):x ∈ a0 :: a1 :: a2 :: a3 :: a4 :: a5 :: a6 :: r:=.tail _ (.tail _ (.tail _ (.tail _ (.tail _ (.tail _ (.tail _ (h)))))))
theorem t9 {α:Type} {x a0 a1 a2 a3 a4 a5 a6 a7 a8:α} {r:List α} (h:x ∈ r):x ∈ a0 :: a1 :: a2 :: a3 :: a4 :: a5 :: a6 :: a7 :: a8 :: r:=.tail _ (.tail _ (.tail _ (.tail _ (.tail _ (.tail _ (.tail _ (.tail _ (.tail _ (h)))))))))
end
section
variable {A:World} {ds:List Deferred} {n n0:Nat} {env env':Env} {l l' X:List Am} {P:Program} {Q:Exit->Act->World->Prop} {ops:Array Oper} {os rest:List Oper} {o:Oper} {S:World->Prop} {tail:Act->World->Prop} {pl:List (Oper×Nat)} {α:Type} {R:KW α}
theorem Eh {s:Ah} {kd:IntKind} {i:Int} {c:UInt8} {t:TypeId} {x ix:Operand} (ho:o.op=.index t x ix) (hc:C2 s i=some c) (h:K ds A n (Bk env o.dst (.int .u8 c.toNat)) l (wpList P ops Q rest)) (hg:BK ops env o=some true:=by kernel_rfl) (hd:inB n o.dst=true:=by kernel_rfl) (hx:B9 env x=some (.string s):=by kernel_rfl) (hi:B9 env ix=some (.int kd i):=by kernel_rfl) (ht:P.underlying t=some .string:=by kernel_rfl):K ds A n env l (wpList P ops Q (o :: rest)):=Bop ho hg hd hx hi ht hc h
theorem Df {T TS U:TypeId} {sz bytes:Nat} {i:TypeInfo} {z:Value} {h hy:Am} {v y:Value} {xs ys xs':List α} {s x:Operand} (ho:o.op=.call { callee:=.builtin .append,args:=#[s,x],argTypes:=#[TS,U] }) (he:G0 P TS T sz bytes i z) (hsz:sz=R.sz) (hap:apd bytes xs ys=some xs') (hO:Bi R T h v xs) (hY:Bi R T hy y ys) (hk:∀ h' a' c',Bi R T h' (.slice a' xs'.length c') xs'->K ds A n0 (Bk env o.dst (.slice a' xs'.length c')) (h' :: l) (wpList P ops Q rest)) (hg:BK ops env o=some true:=by kernel_rfl) (hd:inB n0 o.dst=true:=by kernel_rfl) (hs:B9 env s=some v:=by kernel_rfl) (hx:B9 env x=some y:=by kernel_rfl) (hu:I_ P U=true:=by kernel_rfl):K ds A n0 env (h :: hy :: l) (wpList P ops Q (o :: rest)):=Bn7 ho he hsz hg hd hs hx hu hap hO hY hk
theorem Im {α:Type} {E:α->List Value} {xs:List α} {a:α} {ix:Int} {kd:IntKind} {h:Am} {A':AG} {c:Nat} {T TS:TypeId} {sz:Nat} {x y:Operand} (hE:En E sz) (ho:o.op=.indexAddr TS x y) (hi:Bm xs ix=some a) (hR:Ce E sz h (.slice A' xs.length c) xs) (hk:∀ p,Elem h p (E a)->Place A' (ix.toNat * sz) p->K ds A n0 (Bk env o.dst p) l (wpList P ops Q rest)) (hg:BK ops env o=some true:=by kernel_rfl) (hd:inB n0 o.dst=true:=by kernel_rfl) (hx:B9 env x=some (.slice A' xs.length c):=by kernel_rfl) (hy:B9 env y=some (.int kd ix):=by kernel_rfl) (h1:P.underlying TS=some (.slice T):=by kernel_rfl) (h2:(P.info? T).map (·.size)=some sz:=by kernel_rfl):K ds A n0 env l (wpList P ops Q (o :: rest)):=Bok hE ho hg hd hx hy h1 h2 hi hR hk
theorem DA {xs:List α} {a:α} {ix:Int} {kd:IntKind} {h:Am} {A':AG} {c:Nat} {T TS:TypeId} {x y:Operand} (ho:o.op=.indexAddr TS x y) (hi:Bm xs ix=some a) (hR:RdR R h (.slice A' xs.length c) xs) (hk:∀ p us,R.rd a h us->Elem h p us->Place A' (ix.toNat * R.sz) p->K ds A n0 (Bk env o.dst p) l (wpList P ops Q rest)) (hg:BK ops env o=some true:=by kernel_rfl) (hd:inB n0 o.dst=true:=by kernel_rfl) (hx:B9 env x=some (.slice A' xs.length c):=by kernel_rfl) (hy:B9 env y=some (.int kd ix):=by kernel_rfl) (h1:P.underlying TS=some (.slice T):=by kernel_rfl) (h2:(P.info? T).map (·.size)=some R.sz:=by kernel_rfl):K ds A n0 env l (wpList P ops Q (o :: rest)):=Bol ho hg hd hx hy h1 h2 hi hR hk
theorem M8 {h:Am} {p:Value} {us:List Value} {T:TypeId} {k off k0:Nat} {A':AG} {x:Operand} (ho:o.op=.fieldAddr T x k) (hE:Elem h p us) (hp:Place A' k0 p) (hk:∀ p',Elem h p' (us.drop off)->Place A' (k0+off) p'->K ds A n0 (Bk env o.dst p') l (wpList P ops Q rest)) (hg:BK ops env o=some true:=by kernel_rfl) (hd:inB n0 o.dst=true:=by kernel_rfl) (hx:B9 env x=some p:=by kernel_rfl) (hT:(match P.underlying T with | some (.struct fs)=>(match fs[k]? with | some f=>(match (P.info? f.type).map (·.size) with | some (s+1)=>some f.offset | _=>none) | none=>none) | _=>none)=some off:=by kernel_rfl):K ds A n0 env l (wpList P ops Q (o :: rest)):=Boj ho hg hd hx hT hE hp hk
theorem DH {h:Am} {p:Value} {us:List Value} {T:TypeId} {x:Operand} (ho:o.op=.load T x) (hE:Elem h p us) (hm:h ∈ l) (hk:K ds A n0 (Bk env o.dst (.agg us.toArray)) l (wpList P ops Q rest)) (hg:BK ops env o=some true:=by kernel_rfl) (hd:inB n0 o.dst=true:=by kernel_rfl) (hx:B9 env x=some p:=by kernel_rfl) (hT:(match P.underlying T with | some (.struct _)=>true | some (.array _ _)=>true | _=>false)=true:=by kernel_rfl) (hs:(P.info? T).map (·.size)=some us.length:=by kernel_rfl):K ds A n0 env l (wpList P ops Q (o :: rest)):=Bom ho hg hd hx hT hs hE hm hk
theorem MA {α:Type} {E:α->List Value} {xs:List α} {a:α} {ix:Int} {kd:IntKind} {h:Am} {A':AG} {c:Nat} {T TS:TypeId} {sz:Nat} {x y:Operand} (hE:En E sz) (ho:o.op=.indexAddr TS x y) (hi:Bm xs ix=some a) (hR:Ce E sz h (.slice A' xs.length c) xs) (hk:∀ p,Elem h p (E a)->Place A' (ix.toNat * sz) p->K ds A n0 (Bk env o.dst p) l (BH P ops Q S tail pl)) (hg:BK ops env o=some true:=by kernel_rfl) (hd:inB n0 o.dst=true:=by kernel_rfl) (hx:B9 env x=some (.slice A' xs.length c):=by kernel_rfl) (hy:B9 env y=some (.int kd ix):=by kernel_rfl) (h1:P.underlying TS=some (.slice T):=by kernel_rfl) (h2:(P.info? T).map (·.size)=some sz:=by kernel_rfl):K ds A n0 env l (BH P ops Q S tail ((o,0) :: pl)):=Bo7 hE ho hg hd hx hy h1 h2 hi hR hk
theorem X6 {h:Am} {p:Value} {us:List Value} {T:TypeId} {k off k0:Nat} {A':AG} {x:Operand} (ho:o.op=.fieldAddr T x k) (hE:Elem h p us) (hp:Place A' k0 p) (hk:∀ p',Elem h p' (us.drop off)->Place A' (k0+off) p'->K ds A n0 (Bk env o.dst p') l (BH P ops Q S tail pl)) (hg:BK ops env o=some true:=by kernel_rfl) (hd:inB n0 o.dst=true:=by kernel_rfl) (hx:B9 env x=some p:=by kernel_rfl) (hT:(match P.underlying T with | some (.struct fs)=>(match fs[k]? with | some f=>(match (P.info? f.type).map (·.size) with | some (s+1)=>some f.offset | _=>none) | none=>none) | _=>none)=some off:=by kernel_rfl):K ds A n0 env l (BH P ops Q S tail ((o,0) :: pl)):=Bo6 ho hg hd hx hT hE hp hk
theorem Gn {h:Am} {p:Value} {us:List Value} {T:TypeId} {x:Operand} (ho:o.op=.load T x) (hE:Elem h p us) (hm:∀ w,S w->h.On w) (hk:K ds A n0 (Bk env o.dst (.agg us.toArray)) l (BH P ops Q S tail pl)) (hg:BK ops env o=some true:=by kernel_rfl) (hd:inB n0 o.dst=true:=by kernel_rfl) (hx:B9 env x=some p:=by kernel_rfl) (hT:(match P.underlying T with | some (.struct _)=>true | some (.array _ _)=>true | _=>false)=true:=by kernel_rfl) (hs:(P.info? T).map (·.size)=some us.length:=by kernel_rfl):K ds A n0 env l (BH P ops Q S tail ((o,3) :: pl)):=Bpa ho hg hd hx hT hs hE hm hk
theorem DG {α:Type} {E:α->List Value} {xs ys xs':List α} {T TS U:TypeId} {sz bytes:Nat} {i:TypeInfo} {z:Value} {h:Am} {v y:Value} {s x:Operand} (hE:En E sz) (ho:o.op=.call { callee:=.builtin .append,args:=#[s,x],argTypes:=#[TS,U] }) (he:G0 P TS T sz bytes i z) (hap:apd bytes xs ys=some xs') (hO:AC E T sz h v xs) (hsrc:∀ w,Sat (h :: l) w->Src P sz w y ys.length (ys.flatMap E)) (hk:∀ h' a' c',AC E T sz h' (.slice a' xs'.length c') xs'->K ds A n0 (Bk env o.dst (.slice a' xs'.length c')) (h' :: l) (wpList P ops Q rest)) (hg:BK ops env o=some true:=by kernel_rfl) (hd:inB n0 o.dst=true:=by kernel_rfl) (hs:B9 env s=some v:=by kernel_rfl) (hx:B9 env x=some y:=by kernel_rfl) (hu:I_ P U=true:=by kernel_rfl):K ds A n0 env (h :: l) (wpList P ops Q (o :: rest)):=Aim hE ho he hg hd hs hx hu hap hO hsrc hk
theorem H6 {xs:List α} {a:α} {ix:Int} {kd:IntKind} {h:Am} {A':AG} {c:Nat} {T TS:TypeId} {x y:Operand} (ho:o.op=.indexAddr TS x y) (hi:Bm xs ix=some a) (hR:RdR R h (.slice A' xs.length c) xs) (hk:∀ p us,R.rd a h us->Elem h p us->Place A' (ix.toNat * R.sz) p->K ds A n0 (Bk env o.dst p) l (BH P ops Q S tail pl)) (hg:BK ops env o=some true:=by kernel_rfl) (hd:inB n0 o.dst=true:=by kernel_rfl) (hx:B9 env x=some (.slice A' xs.length c):=by kernel_rfl) (hy:B9 env y=some (.int kd ix):=by kernel_rfl) (h1:P.underlying TS=some (.slice T):=by kernel_rfl) (h2:(P.info? T).map (·.size)=some R.sz:=by kernel_rfl):K ds A n0 env l (BH P ops Q S tail ((o,0) :: pl)):=Bo9 ho hg hd hx hy h1 h2 hi hR hk
end
def Gr.f (_k:Nat) (a0:Int):Option (Bool):=(cond (decide (a0 >= 0)) (cond (decide (a0<=1114111)) (cond (decide (a0 < 55296)) (some true) (some (decide (a0 > 57343)))) (some false)) (some false):Option Bool).bind λq1=>some (q1)
theorem Gr.ok {k:Nat} {a0:Int} {r:Bool} (h:Gr.f k a0=some r): Ct Tryz.prog 82 #[V a0] [] [] (λe l1=>e=.returned (bv r)/\l1=[]):=by
 refine BC Tryz.func82 I (AY I) ?_;intro A X hh_;unfold Gr.f at h;refine ksr (M 1 (G (N h λq1 hq1 h=>?_)));refine C5 [(2,bv q1)] (X) ?_ ?_;clear hq1;refine AT ?_;obtain rfl:=Ap h;exact kdn I;have h:=hq1;clear hq1;refine AK (M 3 (Bt 5 h (λh=>?_) λh=>?_));refine M 4 (Bt 9 h (λh=>?_) λh=>?_);refine M 3 (Bt 12 h (λh=>?_) λh=>?_);exact M 5 (G (AW ⟨gb (Ap h),Aj⟩));exact M 5 (G (AW ⟨gb (Ap h),Aj⟩));exact M 8 (G (AW ⟨gb (Ap h),Aj⟩));exact M 12 (G (AW ⟨gb (Ap h),Aj⟩))
def Ky.f (_k:Nat) (a0:Int):Option (Int):=A2 (λ(x1:Int)=>A2 (λ(x3:Int)=>A2 (λ(x5:Int)=>some (x5)) (λJ6=>cond (decide (a0 >= 65536)) (J6 (Ar (x3+1))) (J6 x3))) (λJ4=>cond (decide (a0 >= 2048)) (J4 (Ar (x1+1))) (J4 x1))) (λJ2=>cond (decide (a0 >= 128)) (J2 (Ar (1+1))) (J2 1))
theorem Ky.ok {k:Nat} {a0 r:Int} (h:Ky.f k a0=some r): Ct Tryz.prog 83 #[V a0] [] [] (λe l1=>e=.returned (V r)/\l1=[]):=by
 refine BC Tryz.func83 I (AY I) ?_;intro A X hh_;unfold Ky.f at h;refine ksr (M 1 (AP (M 1 (G ?_))));obtain ⟨J2,hJ2,h⟩:=By h;refine Bz (τ:=Int) (λt=>[(0,V a0),(3,V t)]) (λt=>X) (λt=>J2 t=some r) ?_ ?_;rintro x1 h;subst hJ2;obtain ⟨J4,hJ4,h⟩:=By h;refine Bz (τ:=Int) (λt=>[(0,V a0),(3,V t)]) (λt=>X) (λt=>J4 t=some r) ?_ ?_;rintro x3 h;subst hJ4;obtain ⟨J6,hJ6,h⟩:=By h;refine Bz (τ:=Int) (λt=>[(3,V t)]) (λt=>X) (λt=>J6 t=some r) ?_ ?_;rintro x5 h;subst hJ6;refine ksr (M 2 (G (AT ?_)));obtain rfl:=Ap h;exact kdn I;refine ksr (M 2 (G (At h (λh=>?_) λh=>?_)));exact AK (M 3 (G (AA (Ar (x3+1)) h sb I)));exact AF (As (AA x3 h sb I));refine ksr (M 2 (G (At h (λh=>?_) λh=>?_)));exact AK (M 3 (G (AA (Ar (x1+1)) h sb I)));exact AF (As (AA x1 h sb I));refine ksr (M 2 (G (At h (λh=>?_) λh=>?_)));exact AK (M 3 (G (AA (Ar (1+1)) h sb I)));exact AF (As (AA 1 h sb I))
def Ma.f (_k:Nat) (a0:Int):Option (Bool):=(cond (decide (a0 >= 48)) (some (decide (a0<=57))) (some false):Option Bool).bind λq1=>some (q1)
theorem Ma.ok {k:Nat} {a0:Int} {r:Bool} (h:Ma.f k a0=some r): Ct Tryz.prog 42 #[V a0] [] [] (λe l1=>e=.returned (bv r)/\l1=[]):=by
 refine BC Tryz.func42 I (AY I) ?_;intro A X hh_;unfold Ma.f at h;refine ksr (M 1 (G (N h λq1 hq1 h=>?_)));refine C5 [(2,bv q1)] (X) ?_ ?_;clear hq1;refine AT ?_;obtain rfl:=Ap h;exact kdn I;have h:=hq1;clear hq1;refine AK (M 3 (Bt 5 h (λh=>?_) λh=>?_));exact M 4 (G (AW ⟨gb (Ap h),Aj⟩));exact M 4 (G (AW ⟨gb (Ap h),Aj⟩))
def Mb.f (k:Nat) (a0:Int):Option (Bool):=(cond (decide (a0 >= 97)) (cond (decide (a0<=122)) (some true) (cond (decide (a0 >= 65)) (cond (decide (a0<=90)) (some true) (cond (a0 == 95) (some true) (cond (decide (a0 >= 128)) (cond (a0 != 65533) ((Gr.f k a0).bind λr9=>some r9) (some false)) (some false)))) (cond (a0 == 95) (some true) (cond (decide (a0 >= 128)) (cond (a0 != 65533) ((Gr.f k a0).bind λr13=>some r13) (some false)) (some false))))) (cond (decide (a0 >= 65)) (cond (decide (a0<=90)) (some true) (cond (a0 == 95) (some true) (cond (decide (a0 >= 128)) (cond (a0 != 65533) ((Gr.f k a0).bind λr19=>some r19) (some false)) (some false)))) (cond (a0 == 95) (some true) (cond (decide (a0 >= 128)) (cond (a0 != 65533) ((Gr.f k a0).bind λBY=>some BY) (some false)) (some false)))):Option Bool).bind λq1=>some (q1)
theorem Mb.ok {k:Nat} {a0:Int} {r:Bool} (h:Mb.f k a0=some r): Ct Tryz.prog 39 #[V a0] [] [] (λe l1=>e=.returned (bv r)/\l1=[]):=by
 refine BC Tryz.func39 I (AY I) ?_;intro A X hh_;unfold Mb.f at h;refine ksr (M 1 (G (N h λq1 hq1 h=>?_)));refine C5 [(2,bv q1)] (X) ?_ ?_;clear hq1;refine AT ?_;obtain rfl:=Ap h;exact kdn I;have h:=hq1;clear hq1;refine AK (M 3 (Bt 5 h (λh=>?_) λh=>?_));refine M 4 (Bt 9 h (λh=>?_) λh=>?_);exact M 24 (G (AW ⟨gb (Ap h),Aj⟩));refine M 3 (Bt 12 h (λh=>?_) λh=>?_);refine M 5 (Bt 17 h (λh=>?_) λh=>?_);exact M 16 (G (AW ⟨gb (Ap h),Aj⟩));refine M 4 (Bt 21 h (λh=>?_) λh=>?_);exact M 12 (G (AW ⟨gb (Ap h),Aj⟩));refine M 3 (Bt 24 h (λh=>?_) λh=>?_);refine M 4 (Bt 28 h (λh=>?_) λh=>?_);exact M 1 (N h λr9 hr9 h=>(CQ (Gr.ok hr9) trivial (M 3 (G (AW ⟨gb (Ap h),Aj⟩)))));exact M 5 (G (AW ⟨gb (Ap h),Aj⟩));exact M 9 (G (AW ⟨gb (Ap h),Aj⟩));refine M 9 (Bt 21 h (λh=>?_) λh=>?_);exact M 12 (G (AW ⟨gb (Ap h),Aj⟩));refine M 3 (Bt 24 h (λh=>?_) λh=>?_);refine M 4 (Bt 28 h (λh=>?_) λh=>?_);exact M 1 (N h λr13 GZ h=>(CQ (Gr.ok GZ) trivial (M 3 (G (AW ⟨gb (Ap h),Aj⟩)))));exact M 5 (G (AW ⟨gb (Ap h),Aj⟩));exact M 9 (G (AW ⟨gb (Ap h),Aj⟩));refine M 7 (Bt 12 h (λh=>?_) λh=>?_);refine M 5 (Bt 17 h (λh=>?_) λh=>?_);exact M 16 (G (AW ⟨gb (Ap h),Aj⟩));refine M 4 (Bt 21 h (λh=>?_) λh=>?_);exact M 12 (G (AW ⟨gb (Ap h),Aj⟩));refine M 3 (Bt 24 h (λh=>?_) λh=>?_);refine M 4 (Bt 28 h (λh=>?_) λh=>?_);exact M 1 (N h λr19 hr19 h=>(CQ (Gr.ok hr19) trivial (M 3 (G (AW ⟨gb (Ap h),Aj⟩)))));exact M 5 (G (AW ⟨gb (Ap h),Aj⟩));exact M 9 (G (AW ⟨gb (Ap h),Aj⟩));refine M 9 (Bt 21 h (λh=>?_) λh=>?_);exact M 12 (G (AW ⟨gb (Ap h),Aj⟩));refine M 3 (Bt 24 h (λh=>?_) λh=>?_);refine M 4 (Bt 28 h (λh=>?_) λh=>?_);exact M 1 (N h λBY Gi h=>(CQ (Gr.ok Gi) trivial (M 3 (G (AW ⟨gb (Ap h),Aj⟩)))));exact M 5 (G (AW ⟨gb (Ap h),Aj⟩));exact M 9 (G (AW ⟨gb (Ap h),Aj⟩))
def FC.l0:Nat->(a0:Ah)->(a1:Int)->(x3:Int)->(J7:Int->Option (Int×Int×Int))->(Cq:Int)->(x14:Int)->Option (Int×Int×Int)
 | 0,_,_,_,_,_,_=>none
 | m15+1,a0,a1,x3,J7,Cq,x14=>cond (decide (x14 < x3)) ((cond (decide (x3 > (Ar ((a0.size:Int) - a1)))) (some true) ((C2 a0 (Ar (a1+x14))).bind λc21:UInt8=>cond (decide ((c21.toNat:Int) < 128)) (some true) ((C2 a0 (Ar (a1+x14))).bind λc23:UInt8=>some (decide ((c23.toNat:Int) >= 192)))):Option Bool).bind λq17=>cond q17 (some (a1,1,65533)) ((C2 a0 (Ar (a1+x14))).bind λc19:UInt8=>FC.l0 m15 a0 a1 x3 J7 (Ar ((Ar ((Ar (Cq * 64))+(Ar (c19.toNat:Int)))) - 128)) (Ar (x14+1)))) (J7 Cq)
def FC.f (k:Nat) (a0:Ah) (a1:Int):Option (Int×Int×Int):=(C2 a0 a1).bind λc2:UInt8=>A2 (λ(x3:Int) (x4:Int)=>A2 (λ(x6:Int)=>((Gr.f k x6).bind λr10=>cond (!r10) (some true) ((Ky.f k x6).bind λr12=>some (r12 != x3)):Option Bool).bind λq8=>cond q8 (some (a1,1,65533)) (some (a1,x3,x6))) (λJ7=>FC.l0 k a0 a1 x3 J7 x4 1)) (λJ5=>(cond (decide ((Ar (c2.toNat:Int)) >= 192)) (some (decide ((Ar (c2.toNat:Int)) < 224))) (some false):Option Bool).bind λq24=>cond q24 (J5 2 (Ar ((Ar (c2.toNat:Int)) - 192))) ((cond (decide ((Ar (c2.toNat:Int)) >= 224)) (some (decide ((Ar (c2.toNat:Int)) < 240))) (some false):Option Bool).bind λq26=>cond q26 (J5 3 (Ar ((Ar (c2.toNat:Int)) - 224))) ((cond (decide ((Ar (c2.toNat:Int)) >= 240)) (some (decide ((Ar (c2.toNat:Int)) < 248))) (some false):Option Bool).bind λq28=>cond q28 (J5 4 (Ar ((Ar (c2.toNat:Int)) - 240))) (cond (decide ((Ar (c2.toNat:Int)) >= 128)) (some (a1,1,65533)) (J5 1 (Ar (c2.toNat:Int)))))))
theorem FC.ok {k:Nat} {a0:Ah} {a1:Int} {r:Int×Int×Int} (h:FC.f k a0 a1=some r): Ct Tryz.prog 38 #[D a0,V a1] [] [] (λe l1=>e=.returned (.agg #[V r.1,V r.2.1,V r.2.2])/\l1=[]):=by
 refine BC Tryz.func38 I (AY I) ?_;intro A X hh_;unfold FC.f at h;refine ksr (knp #[V 0,V 0,V 0] 86 λb1=>(AP (M 2 (N h λc2 hc2 h=>(Eh (kd:=.i64) I hc2 (M 2 (AP (M 1 (AP (M 2 (G ?_)))))))))));obtain ⟨J5,hJ5,h⟩:=By h;refine Bz (τ:=Int×Int) (λt=>[(0,D a0),(1,V a1),(4,pt b1),(6,V t.1),(7,V t.2)]) (λt=>bk b1 #[V 0,V 0,V 0] 86 :: X) (λt=>J5 t.1 t.2=some r) ?_ ?_;rintro ⟨x3,x4⟩ h;subst hJ5;obtain ⟨J7,hJ7,h⟩:=By h;refine Bz (τ:=Int) (λt=>[(1,V a1),(4,pt b1),(6,V x3),(7,V t)]) (λt=>bk b1 #[V 0,V 0,V 0] 86 :: X) (λt=>J7 t=some r) ?_ ?_;rintro x6 h;subst hJ7;refine AU (N h λq8 hq8 h=>?_);refine C5 [(1,V a1),(4,pt b1),(6,V x3),(7,V x6),(89,bv q8)] (bk b1 #[V 0,V 0,V 0] 86 :: X) ?_ ?_;clear hq8;refine At h (λh=>?_) λh=>?_;refine ksr (M 2 (AB 0 3 #[V a1,V 1,V 65533] (G (AT (Bh ?_)))));obtain rfl:=Ap h;exact Do 0 3 I [] (Ao (Bb ⟨I,I⟩));refine AF (As (ksr (M 4 (AB 0 3 #[V a1,V x3,V x6] (G (AT ?_))))));obtain rfl:=Ap h;exact Do 0 3 I [] (Ao (Bb ⟨I,I⟩));have h:=hq8;clear hq8;refine AK (M 1 (N h λr10 Ii h=>(CQ (Gr.ok Ii) trivial (M 2 (Bt 84 h (λh=>?_) λh=>?_)))));exact M 5 (G (AW ⟨gr,gr,gr,gr,gb (Ap h),Aj⟩));exact M 1 (N h λr12 LG h=>(CQ (Ky.ok LG) trivial (M 3 (G (AW ⟨gr,gr,gr,gr,gb (Ap h),Aj⟩)))));refine ksr (M 1 (G (Bq (CW (τ:=Int×Int) (λt=>[(0,D a0),(1,V a1),(4,pt b1),(6,V x3),(7,V t.1),(8,V t.2)]) (λt=>bk b1 #[V 0,V 0,V 0] 86 :: X) (λm t=>FC.l0 m a0 a1 x3 J7 t.1 t.2=some r) k (x4,1) h sb I ?_))));clear h;rintro m15 ⟨Cq,x14⟩ h;rcases m15 with _ | m15;simp [FC.l0] at h;simp only [FC.l0] at h;refine AU (ksr (M 3 (G (At h (λh=>?_) λh=>?_))));refine AF (As (AU (Bq (AU (N h λq17 JW h=>?_)))));refine C5 [(0,D a0),(1,V a1),(4,pt b1),(6,V x3),(7,V Cq),(8,V x14),(68,bv q17)] (bk b1 #[V 0,V 0,V 0] 86 :: X) ?_ ?_;clear JW;refine At h (λh=>?_) λh=>?_;refine ksr (M 2 (AB 0 3 #[V a1,V 1,V 65533] (G (AT (Bh (B3 (Bh (Bh (B3 (Bh ?_))))))))));obtain rfl:=Ap h;exact Do 0 3 I [] (Ao (Bb ⟨I,I⟩));exact AF (As (AK (M 6 (N h λc19 hc19 h=>(Eh (kd:=.i64) I hc19 (M 4 (knl (A_ (As (AK (M 3 (G (Cw m15 (Ar ((Ar ((Ar (Cq * 64))+(Ar (c19.toNat:Int)))) - 128),Ar (x14+1)) (Nat.lt_succ_self _) h sb I)))))))))))));have h:=JW;clear JW;refine AK (M 7 (Bt 53 h (λh=>?_) λh=>?_));exact M 15 (G (AW ⟨gr,gr,gr,gr,gr,gr,gb (Ap h),Aj⟩));refine M 4 (N h λc21 hc21 h=>(Eh (kd:=.i64) I hc21 (M 3 (Bt 61 h (λh=>?_) λh=>?_))));exact M 7 (G (AW ⟨gr,gr,gr,gr,gr,gr,gb (Ap h),Aj⟩));exact M 4 (N h λc23 N0 h=>(Eh (kd:=.i64) I N0 (M 2 (G (AW ⟨gr,gr,gr,gr,gr,gr,gb (Ap h),Aj⟩)))));exact CH (B6 (B6 (CI (As (AA Cq h sb I)))));refine N h λq24 N5 h=>?_;refine C5 [(0,D a0),(1,V a1),(4,pt b1),(5,V (Ar (c2.toNat:Int))),(6,V 1),(7,V (Ar (c2.toNat:Int))),(19,bv q24)] (bk b1 #[V 0,V 0,V 0] 86 :: X) ?_ ?_;clear N5;refine At h (λh=>?_) λh=>?_;exact AK (M 4 (G (AA (2,Ar ((Ar (c2.toNat:Int)) - 192)) h sb I)));refine N h λq26 N6 h=>?_;refine C5 [(0,D a0),(1,V a1),(4,pt b1),(5,V (Ar (c2.toNat:Int))),(6,V 1),(7,V (Ar (c2.toNat:Int))),(27,bv q26)] (bk b1 #[V 0,V 0,V 0] 86 :: X) ?_ ?_;clear N6;refine At h (λh=>?_) λh=>?_;exact AK (M 4 (G (AA (3,Ar ((Ar (c2.toNat:Int)) - 224)) h sb I)));refine N h λq28 Wx h=>?_;refine C5 [(0,D a0),(1,V a1),(4,pt b1),(5,V (Ar (c2.toNat:Int))),(6,V 1),(7,V (Ar (c2.toNat:Int))),(35,bv q28)] (bk b1 #[V 0,V 0,V 0] 86 :: X) ?_ ?_;clear Wx;refine At h (λh=>?_) λh=>?_;exact AK (M 4 (G (AA (4,Ar ((Ar (c2.toNat:Int)) - 240)) h sb I)));refine ksr (M 2 (G (At h (λh=>?_) λh=>?_)));refine ksr (M 2 (AB 0 3 #[V a1,V 1,V 65533] (G (AT (Bh ?_)))));obtain rfl:=Ap h;exact Do 0 3 I [] (Ao (Bb ⟨I,I⟩));exact AF (As (AA (1,Ar (c2.toNat:Int)) h sb I));have h:=Wx;clear Wx;refine AK (M 3 (Bt 32 h (λh=>?_) λh=>?_));exact M 3 (G (AW ⟨gr,gr,gr,gr,gr,gr,gb (Ap h),Aj⟩));exact M 3 (G (AW ⟨gr,gr,gr,gr,gr,gr,gb (Ap h),Aj⟩));have h:=N6;clear N6;refine AK (M 3 (Bt 24 h (λh=>?_) λh=>?_));exact M 3 (G (AW ⟨gr,gr,gr,gr,gr,gr,gb (Ap h),Aj⟩));exact M 3 (G (AW ⟨gr,gr,gr,gr,gr,gr,gb (Ap h),Aj⟩));have h:=N5;clear N5;refine AK (M 3 (Bt 16 h (λh=>?_) λh=>?_));exact M 3 (G (AW ⟨gr,gr,gr,gr,gr,gr,gb (Ap h),Aj⟩));exact M 3 (G (AW ⟨gr,gr,gr,gr,gr,gr,gb (Ap h),Aj⟩))
end
end Go.Proofs.YtaifddambjmiiaaGreatDoor
