/- Texts of mine for checkMemory_card, part 9. -/
import Derived.Lib.Strings
import Derived.Test.YteccladehmaglaaGreatDoorCmH
set_option linter.unusedSimpArgs false
set_option linter.unusedVariables false
set_option linter.unusedSectionVars false
namespace Go.Proofs.YteccladehmaglaaGreatDoor
set_option maxRecDepth 100000
section
open Go Go.RowKit Lx
theorem Rs.mono {w w1:RW} {x:PC Bo} {f:Bo->Bo} (h:Rs w x w1) (hf:∀ s,(f s).sl=s.sl/\(f s).cs=s.cs/\(f s).gl=s.gl):Rs w (x.th λs=>.ok (f s)) w1:=by
 cases x with
 | bad e=>exact h
 | ok s =>
  have h:w1=w.put s:=h;show w1=w.put (f s);rw [h];unfold RW.put;rw [(hf s).1,(hf s).2.1,(hf s).2.2]
theorem O0 {d:Nat} {w:RW} {lo:List Ah} {b:Tree} {lp:Bool} (h:w.er.1≠0):rB d w lo b lp=w:=by
 cases d with
 | zero=>rfl
 | succ d=>unfold rB;exact Ab6 h
section
variable {w:RW} {d:Nat} {ab:List Ah}
def SR (w:RW) (d:Nat) (ab:List Ah) (lp:Bool) (lp0:Int) (x:Tree):Prop:=∀ s:Bo,s.lp=lp0 ->
 Rs w (Bq d ab s x false) (CA d (w.put s) s.lo x lp).1/\∀ s',Bq d ab s x false=.ok s'->(CA d (w.put s) s.lo x lp).2=s'.lo/\s'.fs=s.fs/\s'.lp=s.lp
theorem Agx {lp:Bool} {lp0:Int}:∀ {l:List Tree} {s:Bo},s.lp=lp0->(∀ x ∈ l,SR w d ab lp lp0 x)->w.er.1=0 ->
  Rs w (CZ (λs x=>Bq d ab s x false) s l) (Hz (λw lo x=>CA d w lo x lp) (w.put s) s.lo l)/\∀ s',CZ (λs x=>Bq d ab s x false) s l=.ok s'->s'.fs=s.fs/\s'.lp=s.lp
 | [],s,_,_,_=>⟨rfl,λs' e=>by cases e;exact ⟨rfl,rfl⟩⟩
 | x :: l,s,hs,hx,h=>by
  obtain ⟨h1,h2⟩:=hx x (DT ..) s hs;have ht:=λ(s':Bo) (hs':s'.lp=lp0)=>Agx (l:=l) hs' (λy hy=>hx y (EM _ hy)) h;unfold CZ Hz;rw [if_neg (by rw [RW.Btb,h];simp)];refine ⟨h1.th (λs' e e'=>?_) λhe=>by rw [Ab6 he],λs' e=>?_⟩;obtain ⟨e1,e2,e3⟩:=h2 _ e;rw [e',e1];exact (ht s' (e3.trans hs)).1;obtain ⟨s1,e1,e2⟩:=Cv e;obtain ⟨_,e3,e4⟩:=h2 _ e1;obtain ⟨e5,e6⟩:=(ht s1 (e4.trans hs)).2 _ e2;exact ⟨e5.trans e3,e6.trans e4⟩
def BR (w:RW) (d:Nat) (ab:List Ah) (lp:Bool) (lp0:Int) (b:Tree):Prop:=∀ s:Bo,s.lp=lp0 ->
 Rs w (Bq d ab s b false) (rB d (w.put s) s.lo b lp)/\∀ s',Bq d ab s b false=.ok s'->Kp s s.lo s'
theorem A0i {lp:Bool} {lp0:Int} {t:Ah} {n a:Int} {l:List Tree} (h:w.er.1=0) (hg:MN l) (hx:∀ x ∈ l,SR w d ab lp lp0 x):BR w (d+1) ab lp lp0 (.mk 20 t n a l):=λs hs=>by
 obtain ⟨h1,h2⟩:=Agx hs hx h;have e:Bq (d+1) ab s (.mk 20 t n a l) false=(CZ (λs x=>Bq d ab s x false) s l).th λs'=>.ok { s' with lo:=s'.lo.take s.lo.length }:=by
  conv=>lhs;unfold Bq
  rw [if_pos rfl]
 rw [e];unfold rB;refine ⟨h1.mono (f:=λs'=>{ s' with lo:=s'.lo.take s.lo.length }) λ_=>⟨rfl,rfl,rfl⟩,λs' e=>?_⟩;obtain ⟨s1,e1,e2⟩:=Cv e;cases e2;obtain ⟨h3,h4⟩:=h2 _ e1;have hp:=Wo (λs x s' hx h=>JB ((Ka.1 hg) x hx) h) e1;exact ⟨Ade hp.pre,h3,h4⟩
theorem Ap8 {s:Bo} {a:Int} {names:List Tree} {b:Tree} (h:w.er.1=0) (h0:0<=s.lp) (hg:gw b) (hB:BR w d ab true (s.lp+1) b) :
  Rs w (Gu (λs x=>Bq d ab s x false) a s names b 3) (rB d ((w.put s).brings a s.lo names 3).1 ((w.put s).brings a s.lo names 3).2 b true) /\
   ∀ s',Gu (λs x=>Bq d ab s x false) a s names b 3=.ok s'->s'.lo=s.lo/\s'.fs=s.fs/\s'.lp=s.lp:=by
 obtain ⟨h1,h2⟩:=Ahc (s:=s) (a:=a) (l:=names) (n:=3) h;unfold Gu;rw [if_pos (by decide)];have e3:List.replicate 3 (⟨#[]⟩:Ah)=List.replicate 3 noB:=rfl;rw [e3];cases hb:Fy a s.sl (s.lo++List.replicate 3 noB) names with
 | bad e =>
  obtain ⟨ha,hc⟩:=h2 _ hb;refine ⟨?_,λs' e=>(by cases e)⟩;rw [O0 (by rw [ha];exact hc)];exact ⟨ha,hc⟩
 | ok r =>
  rw [h1 _ hb];obtain ⟨q1,q2⟩:=hB { s with sl:=r.1,lo:=r.2,lp:=s.lp+1 } rfl;have e:(w.put { s with sl:=r.1 })=w.put { s with sl:=r.1,lo:=r.2,lp:=s.lp+1 }:=rfl;refine ⟨?_,λs' e=>?_⟩;show Rs w (PR.th (Bq d ab { s with sl:=r.1,lo:=r.2,lp:=s.lp+1 } b false) _) (rB d (w.put { s with sl:=r.1 }) r.2 b true);rw [e];exact q1.mono (f:=λs'=>{ s' with lo:=s'.lo.take s.lo.length,lp:=s'.lp - 1 }) λ_=>⟨rfl,rfl,rfl⟩;obtain ⟨s1,e1,e2⟩:=Cv (show PR.th (Bq d ab { s with sl:=r.1,lo:=r.2,lp:=s.lp+1 } b false) _=.ok s' from e);cases e2;obtain ⟨k1,k2,k3⟩:=q2 _ e1;have hr:=(QI hb).1;refine ⟨?_,k2,by show s1.lp - 1=s.lp;rw [k3];show s.lp+1 - 1=s.lp;omega⟩;show s1.lo.take s.lo.length=s.lo;rw [k1];show r.2.take s.lo.length=s.lo;rw [hr,C8];simp
theorem Axo {s:Bo} {a:Int} {b:Tree} (h0:0<=s.lp) (hB:BR w d ab true (s.lp+1) b) :
  Rs w (Gu (λs x=>Bq d ab s x false) a s [] b 0) (rB d (w.put s) s.lo b true) /\
   ∀ s',Gu (λs x=>Bq d ab s x false) a s [] b 0=.ok s'->s'.lo=s.lo/\s'.fs=s.fs/\s'.lp=s.lp:=by
 unfold Gu;rw [if_neg (by decide)];obtain ⟨q1,q2⟩:=hB { s with lp:=s.lp+1 } rfl;refine ⟨?_,λs' e=>?_⟩;exact q1.mono (f:=λs'=>{ s' with lo:=s'.lo.take s.lo.length,lp:=s'.lp - 1 }) λ_=>⟨rfl,rfl,rfl⟩;obtain ⟨s1,e1,e2⟩:=Cv (show PR.th (Bq d ab { s with lp:=s.lp+1 } b false) _=.ok s' from e);cases e2;obtain ⟨k1,k2,k3⟩:=q2 _ e1;refine ⟨?_,k2,by show s1.lp - 1=s.lp;rw [k3];show s.lp+1 - 1=s.lp;omega⟩;show s1.lo.take s.lo.length=s.lo;rw [k1];simp
theorem Amh {lp:Bool} {lp0:Int} (h:w.er.1=0):∀ {l:List Tree} {s:Bo} {lo:List Ah},s.lo=lo->s.lp=lp0 ->
  (∀ x ∈ l,(x.kind=20/\BR w d ab lp lp0 x)\/(x.kind≠20/\∀ s:Bo,s.lo=lo->Rs w (Bq d ab s x false) (Co d lo (w.put s) x false)/\∀ s',Bq d ab s x false=.ok s'->Kp s lo s')) ->
  Rs w (CZ (λs x=>Bq d ab s x false) s l) (l.foldl (λw x=>if x.kind=20 then rB d w lo x lp else Co d lo w x false) (w.put s))/\∀ s',CZ (λs x=>Bq d ab s x false) s l=.ok s'->Kp s lo s'
 | [],s,lo,hs,_,_=>⟨rfl,λs' e=>by cases e;exact ⟨hs,rfl,rfl⟩⟩
 | x :: l,s,lo,hs,hp,hx=>by
  have hid:∀ {l:List Tree} {w:RW},w.er.1≠0->l.foldl (λw x=>if x.kind=20 then rB d w lo x lp else Co d lo w x false) w=w:=by
   intro l;induction l with
   | nil=>intro w _;rfl
   | cons y l ih =>
    intro w hw;rw [List.foldl_cons,O0 hw,Acf hw,ite_self];exact ih hw
  have ht:=λ(s':Bo) (hs':s'.lo=lo) (hp':s'.lp=lp0)=>Amh h (l:=l) hs' hp' λy hy=>hx y (EM _ hy);unfold CZ;rw [List.foldl_cons];have hd:Rs w (Bq d ab s x false) (if x.kind=20 then rB d (w.put s) lo x lp else Co d lo (w.put s) x false)/\∀ s',Bq d ab s x false=.ok s'->Kp s lo s':=by
   rcases hx x (DT ..) with ⟨h1,h2⟩ | ⟨h1,h2⟩;rw [if_pos h1,<- hs];exact h2 s hp;rw [if_neg h1];exact h2 s hs
  refine ⟨hd.1.th (λs' e e'=>?_) λhe=>by rw [hid he],λs' e=>?_⟩;rw [e'];exact (ht s' (hd.2 _ e).1 ((hd.2 _ e).2.2.trans hp)).1;obtain ⟨s1,e1,e2⟩:=Cv e;exact (hd.2 _ e1).trans ((ht s1 (hd.2 _ e1).1 ((hd.2 _ e1).2.2.trans hp)).2 _ e2)
end
theorem IsR.kinds:∀ {l:List Tree},IsR l->∀ x ∈ l,FH x\/IsE x
 | [],_,_,hx=>nomatch hx
 | [b],h,x,hx=>by
  cases h with
  | last hb=>obtain rfl:=Fc.1 hx;exact .inl hb
 | e :: b :: l,h,x,hx=>by
  cases h with
  | more h1 h2 h3 =>
   rcases List.mem_cons.1 hx with rfl | hx;exact .inr h1;rcases List.mem_cons.1 hx with rfl | hx;exact .inl h2;exact IsR.kinds h3 x hx
theorem FH.kind {b:Tree} (h:FH b):b.kind=20:=by cases h;rfl
theorem IsE.kind {x:Tree} (h:IsE x):x.kind≠20:=by
 cases x with
 | mk k t n a l=>have:=(IsX.kids (.inl h)).2.1;show k≠20;omega
theorem VX {l:List Tree} {b:Tree}:Cc (l++[b]) ((l++[b]).length - 1)=b:=by unfold Cc;simp
theorem Ts {l:List Tree} {b:Tree}:Cc (l++[b]) l.length=b:=by unfold Cc;simp
section
variable {w:RW} {ab:List Ah} {d:Nat} {s:Bo} {t:Ah} {n a:Int} {l:List Tree} {tg:Bool}
theorem XZ {c m:Int} {f:PC Bo} {g:RW->RW} (h:w.er.1=0) (h1:Rs w f (g (w.put s))) (h2:∀ w':RW,w'.er.1≠0->(g w').er=w'.er):Rs w ((Dv a c m).th λ_=>f) (g ((w.put s).few a c m)) :=
 Ai6 h (λe=>by rw [e];exact h1) (h2 _)
theorem X_ {c m c' m':Int} {f:PC Bo} {g:RW->RW} (h:w.er.1=0) (h1:Rs w f (g (w.put s))) (h2:∀ w':RW,w'.er.1≠0->(g w').er=w'.er) :
  Rs w ((Dv a c m).th λ_=>(Dv a c' m').th λ_=>f) (g (((w.put s).few a c m).few a c' m')) :=
 XZ (g:=λw=>g (w.few a c' m')) h (XZ h h1 h2) λw' hw=>(h2 _ (RW.A5o hw)).trans (RW.SJ hw)
theorem XH {x:List Tree} (h:w.er.1=0) :
  (∀ r,Fy a s.sl s.lo x=.ok r->(w.put s).brings a s.lo x 0=(w.put { s with sl:=r.1 },r.2)) /\
   (∀ e,Fy a s.sl s.lo x=.bad e->((w.put s).brings a s.lo x 0).1.er=e/\e.1≠0):=by
 have:=Ahc (s:=s) (a:=a) (l:=x) (n:=0) h;rw [List.replicate_zero,List.append_nil] at this;exact this
theorem Blm:Bq (d+1) ab s (.mk 21 t n a l) tg=(Dv a n 50).th λ_=>(Dv a (l.length - n) 50).th λ_=>(CZ (λs x=>Bq d ab s x false) s (l.drop n.toNat)).th λs =>
  (Fy a s.sl s.lo (l.take n.toNat)).th λr=>.ok { s with sl:=r.1,lo:=r.2 }:=rfl
theorem Blo:Bq (d+1) ab s (.mk 22 t n a l) tg=(Dv a n 50).th λ_=>(Dv a (l.length - n) 50).th λ_=>KF (λs x b=>Bq d ab s x b) n 0 s l:=rfl
theorem Blp:Bq (d+1) ab s (.mk 25 t n a l) tg=(Bq d ab s (Cc l 0) false).th λs=>Gu (λs x=>Bq d ab s x false) a s [] (Cc l 1) 0:=rfl
theorem Blr:Bq (d+1) ab s (.mk 26 t n a l) tg=(CZ (λs x=>Bq d ab s x false) s ((l.drop 1).take (l.length - 2))).th λs=>Gu (λs x=>Bq d ab s x false) a s (l.take 1) (Cc l (l.length - 1)) 3:=rfl
theorem Bls:Bq (d+1) ab s (.mk 27 t n a l) tg=(Dv a n 50).th λ_=>(Dv a (l.length - 1 - n) 50).th λ_=>(CZ (λs x=>Bq d ab s x false) s ((l.drop n.toNat).take (l.length - 1 - n.toNat))).th λs =>
  Gu (λs x=>Bq d ab s x false) a s (l.take n.toNat) (Cc l (l.length - 1)) 3:=rfl
theorem Blv:Bq (d+1) ab s (.mk 29 t n a l) tg=if s.lp=0 then .bad (5,a) else .ok s:=rfl
theorem Blx:Bq (d+1) ab s (.mk 30 t n a l) tg=(Dv a (l.length:Nat) 50).th λ_=>CZ (λs x=>Bq d ab s x false) s l:=rfl
theorem Aai {k:Int} (h:k=23\/k=24\/k=28):Bq (d+1) ab s (.mk k t n a l) tg=CZ (λs x=>Bq d ab s x false) s l:=by
 rcases h with rfl | rfl | rfl <;> rfl
end
section
variable {w:RW} {ab:List Ah}
theorem Bk0 {d:Nat} {s:Bo} {a:Int} {x y:List Tree} (h:w.er.1=0)
  (hy:Rs w (CZ (λs x=>Bq d ab s x false) s y) (y.foldl (λw x=>Co d s.lo w x false) (w.put s))/\∀ s',CZ (λs x=>Bq d ab s x false) s y=.ok s'->Kp s s.lo s') :
  let f:=(CZ (λs x=>Bq d ab s x false) s y).th λs=>(Fy a s.sl s.lo x).th λr=>PR.ok { s with sl:=r.1,lo:=r.2 }
  Rs w f ((y.foldl (λw x=>Co d s.lo w x false) (w.put s)).brings a s.lo x 0).1 /\
   ∀ s',f=.ok s'->((y.foldl (λw x=>Co d s.lo w x false) (w.put s)).brings a s.lo x 0).2=s'.lo/\s'.fs=s.fs/\s'.lp=s.lp:=by
 intro f;obtain ⟨h1,h2⟩:=hy;have key:∀ s1,CZ (λs x=>Bq d ab s x false) s y=.ok s1->y.foldl (λw x=>Co d s.lo w x false) (w.put s)=w.put s1/\s1.lo=s.lo:=λs1 e=>⟨by rw [e] at h1;exact h1,(h2 _ e).1⟩;refine ⟨h1.th (λs1 e e'=>?_) λhe=>RW.OW he,λs' e=>?_⟩;obtain ⟨b1,b2⟩:=XH (w:=w) (s:=s1) (a:=a) (x:=x) h;rw [e',<- (key _ e).2];cases hb:Fy a s1.sl s1.lo x with
 | bad e=>exact b2 _ hb
 | ok r=>rw [b1 _ hb];rfl
 obtain ⟨s1,e1,e2⟩:=Cv e;obtain ⟨r,e3,e4⟩:=Cv e2;cases e4;obtain ⟨b1,_⟩:=XH (w:=w) (s:=s1) (a:=a) (x:=x) h;obtain ⟨k1,k2,k3⟩:=h2 _ e1;rw [(key _ e1).1,<- k1,b1 _ e3];exact ⟨rfl,k2,k3⟩
theorem Ajl {d:Nat} {s:Bo} {a:Int} {x y:List Tree} {b:Tree} (h:w.er.1=0) (h0:0<=s.lp) (hg:gw b) (hB:BR w d ab true (s.lp+1) b)
  (hy:Rs w (CZ (λs x=>Bq d ab s x false) s y) (y.foldl (λw x=>Co d s.lo w x false) (w.put s))/\∀ s',CZ (λs x=>Bq d ab s x false) s y=.ok s'->Kp s s.lo s') :
  let f:=(CZ (λs x=>Bq d ab s x false) s y).th λs=>Gu (λs x=>Bq d ab s x false) a s x b 3;let r:=(y.foldl (λw x=>Co d s.lo w x false) (w.put s)).brings a s.lo x 3
  Rs w f (rB d r.1 r.2 b true)/\∀ s',f=.ok s'->Kp s s.lo s':=by
 intro f r;obtain ⟨h1,h2⟩:=hy;refine ⟨h1.th (λs1 e e'=>?_) λhe=>?_,λs' e=>?_⟩;obtain ⟨k1,k2,k3⟩:=h2 _ e;have:=(Ap8 (a:=a) (names:=x) h (s:=s1) (by rw [k3];exact h0) hg (by rw [k3];exact hB)).1;show Rs w _ (rB d ((y.foldl (λw x=>Co d s.lo w x false) (w.put s)).brings a s.lo x 3).1 ((y.foldl (λw x=>Co d s.lo w x false) (w.put s)).brings a s.lo x 3).2 b true);rw [e',<- k1];exact this;rw [O0 (by rw [RW.OW he];exact he)];exact RW.OW he;obtain ⟨s1,e1,e2⟩:=Cv e;obtain ⟨k1,k2,k3⟩:=h2 _ e1;obtain ⟨q1,q2,q3⟩:=(Ap8 (a:=a) (names:=x) h (s:=s1) (by rw [k3];exact h0) hg (by rw [k3];exact hB)).2 _ e2;exact ⟨q1.trans k1,q2.trans k2,q3.trans k3⟩
theorem Ac5 (h:w.er.1=0) (hF:w.F < w.fs.length) (hab:w.ab=ab):∀ (d:Nat),
  (∀ (lp:Bool) (lp0:Int) (x:Tree),0<=lp0->(lp=true ↔ lp0≠0)->IsS x->gw x->sz x<=d->SR w d ab lp lp0 x) /\
  (∀ (lp:Bool) (lp0:Int) (x:Tree),0<=lp0->(lp=true ↔ lp0≠0)->FH x->gw x->sz x<=d->BR w d ab lp lp0 x)
 | 0=>⟨λ_ _ x _ _ _ _ hd=>by have:=M4 x;omega,λ_ _ x _ _ _ _ hd=>by have:=M4 x;omega⟩
 | d+1=>by
  obtain ⟨ihS,LC⟩:=Ac5 h hF hab d;constructor
  ·intro lp lp0 x h0 hlp hx hw hd s hs
   have X:=λ{lo:List Ah} {x:Tree} {s:Bo} {tg:Bool}=>Aim h hF hab d (lo:=lo) (x:=x) (s:=s) (tg:=tg);have XS:∀ {l:List Tree} {s:Bo} {lo:Av},s.lo=lo->KE l->A_ l<=d->Rs w (CZ (λs x=>Bq d ab s x false) s l) (l.foldl (λw x=>Co d lo w x false) (w.put s))/\∀ s',CZ (λs x=>Bq d ab s x false) s l=.ok s'->Kp s lo s':=λ{l s lo} hs hl hd =>
    XW h hs λy hy s hs=>X hs (.inl (hl y hy)) (by have:=IS hy;omega)
   have hL:∀ b,FH b->gw b->sz b<=d->BR w d ab true (s.lp+1) b:=λb hb hg hd=>LC true (s.lp+1) b (by omega) ⟨λ_=>by omega,λ_=>rfl⟩ hb hg hd;have h0':0<=s.lp:=by omega
   cases x with
   | mk k t n a l =>
   simp only [sz] at hd;obtain ⟨_,hgl⟩:=hw;have hgl:=Ka.1 hgl;cases hx with
   | @loc a t l m hl hm =>
    rw [Eb] at hd;have q:=Bk0 (w:=w) (ab:=ab) (a:=a) (x:=l) (y:=m) h (XS (s:=s) rfl hm (by omega));have e:CA (d+1) (w.put s) s.lo (.mk 21 t (l.length:Nat) a (l++m)) lp=((m.foldl (λw x=>Co d s.lo w x false) (((w.put s).few a (l.length:Nat) 50).few a ((l++m).length - (l.length:Nat)) 50)).brings a s.lo l 0):=by
     unfold CA;rw [if_neg (by decide),if_pos rfl];simp only [Int.toNat_natCast,List.drop_left,List.take_left]
    rw [e,Blm];simp only [Int.toNat_natCast,List.drop_left,List.take_left];refine ⟨X_ (g:=λw=>((m.foldl (λw x=>Co d s.lo w x false) w).brings a s.lo l 0).1) h q.1 λw' hw=>?_,λs' e=>?_⟩;rw [RW.OW (by rw [Mn hw];exact hw),Mn hw];obtain ⟨_,f1,e⟩:=Cv e;obtain ⟨_,f2,e⟩:=Cv e;have g1:∀ {c m:Int} {w:RW},Dv a c m=.ok ()->w.few a c m=w:=λ{c m w} e=>by unfold Dv at e;unfold RW.few;split at e;cases e;rename_i hc;rw [if_neg hc]
    rw [g1 f1,g1 f2];exact q.2 _ e
   | @asg a t l m hl hl2 hm hm2 =>
    have q:=Agh (d:=d) (ab:=ab) (n:=(l.length:Nat)) h (l:=l++m) (i:=0) (s:=s) rfl λx hx s b hs=>X hs (.inl (by
     rcases EL.1 hx with hx | hx;exact (hl2 x hx).1;exact hm2 x hx)) (by have:=IS hx;omega)
    rw [Blo];refine ⟨X_ (g:=λw=>IQ (λw x b=>Co d s.lo w x b) (l.length:Nat) 0 w (l++m)) h q.1 λw' hw=>by rw [Ab5 hw],λs' e=>?_⟩;obtain ⟨_,_,e⟩:=Cv e;obtain ⟨_,_,e⟩:=Cv e;obtain ⟨k1,k2,k3⟩:=q.2 _ e;exact ⟨k1.symm,k2,k3⟩
   | @run n a t x hx hk =>
    have q:=XS (l:=[x]) (s:=s) rfl (λy hy=>by obtain rfl:=Fc.1 hy;exact hx) (by omega);rw [Aai (.inl rfl)];exact ⟨q.1,λs' e=>by obtain ⟨k1,k2,k3⟩:=q.2 _ e;exact ⟨k1.symm,k2,k3⟩⟩
   | @if_ n a t l hl =>
    have q:=Amh (d:=d) (ab:=ab) (lp:=lp) (lp0:=lp0) h (l:=l) (s:=s) rfl hs λx hx=>by
     rcases IsR.kinds hl x hx with hb | he;exact .inl ⟨hb.kind,LC lp lp0 x h0 hlp hb (hgl x hx) (by have:=IS hx;omega)⟩;exact .inr ⟨he.kind,λs hs=>X hs (.inl he) (by have:=IS hx;omega)⟩
    rw [Aai (.inr (.inl rfl))];exact ⟨q.1,λs' e=>by obtain ⟨k1,k2,k3⟩:=q.2 _ e;exact ⟨k1.symm,k2,k3⟩⟩
   | @while_ n a t x b hx hb =>
    simp only [A_] at hd;have q1:=X (s:=s) (tg:=false) rfl (.inl hx) (by omega);have gb:gw b:=hgl b (by simp);rw [Blp];show Rs w ((Bq d ab s x false).th λs=>Gu (λs x=>Bq d ab s x false) a s [] b 0) (rB d (Co d s.lo (w.put s) x false) s.lo b true)/\∀ s',((Bq d ab s x false).th λs=>Gu (λs x=>Bq d ab s x false) a s [] b 0)=.ok s'->s.lo=s'.lo/\_;refine ⟨q1.1.th (λs1 e e'=>?_) λhe=>by rw [O0 he],λs' e=>?_⟩;obtain ⟨k1,k2,k3⟩:=q1.2 _ e;rw [e',<- k1];exact (Axo (a:=a) (by rw [k3];exact h0') (by rw [k3];exact hL b hb gb (by omega))).1;obtain ⟨s1,e1,e2⟩:=Cv e;obtain ⟨k1,k2,k3⟩:=q1.2 _ e1;obtain ⟨q1,q2,q3⟩:=(Axo (w:=w) (a:=a) (by rw [k3];exact h0') (by rw [k3];exact hL b hb gb (by omega))).2 _ e2;exact ⟨(q1.trans k1).symm,q2.trans k2,q3.trans k3⟩
   | @for_ n a t x b l hl he hb =>
    have gb:gw b:=hgl b (by simp);rw [Eb] at hd;simp only [A_] at hd;have q:=Ajl (w:=w) (ab:=ab) (a:=a) (x:=[x]) (y:=l) h h0' gb (hL b hb gb (by omega)) (XS (s:=s) rfl he (by omega));have e1:((x :: l++[b]).drop 1).take ((x :: l++[b]).length - 2)=l:=by simp
    have e2:(x :: l++[b]).take 1=[x]:=by simp
    have e3:Cc (x :: l++[b]) ((x :: l++[b]).length - 1)=b:=VX;have e:CA (d+1) (w.put s) s.lo (.mk 26 t n a (x :: l++[b])) lp=(rB d ((l.foldl (λw x=>Co d s.lo w x false) (w.put s)).brings a s.lo [x] 3).1 ((l.foldl (λw x=>Co d s.lo w x false) (w.put s)).brings a s.lo [x] 3).2 b true,s.lo):=by
     unfold CA;rw [if_neg (by decide),if_neg (by decide),if_neg (by decide),if_neg (by decide),if_neg (by decide),if_neg (by decide),if_pos rfl];simp only [e1,e2,e3]
    rw [e,Blr,e1,e2,e3];exact ⟨q.1,λs' e=>by obtain ⟨k1,k2,k3⟩:=q.2 _ e;exact ⟨k1.symm,k2,k3⟩⟩
   | @forIn a t b l m hl hm hm2 hb =>
    have gb:gw b:=hgl b (by simp);rw [Eb,Eb] at hd;simp only [A_] at hd;have q:=Ajl (w:=w) (ab:=ab) (a:=a) (x:=l) (y:=m) h h0' gb (hL b hb gb (by omega)) (XS (s:=s) rfl hm2 (by omega));have e1:((l++m++[b]).drop l.length).take ((l++m++[b]).length - 1 - l.length)=m:=by
     rw [C8,List.drop_left,show (l++(m++[b])).length - 1 - l.length=m.length by simp,List.take_left]
    have e2:(l++m++[b]).take l.length=l:=by rw [C8,List.take_left]
    have e3:Cc (l++m++[b]) ((l++m++[b]).length - 1)=b:=VX;have e:CA (d+1) (w.put s) s.lo (.mk 27 t (l.length:Nat) a (l++m++[b])) lp=(let r:=(m.foldl (λw x=>Co d s.lo w x false) (((w.put s).few a (l.length:Nat) 50).few a ((l++m++[b]).length - 1 - (l.length:Nat)) 50)).brings a s.lo l 3;(rB d r.1 r.2 b true,s.lo)):=by
     unfold CA;rw [if_neg (by decide),if_neg (by decide),if_neg (by decide),if_neg (by decide),if_neg (by decide),if_neg (by decide),if_neg (by decide),if_pos rfl];simp only [Int.toNat_natCast,e1,e2,e3]
    rw [e,Bls];simp only [Int.toNat_natCast,e1,e2,e3];refine ⟨X_ (g:=λw=>let r:=(m.foldl (λw x=>Co d s.lo w x false) w).brings a s.lo l 3;rB d r.1 r.2 b true) h q.1 λw' hw=>?_,λs' e=>?_⟩;have h1:((m.foldl (λw x=>Co d s.lo w x false) w').brings a s.lo l 3).1.er=w'.er:=by rw [RW.OW (by rw [Mn hw];exact hw),Mn hw]
    show (rB d _ _ b true).er=w'.er;rw [O0 (by rw [h1];exact hw),h1];obtain ⟨_,_,e⟩:=Cv e;obtain ⟨_,_,e⟩:=Cv e;obtain ⟨k1,k2,k3⟩:=q.2 _ e;exact ⟨k1.symm,k2,k3⟩
   | @do_ n a t b hb =>
    simp only [A_] at hd;have q:=LC lp lp0 b h0 hlp hb (hgl b (by simp)) (by omega) s hs;rw [Aai (.inr (.inr rfl))];have e:CZ (λs x=>Bq d ab s x false) s [b]=Bq d ab s b false:=by unfold CZ CZ;cases Bq d ab s b false <;> rfl
    rw [e];exact ⟨q.1,λs' e=>by obtain ⟨k1,k2,k3⟩:=q.2 _ e;exact ⟨k1.symm,k2,k3⟩⟩
   | @break_ n a t =>
    rw [Blv];show Rs w _ (if lp then w.put s else (w.put s).bad 5 a)/\∀ s':Bo,(if s.lp=0 then PR.bad (5,a) else PR.ok s)=.ok s'->s.lo=s'.lo/\s'.fs=s.fs/\s'.lp=s.lp;by_cases hz:s.lp=0;rw [if_pos hz];have hf:lp=false:=by cases lp with | false=>rfl | true=>exact absurd (hs ▸ hz) (hlp.1 rfl)
    rw [hf];exact ⟨⟨OV h (by decide),ne5⟩,λs' e=>(by cases e)⟩;rw [if_neg hz];have hf:lp=true:=hlp.2 (hs ▸ hz);rw [hf];exact ⟨rfl,λs' e=>by cases e;exact ⟨rfl,rfl,rfl⟩⟩
   | @ret n a t l hl =>
    have q:=XS (l:=l) (s:=s) rfl hl (by omega);rw [Blx];refine ⟨XZ (g:=λw=>l.foldl (λw x=>Co d s.lo w x false) w) h q.1 λw' hw=>by rw [Mn hw],λs' e=>?_⟩;obtain ⟨_,_,e⟩:=Cv e;obtain ⟨k1,k2,k3⟩:=q.2 _ e;exact ⟨k1.symm,k2,k3⟩
  intro lp lp0 x h0 hlp hx hw hd;cases hx with
  | @block n a t l hl =>
   simp only [sz] at hd;obtain ⟨_,hgl⟩:=hw;exact A0i h hgl λx hx=>ihS lp lp0 x h0 hlp (hl x hx) (Ka.1 hgl x hx) (by have:=IS hx;omega)
end
def tc:List DB->Nat
 | []=>0
 | r :: l=>r.2.2.2.2.length+tc l
theorem Adf:∀ (l m:List DB),tc (l++m)=tc l+tc m
 | [],m=>by simp [tc]
 | r :: l,m=>by simp only [List.cons_append,tc,Adf l m];omega
theorem Adg {r:DB}:∀ {l:List DB},r ∈ l->r.2.2.2.2.length<=tc l
 | x :: l,h=>by
  simp only [tc];rcases List.mem_cons.1 h with rfl | h;omega;have:=Adg h;omega
theorem Av3 {f:Int×List V3->Int×List V3} {n:Nat} (hf:∀ p,(f p).2.length<=p.2.length+n):∀ (l:List DB) (i:Nat),tc (l.modify i λr=>(r.1,r.2.1,r.2.2.1,f r.2.2.2))<=tc l+n
 | [],i=>by simp [tc]
 | r :: l,0=>by
  show (f r.2.2.2).2.length+tc l<=r.2.2.2.2.length+tc l+n;have:=hf r.2.2.2;omega
 | r :: l,i+1=>by
  show r.2.2.2.2.length+tc (l.modify i _)<=r.2.2.2.2.length+tc l+n;have:=Av3 hf l i;omega
def pw (w:RW):Nat:=w.fs.length+w.gl.length+tc w.fs
structure Gr (w w':RW) (n:Nat):Prop where
 pw:pw w'<=pw w+n
 len:w.fs.length<=w'.fs.length
 F:w'.F=w.F
 ab:w'.ab=w.ab
theorem Gr.refl (w:RW):Gr w w 0:=⟨Nat.le_refl _,Nat.le_refl _,rfl,rfl⟩
theorem Gr.trans {w w1 w2:RW} {n m:Nat} (h:Gr w w1 n) (h':Gr w1 w2 m):Gr w w2 (n+m):=⟨by have:=h.pw;have:=h'.pw;omega,Nat.le_trans h.len h'.len,h'.F.trans h.F,h'.ab.trans h.ab⟩
theorem Gr.weak {w w':RW} {n m:Nat} (h:Gr w w' n) (hm:n<=m):Gr w w' m:=⟨by have:=h.pw;omega,h.len,h.F,h.ab⟩
theorem QP {w:RW} {e a:Int}:Gr w (w.bad e a) 0:=by unfold RW.bad;split <;> exact ⟨Nat.le_refl _,Nat.le_refl _,rfl,rfl⟩
theorem Mp {w:RW} {a c m:Int}:Gr w (w.few a c m) 0:=by unfold RW.few;split;exact QP;exact Gr.refl w
theorem Pf {w:RW} {a c m c' m':Int}:Gr w ((w.few a c m).few a c' m') 0:=Mp.trans Mp
theorem Aj0 {w:RW} {f:Int×List V3->Int×List V3} {n:Nat} (hf:∀ p,(f p).2.length<=p.2.length+n):Gr w (w.mod f) n:=by
 refine ⟨?_,by simp [RW.mod],rfl,rfl⟩;have:=Av3 hf w.fs w.F;simp only [Go.Proofs.YteccladehmaglaaGreatDoor.pw,RW.mod,List.length_modify];omega
theorem Ajz {w:RW} {t:Ah}:Gr w (w.EZ t) 1:=⟨by have:=QF w.gl t;simp only [Go.Proofs.YteccladehmaglaaGreatDoor.pw,RW.EZ];omega,Nat.le_refl _,rfl,rfl⟩
theorem Yd {w:RW} {a:Int} {v:V3}:Gr w (w.const a v) 1:=by
 unfold RW.const;split;exact (Gr.refl w).weak (Nat.zero_le _);exact (Aj0 (n:=1) λp=>by simp).trans Mp
theorem A7c {w:RW} {a:Int} {t:Ah} {lo:List Ah}:Gr w (w.name a t lo) 1:=by
 unfold RW.name;split;exact QP.weak (Nat.zero_le _);split;exact Ajz;exact (Gr.refl w).weak (Nat.zero_le _)
theorem Ye:∀ {l:List Tree} {w:RW},Gr w (Gh w l) 0
 | [],w=>Gr.refl w
 | x :: l,w=>by
  unfold Gh;split;exact QP.trans Ye;exact Ye
theorem ML {w:RW} {a:Int} {lo:List Ah} {l:List Tree} {n:Nat}:Gr w (w.brings a lo l n).1 0/\(w.brings a lo l n).2.length=lo.length+n+l.length :=
 ⟨Ye.trans (Mp.trans (Aj0 (f:=λp=>RW.slots p ((lo++List.replicate n noB++l.map Tree.text).length:Nat)) (n:=0) λp=>Nat.le_refl _)),by simp [RW.brings,Nat.add_assoc]⟩
theorem V2 {f:RW->Tree->RW}:∀ {l:List Tree} {w:RW},(∀ x ∈ l,∀ w,Gr w (f w x) (sz x))->Gr w (l.foldl f w) (A_ l)
 | [],w,_=>Gr.refl w
 | x :: l,w,h=>by
  rw [List.foldl_cons];simp only [A_];exact (h x (DT ..) w).trans (V2 λy hy=>h y (EM _ hy))
theorem MM:∀ {d:Nat} {lo:List Ah} {w:RW} {x:Tree} {tg:Bool},Gr w (Co d lo w x tg) (sz x)
 | 0,_,w,_,_=>(Gr.refl w).weak (Nat.zero_le _)
 | d+1,lo,w,.mk k t n a l,tg=>by
  have all:∀ {w w':RW},Gr w w' 1->Gr w (l.foldl (λw x=>Co d lo w x false) w') (A_ l+1):=λh=>(h.trans (V2 λx _ w=>MM)).weak (by omega);unfold Co;simp only [sz];have z:Gr w w (A_ l+1):=(Gr.refl w).weak (Nat.zero_le _);split;exact z;split;exact all (Mp.weak (Nat.zero_le _));split;exact all (Mp.weak (Nat.zero_le _));split;exact all Yd;split;exact all Yd;split;exact all A7c;split;split;exact QP.weak (Nat.zero_le _);exact z;exact all ((Gr.refl w).weak (Nat.zero_le _))
theorem Mo {d:Nat} {lo:List Ah} {w:RW} {l:List Tree}:Gr w (l.foldl (λw x=>Co d lo w x false) w) (A_ l):=V2 λ_ _ _=>MM
theorem Yc {d:Nat} {lo:List Ah} {n:Int}:∀ {l:List Tree} {i:Nat} {w:RW},Gr w (IQ (λw x b=>Co d lo w x b) n i w l) (A_ l)
 | [],_,w=>Gr.refl w
 | x :: l,i,w=>by unfold IQ;simp only [A_];exact MM.trans Yc
section
variable {d:Nat} {w:RW} {lo:List Ah} {t:Ah} {n a:Int} {l m:List Tree} {b x:Tree} {lp:Bool}
theorem Atk:CA (d+1) w lo (.mk 21 t (l.length:Nat) a (l++m)) lp=(m.foldl (λw x=>Co d lo w x false) ((w.few a (l.length:Nat) 50).few a ((l++m).length - (l.length:Nat)) 50)).brings a lo l 0:=by
 unfold CA;rw [if_neg (by decide),if_pos rfl];simp only [Int.toNat_natCast,List.drop_left,List.take_left]
theorem Atl:CA (d+1) w lo (.mk 22 t n a l) lp=(IQ (λw x b=>Co d lo w x b) n 0 ((w.few a n 50).few a (l.length - n) 50) l,lo):=rfl
theorem Atm:CA (d+1) w lo (.mk 23 t n a l) lp=(l.foldl (λw x=>Co d lo w x false) w,lo):=rfl
theorem Atn:CA (d+1) w lo (.mk 24 t n a l) lp=(l.foldl (λw x=>if x.kind=20 then rB d w lo x lp else Co d lo w x false) w,lo):=rfl
theorem Ato:CA (d+1) w lo (.mk 25 t n a [x,b]) lp=(rB d (Co d lo w x false) lo b true,lo):=rfl
theorem Atp:CA (d+1) w lo (.mk 26 t n a (x :: l++[b])) lp=(let r:=(l.foldl (λw x=>Co d lo w x false) w).brings a lo [x] 3;(rB d r.1 r.2 b true,lo)):=by
 unfold CA;rw [if_neg (by decide),if_neg (by decide),if_neg (by decide),if_neg (by decide),if_neg (by decide),if_neg (by decide),if_pos rfl];simp only [show ((x :: l++[b]).drop 1).take ((x :: l++[b]).length - 2)=l by simp,show (x :: l++[b]).take 1=[x] by simp,show Cc (x :: l++[b]) ((x :: l++[b]).length - 1)=b from VX]
theorem Atq:CA (d+1) w lo (.mk 27 t (l.length:Nat) a (l++m++[b])) lp=(let r:=(m.foldl (λw x=>Co d lo w x false) ((w.few a (l.length:Nat) 50).few a ((l++m++[b]).length - 1 - (l.length:Nat)) 50)).brings a lo l 3;(rB d r.1 r.2 b true,lo)):=by
 have e1:((l++m++[b]).drop l.length).take ((l++m++[b]).length - 1 - l.length)=m:=by
  rw [C8,List.drop_left,show (l++(m++[b])).length - 1 - l.length=m.length by simp,List.take_left]
 have e2:(l++m++[b]).take l.length=l:=by rw [C8,List.take_left]
 have e3:Cc (l++m++[b]) ((l++m++[b]).length - 1)=b:=VX;unfold CA;rw [if_neg (by decide),if_neg (by decide),if_neg (by decide),if_neg (by decide),if_neg (by decide),if_neg (by decide),if_neg (by decide),if_pos rfl];simp only [Int.toNat_natCast,e1,e2,e3]
theorem Ats:CA (d+1) w lo (.mk 28 t n a [b]) lp=(rB d w lo b lp,lo):=rfl
theorem Atu:CA (d+1) w lo (.mk 29 t n a l) lp=(if lp then w else w.bad 5 a,lo):=rfl
theorem Atv:CA (d+1) w lo (.mk 30 t n a l) lp=(l.foldl (λw x=>Co d lo w x false) (w.few a (l.length:Nat) 50),lo):=rfl
theorem WP:CA (d+1) w lo (.mk 31 t (l.length:Nat) a (l++[b])) lp =
    (let w:=w.few a (w.fs.length:Nat) 100
     let w:=if Ej t then w.bad 5 a else w
     let w:=(w.few a (l.length:Nat) 50).EZ t;let w:RW:={ w with ab:=lo,F:=w.fs.length,fs:=w.fs++[(t,a,((l.length:Nat):Int),0,[])] };let r:=w.brings a [] l 0
     ({ rB d r.1 r.2 b false with F:=0,ab:=[] },lo)):=by
  unfold CA;rw [if_pos rfl];simp only [Int.toNat_natCast,List.take_left,Ts]
end
def GS (d:Nat) (x:Tree):Prop:=∀ (w:RW) (lo:List Ah) (lp:Bool),Gr w (CA d w lo x lp).1 (sz x)/\(CA d w lo x lp).2.length<=lo.length+sz x
def GB (d:Nat) (x:Tree):Prop:=∀ (w:RW) (lo:List Ah) (lp:Bool),Gr w (rB d w lo x lp) (sz x)
theorem Ajy {d:Nat} {lp:Bool}:∀ {l:List Tree} {w:RW} {lo:List Ah},(∀ x ∈ l,GS d x)->Gr w (Hz (λw lo x=>CA d w lo x lp) w lo l) (A_ l)
 | [],w,_,_=>Gr.refl w
 | x :: l,w,lo,h=>by
  unfold Hz;simp only [A_];split;exact (Gr.refl w).weak (Nat.zero_le _);exact (h x (DT ..) w lo lp).1.trans (Ajy λy hy=>h y (EM _ hy))
theorem QQ:∀ (d:Nat),(∀ x,IsS x->GS d x)/\(∀ x,FH x->GB d x)
 | 0=>⟨λx _ w lo lp=>⟨(Gr.refl w).weak (Nat.zero_le _),by show lo.length<=_;omega⟩,λx _ w lo lp=>(Gr.refl w).weak (Nat.zero_le _)⟩
 | d+1=>by
  obtain ⟨ihS,LC⟩:=QQ d;constructor;intro x hx w lo lp;cases hx with
  | @loc a t l m hl hm =>
   rw [Atk];obtain ⟨h1,h2⟩:=ML (w:=m.foldl (λw x=>Co d lo w x false) ((w.few a (l.length:Nat) 50).few a ((l++m).length - (l.length:Nat)) 50)) (a:=a) (lo:=lo) (l:=l) (n:=0);simp only [sz];have:=Fu l;rw [Eb];exact ⟨((Pf.trans Mo).trans h1).weak (by omega),by omega⟩
  | @asg a t l m hl hl2 hm hm2 =>
   rw [Atl];simp only [sz];exact ⟨(Pf.trans Yc).weak (by omega),by omega⟩
  | @run n a t x hx hk=>rw [Atm];simp only [sz];exact ⟨Mo.weak (by omega),by omega⟩
  | @if_ n a t l hl =>
   rw [Atn];simp only [sz];refine ⟨(V2 λx hx w=>?_).weak (by omega),by omega⟩;rcases IsR.kinds hl x hx with hb | he;rw [if_pos hb.kind];exact LC x hb w lo lp;rw [if_neg he.kind];exact MM
  | @while_ n a t x b hx hb=>rw [Ato];simp only [sz,A_];exact ⟨(MM.trans (LC b hb _ _ _)).weak (by omega),by omega⟩
  | @for_ n a t x b l hl he hb =>
   rw [Atp];simp only [sz];rw [Eb];simp only [A_];exact ⟨((Mo.trans ML.1).trans (LC b hb _ _ _)).weak (by omega),by omega⟩
  | @forIn a t b l m hl hm hm2 hb =>
   rw [Atq];simp only [sz];rw [Eb,Eb];simp only [A_];exact ⟨(((Pf.trans Mo).trans ML.1).trans (LC b hb _ _ _)).weak (by omega),by omega⟩
  | @do_ n a t b hb=>rw [Ats];simp only [sz,A_];exact ⟨(LC b hb _ _ _).weak (by omega),by omega⟩
  | @break_ n a t =>
   rw [Atu];refine ⟨?_,by show lo.length<=_;omega⟩;show Gr w (if lp then w else w.bad 5 a) _;split;exact (Gr.refl w).weak (Nat.zero_le _);exact QP.weak (Nat.zero_le _)
  | @ret n a t l hl=>rw [Atv];simp only [sz];exact ⟨(Mp.trans Mo).weak (by omega),by omega⟩
  intro x hx w lo lp;cases hx with
  | @block n a t l hl=>unfold rB;simp only [sz];exact (Ajy λx hx=>ihS x (hl x hx)).weak (by omega)
section
variable {w:RW} {e a c m:Int} {t:Ah} {f:Int×List V3->Int×List V3}
theorem Js:(w.bad e a).fs=w.fs/\(w.bad e a).gl=w.gl/\(w.bad e a).F=w.F/\(w.bad e a).ab=w.ab:=by unfold RW.bad;split <;> exact ⟨rfl,rfl,rfl,rfl⟩
theorem Er:(w.few a c m).fs=w.fs/\(w.few a c m).gl=w.gl/\(w.few a c m).F=w.F/\(w.few a c m).ab=w.ab:=by unfold RW.few;split;exact Js;exact ⟨rfl,rfl,rfl,rfl⟩
theorem A0k {w':RW} (h:w'.er=w.er):(w'.bad e a).er=(w.bad e a).er:=by
 unfold RW.bad;rw [h];split;rfl;exact h
theorem A5p {w':RW} (h:w'.er=w.er):(w'.few a c m).er=(w.few a c m).er:=by unfold RW.few;split;exact A0k h;exact h
theorem PQ:∀ {l:List Tree} {w:RW},(Gh w l).fs=w.fs/\(Gh w l).gl=w.gl/\(Gh w l).F=w.F/\(Gh w l).ab=w.ab
 | [],w=>⟨rfl,rfl,rfl,rfl⟩
 | x :: l,w=>by
  unfold Gh;split;obtain ⟨h1,h2,h3,h4⟩:=PQ (l:=l) (w:=w.bad 5 x.at_);obtain ⟨g1,g2,g3,g4⟩:=Js (w:=w) (e:=5) (a:=x.at_);exact ⟨h1.trans g1,h2.trans g2,h3.trans g3,h4.trans g4⟩;exact PQ
theorem Aad {α:Type} {f:α->α}:∀ {l:List α} {i:Nat} (h:i < l.length),l.modify i f=l.set i (f l[i])
 | x :: l,0,h=>rfl
 | x :: l,i+1,h=>by
  show x :: l.modify i f=x :: l.set i (f (l[i]'(by simpa using h)));rw [Aad (l:=l) (i:=i) (by simpa using h)]
theorem P6 {α:Type} {l:List α} {i:Nat} (h:i < l.length):B5 l (i:Int)=some l[i]:=Wj h
theorem RY {α:Type} {l:List α} {i:Nat} {x:α} (h:i < l.length):FK l (i:Int) x=some (l.set i x):=by
 unfold FK;rw [decide_eq_true (by omega)];rfl
theorem NL (k:Nat):GE.f k w.er.1 w.er.2 e a=some (w.bad e a).er:=by
 unfold GE.f RW.bad;by_cases h:w.er.1=0;rw [eqC h,if_pos h];rfl;rw [Cg h,if_neg h];rfl
theorem KM (k:Nat) (x0:Int) (x1:Ah) (x2:Int) (x4:List Tree):E5.f k w.er.1 w.er.2 x0 x1 x2 a x4 c m=some (w.few a c m).er:=by
 unfold E5.f RW.few;by_cases h:c > m;rw [decide_eq_true h,if_pos h,NL];rfl;rw [decide_eq_false h,if_neg h];rfl
theorem VV (k:Nat) (t:Ah):Kq.f k t=some (Ej t):=by
 unfold Kq.f Ej;cases t.toList == X7.toList <;> rfl
theorem X9 {α:Type} [BEq α] [LawfulBEq α] (x y:α):(x == y)=(y == x):=by rw [Bool.eq_iff_iff,beq_iff_eq,beq_iff_eq];exact eq_comm
theorem Agp (x y:Ah):(x.toList == y.toList)=(y.toList == x.toList):=X9 _ _
theorem Ak3:∀ (t pre:List Ah) (a:Ah) (m:Nat),pre.length+t.length<=1000000->t.length+1<=m->G0.l0 m (pre++t) a (λ_=>some false) (pre.length:Int)=some (G8 t a)
 | [],pre,a,m,hl,hm=>by
  obtain ⟨m,rfl⟩:∃ m',m=m'+1:=⟨m - 1,by omega⟩;simp only [G0.l0];rw [ltF (by simp)];rfl
 | x :: t,pre,a,m,hl,hm=>by
  obtain ⟨m,rfl⟩:∃ m',m=m'+1:=⟨m - 1,by omega⟩;simp only [AX] at hl hm;simp only [G0.l0];rw [Gv (by simp;omega),Ih];simp only [cond_true,Aq];unfold G8;rw [List.any_cons,Agp];cases hq:a.toList == x.toList with
  | true=>rfl
  | false =>
   rw [cond_false,Bool.false_or,wiC _ (by omega) (by omega)];have ih:=Ak3 t (pre++[x]) a m (by simp;omega) (by omega);rw [C8,BT] at ih;exact ih
theorem Yy (k:Nat) (l:List Ah) (a:Ah) (hl:l.length<=1000000) (hk:l.length+1<=k):G0.f k l a=some (G8 l a):=Ak3 l [] a k (by simpa using hl) hk
theorem Aju {k:Nat} {gl:List Ah} (t:Ah) (hg:gl.length<=400000) (hk:500000<=k):Mx.f k gl t=some (EY gl t):=by
 unfold Mx.f EY;rw [Yy k gl t (by omega) (by omega),Aq];cases G8 gl t with
 | true=>rfl
 | false=>rw [Bool.not_false,cond_true,Lu (by simp;omega)];rfl
theorem Bwd (k:Nat) (x0:Int) (x1:Ah) (x2:Int) (x4:List Tree) (lo:List Ah) (hF:w.F < w.fs.length) :
  Nw.f k w.fs (w.F:Int) w.er.1 w.er.2 x0 x1 x2 a x4 lo=some ((w.there a (lo.length:Nat)).fs,(w.there a (lo.length:Nat)).er.1,(w.there a (lo.length:Nat)).er.2):=by
 have key:∀ e:Int×Int,(B5 w.fs (w.F:Int)).bind (λx5=>cond (decide (((lo.length:Nat):Int) > x5.2.2.2.1)) ((B5 w.fs (w.F:Int)).bind λx18=>(FK w.fs (w.F:Int) (x18.1,x18.2.1,x18.2.2.1,((lo.length:Nat):Int),x18.2.2.2.2)).bind λGg=>some (Gg,e.1,e.2)) (some (w.fs,e.1,e.2)))
  =some (w.fs.modify w.F (λr=>(r.1,r.2.1,r.2.2.1,RW.slots r.2.2.2 ((lo.length:Nat):Int))),e.1,e.2):=λe=>by
  rw [P6 hF,Aad hF];simp only [Aq];unfold RW.slots;by_cases h:((lo.length:Nat):Int) > w.fs[w.F].2.2.2.1;rw [decide_eq_true h,if_pos h,cond_true,RY hF];rfl;rw [decide_eq_false h,if_neg h,cond_false];congr 2;exact (List.set_getElem_self hF).symm
 unfold Nw.f AN;have ew:(w.there a (lo.length:Nat)).fs=w.fs.modify w.F (λr=>(r.1,r.2.1,r.2.2.1,RW.slots r.2.2.2 ((lo.length:Nat):Int))):=by
  show ((w.few a (lo.length:Nat) 60).fs).modify (w.few a (lo.length:Nat) 60).F _=_;rw [Er.1,Er.2.2.1]
 have ee:(w.there a (lo.length:Nat)).er=(w.few a (lo.length:Nat) 60).er:=rfl;rw [ew,ee];unfold RW.few;dsimp only;by_cases h:((lo.length:Nat):Int) > 60;rw [decide_eq_true h,if_pos h,cond_true,NL,Aq];exact key _;rw [decide_eq_false h,if_neg h,cond_false];exact key w.er
theorem Axp (J:Av->Option (Av×List DB×Int×Int)):∀ (d:Nat) (i:Nat) (l:Av) (h m:Nat),h=i+d->l.length+d<=500000->h<=100->d+1<=m->Em.l1 m (h:Int) J l (i:Int)=J (l++List.replicate d noB)
 | 0,i,l,h,m,e,hl,hh,hm=>by
  obtain ⟨m,rfl⟩:∃ m',m=m'+1:=⟨m - 1,by omega⟩;simp only [Em.l1];rw [ltF (by omega)];simp
 | d+1,i,l,h,m,e,hl,hh,hm=>by
  obtain ⟨m,rfl⟩:∃ m',m=m'+1:=⟨m - 1,by omega⟩;simp only [Em.l1];rw [Gv (by omega),cond_true,Lu (by simp;omega),Aq,wiC _ (by omega) (by omega)];have ih:=Axp J d (i+1) (l++[noB]) h m (by omega) (by simp;omega) hh (by omega);rw [C8] at ih;exact ih
theorem Axq (J:List Ah->Int->Int->Option (List Ah×List DB×Int×Int)):∀ (t pre:List Tree) (l:List Ah) (w:RW) (m:Nat),pre.length+t.length<=400000->l.length+t.length<=900000->t.length+1<=m ->
  Em.l0 m (pre++t) J l (pre.length:Int) w.er.1 w.er.2=J (l++t.map Tree.text) (Gh w t).er.1 (Gh w t).er.2
 | [],pre,l,w,m,hl,ho,hm=>by
  obtain ⟨m,rfl⟩:∃ m',m=m'+1:=⟨m - 1,by omega⟩;simp only [Em.l0];rw [ltF (by simp)];simp [Gh]
 | x :: t,pre,l,w,m,hl,ho,hm=>by
  obtain ⟨m,rfl⟩:∃ m',m=m'+1:=⟨m - 1,by omega⟩;simp only [AX] at hl ho hm;simp only [Em.l0];rw [Gv (by simp;omega),Ih];simp only [cond_true,Aq,AN,VV];have ih:=λw=>Axq J t (pre++[x]) (l++[x.text]) w m (by simp;omega) (by simp;omega) (by omega);simp only [C8,BT] at ih;unfold Gh;cases hq:Ej x.text with
  | true =>
   rw [cond_true,NL,Aq,Lu (by simp;omega),Aq,wiC _ (by omega) (by omega),if_pos rfl];exact ih _
  | false =>
   rw [cond_false,Lu (by simp;omega),Aq,wiC _ (by omega) (by omega),if_neg (by decide)];exact ih _
def o4w (r:RW×List Ah):List Ah×List DB×Int×Int:=(r.2,r.1.fs,r.1.er.1,r.1.er.2)
theorem Xf {k:Nat} (x0:Int) (x1:Ah) (x2:Int) (x4:List Tree) (lo:List Ah) (l:List Tree) (h:Nat) (hF:w.F < w.fs.length) (hl:l.length<=400000) (ho:lo.length<=400000) (hh:h<=100) (hk:500000<=k) :
  Em.f k w.fs (w.F:Int) w.er.1 w.er.2 x0 x1 x2 a x4 lo l (h:Int)=some (o4w (w.brings a lo l h)):=by
 unfold Em.f AN;rw [Lu (by simp;omega),Aq,List.nil_append];have e1:=Axp (λl8=>Em.l0 k l (λGt x19 x20=>(Nw.f k w.fs (w.F:Int) x19 x20 x0 x1 x2 a x4 Gt).bind λr22=>some (Gt,r22.1,r22.2.1,r22.2.2)) l8 (0:Int) w.er.1 w.er.2) h 0 lo h k (by omega) (by omega) hh (by omega);refine Eq.trans e1 ?_;have e2:=Axq (λGt x19 x20=>(Nw.f k w.fs (w.F:Int) x19 x20 x0 x1 x2 a x4 Gt).bind λr22=>some (Gt,r22.1,r22.2.1,r22.2.2)) l [] (lo++List.replicate h noB) w k (by simpa using hl) (by simp;omega) (by omega);refine Eq.trans e2 ?_;have e3:=Bwd (w:=Gh w l) (a:=a) k x0 x1 x2 x4 (lo++List.replicate h noB++l.map Tree.text) (by rw [PQ.2.2.1,PQ.1];exact hF);rw [PQ.1,PQ.2.2.1] at e3;rw [e3];rfl
theorem Ahv (fs:List DB) (e0 e1 v0 v1:Int) (v2:Ah) (r:DB) (J:Unit->Option (List DB×Int×Int)):∀ (t pre:List V3) (m:Nat),r.2.2.2.2=pre++t->pre.length+t.length<=1000000->t.length+1<=m ->
  Hd.l0 m fs e0 e1 v0 v1 v2 r J (pre.length:Int)=if MP t (v0,v1,v2) then some (fs,e0,e1) else J ()
 | [],pre,m,e,hl,hm=>by
  obtain ⟨m,rfl⟩:∃ m',m=m'+1:=⟨m - 1,by omega⟩;simp only [Hd.l0,e];rw [ltF (by simp)];rfl
 | x :: t,pre,m,e,hl,hm=>by
  obtain ⟨m,rfl⟩:∃ m',m=m'+1:=⟨m - 1,by omega⟩;simp only [AX] at hl hm;simp only [Hd.l0];rw [e,Gv (by simp;omega),Ih];simp only [cond_true,Aq];unfold MP;rw [List.any_cons];have es:((x.1 == v0) && ((x.2.1 == v1) && ((x.2.2.toList == v2.toList) && true)))=((v0 == x.1) && ((v1 == x.2.1) && ((v2.toList == x.2.2.toList) && true))):=by rw [X9 x.1,X9 x.2.1,Agp x.2.2]
  rw [es];cases hq:(v0 == x.1) && ((v1 == x.2.1) && ((v2.toList == x.2.2.toList) && true)) with
  | true=>rfl
  | false =>
   rw [cond_false,Bool.false_or,wiC _ (by omega) (by omega)];have ih:=Ahv fs e0 e1 v0 v1 v2 r J t (pre++[x]) m (by rw [e,C8];rfl) (by simp;omega) (by omega);rw [BT] at ih;exact ih
theorem A2d {k:Nat} (x0:Int) (x1:Ah) (x2:Int) (x4:List Tree) (v0 v1:Int) (v2:Ah) (hF:w.F < w.fs.length) (hc:tc w.fs<=400000) (hk:500000<=k) :
  Hd.f k w.fs (w.F:Int) w.er.1 w.er.2 x0 x1 x2 a x4 v0 v1 v2=some ((w.const a (v0,v1,v2)).fs,(w.const a (v0,v1,v2)).er.1,(w.const a (v0,v1,v2)).er.2):=by
 have hcs:w.cs=w.fs[w.F].2.2.2.2:=by unfold RW.cs;rw [List.getElem?_eq_getElem hF]
 have hlen:=Adg (List.getElem_mem hF);unfold Hd.f AN;rw [P6 hF,Aq];have e1:=Ahv w.fs w.er.1 w.er.2 v0 v1 v2 w.fs[w.F] (λ_=>(apd 32 w.fs[w.F].2.2.2.2 [(v0,v1,v2)]).bind λIc=>(FK w.fs (w.F:Int) (w.fs[w.F].1,w.fs[w.F].2.1,w.fs[w.F].2.2.1,w.fs[w.F].2.2.2.1,Ic)).bind λl34 =>
  (E5.f k w.er.1 w.er.2 x0 x1 x2 a x4 ((Ic.length:Nat):Int) (250:Int)).bind λr47=>some (l34,r47.1,r47.2)) w.fs[w.F].2.2.2.2 [] k rfl (by simp only [Bp];omega) (by omega)
 refine Eq.trans e1 ?_;unfold RW.const;rw [hcs];by_cases h:MP w.fs[w.F].2.2.2.2 (v0,v1,v2)=true;rw [if_pos h,if_pos h];rw [if_neg h,if_neg h,Lu (by simp;omega),Aq,RY hF,Aq,KM,Aq,Er.1];have e2:((w.mod λp=>(p.1,p.2++[(v0,v1,v2)])).few a (w.fs[w.F].2.2.2.2.length+1:Nat) 250).er=(w.few a ((w.fs[w.F].2.2.2.2++[(v0,v1,v2)]).length:Nat) 250).er:=by
  rw [BT];exact A5p rfl
 rw [e2];have e3:(w.mod λp=>(p.1,p.2++[(v0,v1,v2)])).fs=w.fs.set w.F (w.fs[w.F].1,w.fs[w.F].2.1,w.fs[w.F].2.2.1,w.fs[w.F].2.2.2.1,w.fs[w.F].2.2.2.2++[(v0,v1,v2)]):=by
  show w.fs.modify w.F _=_;rw [Aad hF]
 rw [e3]
end
structure Fk (w:RW) (lo:List Ah) (n:Nat):Prop where
 F:w.F < w.fs.length
 pw:pw w+2 * n<=400000
 lo:lo.length+2 * n<=400000
 ab:w.ab.length<=400000
theorem Fk.weak {w:RW} {lo:List Ah} {n m:Nat} (h:Fk w lo n) (hm:m<=n):Fk w lo m:=⟨h.F,by have:=h.pw;omega,by have:=h.lo;omega,h.ab⟩
theorem Fk.step {w w':RW} {lo:Av} {n m k:Nat} (h:Fk w lo (n+m)) (hg:Gr w w' k) (hk:k<=2 * n):Fk w' lo m:=⟨by rw [hg.F];exact Nat.lt_of_lt_of_le h.F hg.len,by have:=h.pw;have:=hg.pw;omega,by have:=h.lo;omega,by rw [hg.ab];exact h.ab⟩
theorem Fk.tc {w:RW} {lo:List Ah} {n:Nat} (h:Fk w lo n):tc w.fs<=400000/\w.fs.length<=400000/\w.gl.length<=400000:=by have:=h.pw;unfold Go.Proofs.YteccladehmaglaaGreatDoor.pw at this;omega
def o4 (w:RW):List DB×List Ah×Int×Int:=(w.fs,w.gl,w.er.1,w.er.2)
def o6 (w:RW):List DB×List Ah×Int×List Ah×Int×Int:=(w.fs,w.gl,(w.F:Int),w.ab,w.er.1,w.er.2)
abbrev exF (d:Nat) (lo:List Ah) (w:RW) (l:List Tree):RW:=l.foldl (λw x=>Co d lo w x false) w
def OO (R:RC) (d:Nat):Prop:=∀ (w:RW) (lo:List Ah) (x:Tree) (tg:Bool),IsX x->gw x->sz x<=d->Fk w lo (sz x) ->
 R.F_ w.fs w.gl (w.F:Int) w.ab w.er.1 w.er.2 x.kind x.text x.n x.at_ x.kids lo tg=some (o4 (Co d lo w x tg))
def RxL (R:RC) (d:Nat):Prop:=∀ (w:RW) (lo:List Ah) (l:List Tree),(∀ x ∈ l,IsX x/\gw x/\sz x<=d)->Fk w lo (A_ l) ->
 R.DE w.fs w.gl (w.F:Int) w.ab w.er.1 w.er.2 l lo=some (o4 (exF d lo w l))
theorem Aiq {R:RC} {d:Nat} (hR:OO R d):∀ (t pre:List Tree) (w:RW) (lo:List Ah) (m:Nat),pre.length+t.length<=400000->t.length+1<=m->(∀ x ∈ t,IsX x/\gw x/\sz x<=d)->Fk w lo (A_ t) ->
  DE.l0 m R (w.F:Int) w.ab (pre++t) lo (pre.length:Int) w.fs w.gl w.er.1 w.er.2=some (o4 (exF d lo w t))
 | [],pre,w,lo,m,hl,hm,hw,hb=>by
  obtain ⟨m,rfl⟩:∃ m',m=m'+1:=⟨m - 1,by omega⟩;simp only [DE.l0];rw [ltF (by simp)];rfl
 | x :: t,pre,w,lo,m,hl,hm,hw,hb=>by
  obtain ⟨m,rfl⟩:∃ m',m=m'+1:=⟨m - 1,by omega⟩;simp only [AX] at hl hm;simp only [A_] at hb;obtain ⟨h1,h2,h3⟩:=hw x (DT ..);have hg:Gr w (Co d lo w x false) (sz x):=MM;have ih:=Aiq hR t (pre++[x]) (Co d lo w x false) lo m (by simp;omega) (by omega) (λy hy=>hw y (EM _ hy)) (hb.step hg (by omega));rw [C8,BT,hg.F,hg.ab] at ih;simp only [DE.l0];rw [Gv (by simp;omega),Ih];simp only [cond_true,Aq];rw [hR w lo x false h1 h2 h3 (hb.weak (by omega)),Aq,wiC _ (by omega) (by omega)];exact ih
theorem Air {k d:Nat} (hk:500000<=k) (hR:OO (RC.at k) d):RxL (RC.at (k+1)) d:=λw lo l hw hb=>by
 have:=Fu l;have:=hb.pw;exact Aiq hR l [] w lo k (by simp only [Bp];omega) (by omega) hw hb
theorem A5b {k d:Nat} (hk:500000<=k) (hR:RxL (RC.at k) d):OO (RC.at (k+1)) (d+1):=λw lo x tg hx hg hd hb=>by
 cases x with
 | mk k0 t n a l =>
 obtain ⟨c1,c2,Y0⟩:=hx.kids;obtain ⟨hsh,hgl⟩:=hg;have hgl:=Ka.1 hgl;simp only [sz] at hd hb;have hlen:=Fu l;have hp:=hb.pw;obtain ⟨b1,b2,b3⟩:=hb.tc;have hlo:=hb.lo;show F_.g (RC.at k) k w.fs w.gl (w.F:Int) w.ab w.er.1 w.er.2 k0 t n a l lo tg=_;unfold F_.g Co;dsimp only;by_cases he:w.er.1=0
 case neg =>
  rw [if_pos he,show (w.er.1 != 0)=true from bne_iff_ne.2 he];rfl
 rw [if_neg (λh=>h he),show (w.er.1 != 0)=false by rw [he];rfl,cond_false];have all:∀ w':RW,Gr w w' 1->((RC.at k).DE w'.fs w'.gl (w.F:Int) w.ab w'.er.1 w'.er.2 l lo).bind (λr16=>some (r16.1,r16.2.1,r16.2.2.1,r16.2.2.2))=some (o4 (exF d lo w' l)):=λw' hg=>by
  have:=hR w' lo l (λy hy=>⟨Y0 y hy,hgl y hy,by have:=IS hy;omega⟩) ((hb.weak (m:=1+A_ l) (by omega)).step hg (by omega));rw [hg.F,hg.ab] at this;rw [this];rfl
 have self:Gr w w 1:=(Gr.refl w).weak (Nat.zero_le _);have fw:∀ c m:Int,Gr w (w.few a c m) 1:=λc m=>Mp.weak (Nat.zero_le _);have few:∀ c m:Int,((RC.at k).DE w.fs w.gl (w.F:Int) w.ab (w.few a c m).er.1 (w.few a c m).er.2 l lo).bind (λr16=>some (r16.1,r16.2.1,r16.2.2.1,r16.2.2.2))=some (o4 (exF d lo (w.few a c m) l)):=λc m=>by
  have:=all (w.few a c m) (fw c m);rw [Er.1,Er.2.1] at this;exact this
 have bd:∀ e:Int,((RC.at k).DE w.fs w.gl (w.F:Int) w.ab (w.bad e a).er.1 (w.bad e a).er.2 l lo).bind (λr16=>some (r16.1,r16.2.1,r16.2.2.1,r16.2.2.2))=some (o4 (exF d lo (w.bad e a) l)):=λe=>by
  have:=all (w.bad e a) (QP.weak (Nat.zero_le _));rw [Js.1,Js.2.1] at this;exact this
 have cst:∀ v0 v1 v2,(Hd.f k w.fs (w.F:Int) w.er.1 w.er.2 k0 t n a l v0 v1 v2).bind (λDV=>((RC.at k).DE DV.1 w.gl (w.F:Int) w.ab DV.2.1 DV.2.2 l lo).bind (λr16=>some (r16.1,r16.2.1,r16.2.2.1,r16.2.2.2)))=some (o4 (exF d lo (w.const a (v0,v1,v2)) l)):=λv0 v1 v2=>by
  rw [A2d _ _ _ _ _ _ _ hb.F b1 hk,Aq];have:=all (w.const a (v0,v1,v2)) Yd;have eg:(w.const a (v0,v1,v2)).gl=w.gl:=by unfold RW.const;split;rfl;exact Er.2.1
  rw [eg] at this;exact this
 unfold AN;dsimp only;by_cases h8:k0=8
 ·rw [if_pos h8,eqC h8,cond_true,wiC _ (by omega) (by omega),KM,Aq];exact few _ _
 rw [if_neg h8,Cg h8,cond_false];by_cases h12:k0=12
 ·rw [if_pos h12,eqC h12,cond_true,KM,Aq];exact few _ _
 rw [if_neg h12,Cg h12,cond_false];by_cases h4:k0=4
 ·rw [if_pos h4,eqC h4,cond_true];exact cst _ _ _
 rw [if_neg h4,Cg h4,cond_false];by_cases h5:k0=5
 ·rw [if_pos h5,eqC h5,cond_true];exact cst _ _ _
 rw [if_neg h5,Cg h5,cond_false];by_cases h6:k0=6
 ·rw [if_pos h6,eqC h6,cond_true]
  have hab:=hb.ab;rw [VV,Yy k lo t (by omega) (by omega),Yy k w.ab t (by omega) (by omega),Aju t (by omega) hk];simp only [Aq];unfold RW.name;cases Ej t with
  | true=>rw [cond_true,Aq,cond_true,NL,Aq];exact bd 5
  | false =>
   cases G8 lo t with
   | true=>exact all w self
   | false =>
    cases G8 w.ab t with
    | true=>simp only [Bool.not_false,cond_true,cond_false,Aq,Bool.false_or,Bool.and_self,if_true];rw [NL,Aq];exact bd 5
    | false=>exact all (w.EZ t) Ajz
 rw [if_neg h6,Cg h6,cond_false];by_cases h7:k0=7
 ·rw [eqC h7,cond_true]
  have h2:=hsh.2.1 h7;rw [KP 0 (by omega) (by omega)];simp only [Aq];by_cases hk6:(Cc l 0).kind=6
  ·rw [eqC hk6,cond_true,VV]
   simp only [Aq];cases hq:Ej (Cc l 0).text with
   | false =>
    rw [cond_false,if_neg (λe=>by cases e.2.2)];exact all w self
   | true =>
    rw [cond_true,if_pos ⟨h7,hk6,rfl⟩,KP 1 (by omega) (by omega)];simp only [Aq];unfold Vk;have fin:∀ q:Bool,cond q ((GE.f k w.er.1 w.er.2 5 a).bind λr73=>some (w.fs,w.gl,r73.1,r73.2)) (some (w.fs,w.gl,w.er.1,w.er.2))=some (o4 (if q then w.bad 5 a else w)):=λq=>by
     cases q with
     | true =>
      rw [cond_true,NL,Aq,if_pos rfl];unfold o4;rw [Js.1,Js.2.1]
     | false=>rfl
    cases tg with
    | true=>exact fin true
    | false =>
     simp only [cond_false,Bool.false_or];by_cases h5:(Cc l 1).kind=5
     ·have e5:((Cc l 1).kind != 5)=false:=by simp [h5]
      have w0:=hgl _ (IB (l:=l) (i:=0) (by omega)).2;have w1:=hgl _ (IB (l:=l) (i:=1) (by omega)).2;have z0:(Cc l 0).text.size<=30000:=by
       cases hx:Cc l 0 with
       | mk k1 t1 n1 a1 l1=>rw [hx] at w0;exact w0.1.1
      have z1:(Cc l 1).text.size<=30000:=by
       cases hx:Cc l 1 with
       | mk k1 t1 n1 a1 l1=>rw [hx] at w1;exact w1.1.1
      have zd:(⟨#[46]⟩:Ah).size=1:=rfl;rw [e5,Vq (by omega)];simp only [cond_false,Bool.false_or,Aq];rw [Vq (by rw [ByteArray.size_append];omega)];simp only [Aq];rw [Bt9 k (by omega)];simp only [Aq];exact fin _
     ·have e5:((Cc l 1).kind != 5)=true:=by simp [h5]
      rw [e5];exact fin true
  ·rw [Cg hk6,if_neg (λe=>hk6 e.2.1)]
   exact all w self
 rw [if_neg (λe=>h7 e.1),Cg h7,cond_false];exact all w self
theorem XV:∀ (d k:Nat),500001+2 * d<=k->OO (RC.at k) d
 | 0,k,_=>λw lo x tg _ _ h=>by have:=M4 x;omega
 | d+1,k,hk=>by
  obtain ⟨k,rfl⟩:∃ m,k=m+2:=⟨k - 2,by omega⟩;exact A5b (by omega) (Air (by omega) (XV d k (by omega)))
def RxS (R:RC) (d:Nat) (lp:Bool) (P:RW->Prop) (x:Tree):Prop:=∀ (w:RW) (lo:List Ah),P w->Fk w lo (sz x) ->
 R.Df w.fs w.gl (w.F:Int) w.ab w.er.1 w.er.2 x.kind x.text x.n x.at_ x.kids lo lp=some ((CA d w lo x lp).2,o6 (CA d w lo x lp).1) /\
  Gr w (CA d w lo x lp).1 (2 * sz x)/\(CA d w lo x lp).2.length<=lo.length+sz x/\P (CA d w lo x lp).1
def RxB (R:RC) (d:Nat) (b:Tree):Prop:=∀ (w:RW) (lo:List Ah) (lp:Bool),Fk w lo (sz b) ->
 R.De w.fs w.gl (w.F:Int) w.ab w.er.1 w.er.2 b.kind b.text b.n b.at_ b.kids lo lp=some (o6 (rB d w lo b lp))
theorem Agv {R:RC} {d:Nat} {lp:Bool} {P:RW->Prop}:∀ (t pre:List Tree) (w:RW) (lo:List Ah) (m:Nat),pre.length+t.length<=400000->t.length+1<=m->(∀ x ∈ t,RxS R d lp P x)->P w->Fk w lo (A_ t) ->
  De.l0 m R (pre++t) lp lo (pre.length:Int) w.fs w.gl (w.F:Int) w.ab w.er.1 w.er.2=some (o6 (Hz (λw lo x=>CA d w lo x lp) w lo t))
 | [],pre,w,lo,m,hl,hm,hw,hP,hb=>by
  obtain ⟨m,rfl⟩:∃ m',m=m'+1:=⟨m - 1,by omega⟩;simp only [De.l0];rw [ltF (by simp)];rfl
 | x :: t,pre,w,lo,m,hl,hm,hw,hP,hb=>by
  obtain ⟨m,rfl⟩:∃ m',m=m'+1:=⟨m - 1,by omega⟩;simp only [AX] at hl hm;simp only [A_] at hb;simp only [De.l0];rw [Gv (by simp;omega),cond_true,Aq];unfold Hz;by_cases he:w.er.1=0
  case neg=>rw [Cg he,if_pos he];rfl
  rw [eqC he,cond_true,if_neg (λh=>h he),Ih,Aq];obtain ⟨h1,h2,h3,h4⟩:=hw x (DT ..) w lo hP (hb.weak (by omega));rw [h1,Aq,wiC _ (by omega) (by omega)];have hlo:=hb.lo;have hb':Fk (CA d w lo x lp).1 (CA d w lo x lp).2 (A_ t):=by
   have:=hb.step h2 (by omega);exact ⟨this.F,this.pw,by omega,this.ab⟩
  have ih:=Agv t (pre++[x]) (CA d w lo x lp).1 (CA d w lo x lp).2 m (by simp;omega) (by omega) (λy hy=>hw y (EM _ hy)) h4 hb';rw [C8,BT] at ih;exact ih
theorem Agw {k d:Nat} {lp:Bool} {P:RW->Prop} (hk:500000<=k) {t:Ah} {n a:Int} {l:List Tree} {w:RW} {lo:List Ah} (hw:∀ x ∈ l,RxS (RC.at k) d lp P x) (hP:P w) (hb:Fk w lo (A_ l)) :
  (RC.at (k+1)).De w.fs w.gl (w.F:Int) w.ab w.er.1 w.er.2 20 t n a l lo lp=some (o6 (rB (d+1) w lo (.mk 20 t n a l) lp)):=by
 have:=Fu l;have:=hb.pw;show De.l0 k (RC.at k) l lp lo 0 w.fs w.gl (w.F:Int) w.ab w.er.1 w.er.2=_;unfold rB;exact Agv l [] w lo k (by simp only [Bp];omega) (by omega) hw hP hb
theorem Agd {R:RC} {d:Nat} (hR:OO R d) (n:Int) (J:List DB->Av->Int->Av->Int->Int->Option (Av×List DB×Av×Int×Av×Int×Int)):∀ (t pre:List Tree) (w:RW) (lo:Av) (m:Nat),pre.length+t.length<=400000->t.length+1<=m->(∀ x ∈ t,IsX x/\gw x/\sz x<=d)->Fk w lo (A_ t) ->
  Df.l0 m R (w.F:Int) w.ab n (pre++t) lo J (pre.length:Int) w.fs w.gl w.er.1 w.er.2=J (IQ (λw x b=>Co d lo w x b) n pre.length w t).fs (IQ (λw x b=>Co d lo w x b) n pre.length w t).gl (w.F:Int) w.ab (IQ (λw x b=>Co d lo w x b) n pre.length w t).er.1 (IQ (λw x b=>Co d lo w x b) n pre.length w t).er.2
 | [],pre,w,lo,m,hl,hm,hw,hb=>by
  obtain ⟨m,rfl⟩:∃ m',m=m'+1:=⟨m - 1,by omega⟩;simp only [Df.l0];rw [ltF (by simp)];rfl
 | x :: t,pre,w,lo,m,hl,hm,hw,hb=>by
  obtain ⟨m,rfl⟩:∃ m',m=m'+1:=⟨m - 1,by omega⟩;simp only [AX] at hl hm;simp only [A_] at hb;obtain ⟨h1,h2,h3⟩:=hw x (DT ..);have hg:Gr w (Co d lo w x (decide ((pre.length:Int) < n))) (sz x):=MM;have ih:=Agd hR n J t (pre++[x]) (Co d lo w x (decide ((pre.length:Int) < n))) lo m (by simp;omega) (by omega) (λy hy=>hw y (EM _ hy)) (hb.step hg (by omega));rw [C8,BT,hg.F,hg.ab] at ih;simp only [Df.l0];rw [Gv (by simp;omega),Ih];simp only [cond_true,Aq];rw [hR w lo x _ h1 h2 h3 (hb.weak (by omega)),Aq,wiC _ (by omega) (by omega)];unfold IQ;exact ih
def Jz (d:Nat) (lo:List Ah) (lp:Bool) (w:RW) (l:List Tree):RW:=l.foldl (λw x=>if x.kind=20 then rB d w lo x lp else Co d lo w x false) w
theorem Amd {R:RC} {d:Nat} {lp:Bool} (hR:OO R d) (J:List DB->Av->Int->Av->Int->Int->Option (Av×List DB×Av×Int×Av×Int×Int)):∀ (t pre:List Tree) (w:RW) (lo:Av) (m:Nat),pre.length+t.length<=400000->t.length+1<=m ->
  (∀ x ∈ t,(FH x/\RxB R d x)\/(IsE x/\gw x/\sz x<=d))->Fk w lo (A_ t) ->
  Df.l1 m R (pre++t) lo lp J (pre.length:Int) w.fs w.gl (w.F:Int) w.ab w.er.1 w.er.2=J (Jz d lo lp w t).fs (Jz d lo lp w t).gl ((Jz d lo lp w t).F:Int) (Jz d lo lp w t).ab (Jz d lo lp w t).er.1 (Jz d lo lp w t).er.2
 | [],pre,w,lo,m,hl,hm,hw,hb=>by
  obtain ⟨m,rfl⟩:∃ m',m=m'+1:=⟨m - 1,by omega⟩;simp only [Df.l1];rw [ltF (by simp)];rfl
 | x :: t,pre,w,lo,m,hl,hm,hw,hb=>by
  obtain ⟨m,rfl⟩:∃ m',m=m'+1:=⟨m - 1,by omega⟩;simp only [AX] at hl hm;simp only [A_] at hb;simp only [Df.l1,AN];rw [Gv (by simp;omega),Ih];simp only [cond_true,Aq];rw [wiC _ (by omega) (by omega)];have go:∀ w':RW,Gr w w' (sz x)->Df.l1 m R (pre++x :: t) lo lp J ((pre.length:Int)+1) w'.fs w'.gl (w'.F:Int) w'.ab w'.er.1 w'.er.2=J (Jz d lo lp w' t).fs (Jz d lo lp w' t).gl ((Jz d lo lp w' t).F:Int) (Jz d lo lp w' t).ab (Jz d lo lp w' t).er.1 (Jz d lo lp w' t).er.2:=λw' hg=>by
   have ih:=Amd (lp:=lp) hR J t (pre++[x]) w' lo m (by simp;omega) (by omega) (λy hy=>hw y (EM _ hy)) (hb.step hg (by omega));rw [C8,BT] at ih;exact ih
  have e:Jz d lo lp w (x :: t)=Jz d lo lp (if x.kind=20 then rB d w lo x lp else Co d lo w x false) t:=rfl;rw [e];rcases hw x (DT ..) with ⟨h1,h2⟩ | ⟨h1,h2,h3⟩;rw [eqC h1.kind,cond_true,h2 w lo lp (hb.weak (by omega)),Aq,if_pos h1.kind];exact go _ ((QQ d).2 x h1 w lo lp);rw [Cg h1.kind,cond_false,hR w lo x false (.inl h1) h2 h3 (hb.weak (by omega)),Aq,if_neg h1.kind];have hg:Gr w (Co d lo w x false) (sz x):=MM;have:=go _ hg;rw [hg.F,hg.ab] at this;exact this
theorem KH {w:RW} {a:Int} {lo:List Ah} {l:List Tree} {n:Nat}:(w.brings a lo l n).1.gl=w.gl/\(w.brings a lo l n).1.F=w.F/\(w.brings a lo l n).1.ab=w.ab:=by
 refine ⟨?_,ML.1.F,ML.1.ab⟩;show ((Gh w l).few a _ 60).gl=w.gl;rw [Er.2.1,PQ.2.1]
theorem KL {w:RW} {a c m c' m':Int}:((w.few a c m).few a c' m').fs=w.fs/\((w.few a c m).few a c' m').gl=w.gl/\((w.few a c m).few a c' m').F=w.F/\((w.few a c m).few a c' m').ab=w.ab :=
 ⟨Er.1.trans Er.1,Er.2.1.trans Er.2.1,Er.2.2.1.trans Er.2.2.1,Er.2.2.2.trans Er.2.2.2⟩
theorem Bvu {k d:Nat} (hk:500000<=k) (hE:OO (RC.at k) d) (hL:RxL (RC.at k) d) (hB:∀ b,FH b->gw b->sz b<=d->RxB (RC.at k) d b):∀ x,IsS x->gw x->sz x<=d+1->∀ (w:RW) (lo:List Ah) (lp:Bool),Fk w lo (sz x) ->
  (RC.at (k+1)).Df w.fs w.gl (w.F:Int) w.ab w.er.1 w.er.2 x.kind x.text x.n x.at_ x.kids lo lp=some ((CA (d+1) w lo x lp).2,o6 (CA (d+1) w lo x lp).1):=λx hx hw hd w lo lp hb=>by
 cases x with
 | mk k0 t n a l0 =>
 obtain ⟨_,hgl⟩:=hw;have hgl:=Ka.1 hgl;simp only [sz] at hd hb;have hlen:=Fu l0;have hp:=hb.pw;have hlo:=hb.lo;show Df.g (RC.at k) k w.fs w.gl (w.F:Int) w.ab w.er.1 w.er.2 k0 t n a l0 lo lp=_;have XS:∀ {l:List Tree},(∀ x ∈ l,IsE x/\x ∈ l0)->∀ {w':RW},Fk w' lo (A_ l)->(RC.at k).DE w'.fs w'.gl (w'.F:Int) w'.ab w'.er.1 w'.er.2 l lo=some (o4 (exF d lo w' l)):=λ{l} hl {w'} hb=>hL w' lo _ (λx hx=>⟨.inl (hl x hx).1,hgl x (hl x hx).2,by have:=IS (hl x hx).2;omega⟩) hb;have QM:∀ {c c':Int} {n:Nat},n<=A_ l0+1->Fk ((w.few a c 50).few a c' 50) lo n:=λhn=>(hb.weak (m:=0+_) (by omega)).step Pf (Nat.le_refl _);cases hx with
 | @loc a t l m hl hm =>
  rw [Atk];unfold Df.g AN;dsimp only;rw [Eb] at hb QM;have hml:(l++m).length=l.length+m.length:=BT;have hl1:=Fu l;rw [Cg (by decide),cond_false,eqC rfl,cond_true,KM,Aq,KM (w:=w.few a (l.length:Nat) 50),Aq,wiC _ (by omega) (by omega)];rw [Jn l.length (l++m).length (by omega) (by omega) (by omega) (Nat.le_refl _),Aq,List.drop_left,hml,Nat.add_sub_cancel_left,List.take_of_length_le (Nat.le_refl _)];have h1:=XS (l:=m) (λx hx=>⟨hm x hx,by simp [hx]⟩) (QM (c:=(l.length:Nat)) (c':=((l++m).length - (l.length:Nat):Int)) (n:=A_ m) (by omega));rw [KL.1,KL.2.1,KL.2.2.1,KL.2.2.2] at h1;rw [hml] at h1;rw [h1,Aq,Jn 0 l.length (by omega) (by omega) (Nat.zero_le _) (by rw [hml];omega),Aq];simp only [List.drop_zero,Nat.sub_zero,List.take_left];have hg:Gr w (exF d lo ((w.few a (l.length:Nat) 50).few a ((l.length+m.length:Nat) - (l.length:Nat):Int) 50) m) (0+A_ m):=Pf.trans Mo;have h2:=Xf (w:=exF d lo ((w.few a (l.length:Nat) 50).few a ((l.length+m.length:Nat) - (l.length:Nat):Int) 50) m) (a:=a) (k:=k) 21 t (l.length:Nat) (l++m) lo l 0 ((hb.weak (m:=A_ m+0) (by omega)).step hg (by omega)).F (by omega) (by omega) (by omega) hk;rw [hg.F] at h2;unfold o4;dsimp only;rw [show ((0:Nat):Int)=0 from rfl] at h2;rw [h2,Aq];unfold o4w o6;rw [KH.1,KH.2.1,KH.2.2,hg.F,hg.ab]
 | @asg a t l m hl hl2 hm hm2 =>
  rw [Atl];have hml:(l++m).length=l.length+m.length:=BT;unfold Df.g AN;dsimp only;rw [Cg (by decide),cond_false,Cg (by decide),cond_false,eqC rfl,cond_true,KM,Aq,KM (w:=w.few a (l.length:Nat) 50),Aq,wiC _ (by omega) (by omega)];have h1:=Agd hE (l.length:Nat) (λl4 l9 x14 l15 x20 x21=>some (lo,l4,l9,x14,l15,x20,x21)) (l++m) [] ((w.few a (l.length:Nat) 50).few a ((l++m).length - (l.length:Nat)) 50) lo k (by simp only [Bp];omega) (by omega) (λx hx=>⟨.inl (by
   rcases EL.1 hx with hx | hx;exact (hl2 x hx).1;exact hm2 x hx),hgl x hx,by have:=IS hx;omega⟩) (QM (by omega))
  rw [KL.1,KL.2.1,KL.2.2.1,KL.2.2.2] at h1;refine Eq.trans h1 ?_;have hg:Gr w (IQ (λw x b=>Co d lo w x b) (l.length:Nat) 0 ((w.few a (l.length:Nat) 50).few a ((l++m).length - (l.length:Nat)) 50) (l++m)) _:=Pf.trans Yc;unfold o6;rw [hg.F,hg.ab];rfl
 | @run n a t x hx hq =>
  rw [Atm];unfold Df.g AN;dsimp only;rw [Cg (by decide),cond_false,Cg (by decide),cond_false,Cg (by decide),cond_false,eqC rfl,cond_true];rw [XS (l:=[x]) (λy hy=>by obtain rfl:=Fc.1 hy;exact ⟨hx,by simp⟩) (hb.weak (by omega)),Aq];have hg:Gr w (exF d lo w [x]) _:=Mo;unfold o6 o4;rw [hg.F,hg.ab]
 | @if_ n a t l hl =>
  rw [Atn];unfold Df.g AN;dsimp only;rw [Cg (by decide),cond_false,Cg (by decide),cond_false,Cg (by decide),cond_false,Cg (by decide),cond_false,eqC rfl,cond_true];have h1:=Amd (lp:=lp) hE (λl4 l9 x14 l15 x20 x21=>some (lo,l4,l9,x14,l15,x20,x21)) l0 [] w lo k (by simp only [Bp];omega) (by omega) (λx hx=>by
   have:=IS hx;rcases IsR.kinds hl x hx with h | h;exact .inl ⟨h,hB x h (hgl x hx) (by omega)⟩;exact .inr ⟨h,hgl x hx,by omega⟩) (hb.weak (by omega))
  exact h1
 | @while_ n a t x b hx hq =>
  rw [Ato];simp only [A_] at hb hd;unfold Df.g AN;dsimp only;rw [Cg (by decide),cond_false,Cg (by decide),cond_false,Cg (by decide),cond_false,Cg (by decide),cond_false,Cg (by decide),cond_false,eqC rfl,cond_true];rw [show B5 [x,b] (0:Int)=some x from rfl,Aq,hE w lo x false (.inl hx) (hgl x (by simp)) (by omega) (hb.weak (by omega)),Aq,show B5 [x,b] (1:Int)=some b from rfl,Aq];have hg:Gr w (Co d lo w x false) (sz x):=MM;have h2:=hB b hq (hgl b (by simp)) (by omega) (Co d lo w x false) lo true ((hb.weak (m:=sz x+sz b) (by omega)).step hg (by omega));rw [hg.F,hg.ab] at h2;unfold o4;dsimp only;rw [h2,Aq]
 | @for_ n a t x b l hl he hq =>
  rw [Atp];rw [Eb] at hb hd;simp only [A_] at hb hd;have hl1:=Fu l;have hml:(x :: l++[b]).length=l.length+2:=by simp
  unfold Df.g AN;dsimp only;rw [Cg (by decide),cond_false,Cg (by decide),cond_false,Cg (by decide),cond_false,Cg (by decide),cond_false,Cg (by decide),cond_false,Cg (by decide),cond_false,eqC rfl,cond_true,wiC _ (by omega) (by omega)];rw [Jn 1 (l.length+1) (by omega) (by rw [hml];omega) (by omega) (by rw [hml];omega),Aq,show ((x :: l++[b]).drop 1).take (l.length+1 - 1)=l by simp];rw [XS (l:=l) (λy hy=>⟨he y hy,by simp [hy]⟩) (hb.weak (by omega)),Aq,KP (l.length+1) (by rw [hml];omega) (by rw [hml];omega),show Cc (x :: l++[b]) (l.length+1)=b from Ts (l:=x :: l),Aq];rw [Jn 0 1 (by omega) (by omega) (by omega) (by rw [hml];omega),Aq,show ((x :: l++[b]).drop 0).take (1 - 0)=[x] by simp];have hg:Gr w (exF d lo w l) (A_ l):=Mo;have hb2:=(hb.weak (m:=A_ l+sz b) (by omega)).step hg (by omega);have hx1:=M4 x;have h2:=Xf (w:=exF d lo w l) (a:=a) (k:=k) 26 t n (x :: l++[b]) lo [x] 3 hb2.F (by simp) (by omega) (by omega) hk;rw [hg.F] at h2;unfold o4;dsimp only;rw [show ((3:Nat):Int)=3 from rfl] at h2;rw [h2,Aq];obtain ⟨g1,g2⟩:=ML (w:=exF d lo w l) (a:=a) (lo:=lo) (l:=[x]) (n:=3);simp only [AX,Bp] at g2;have hb3:Fk ((exF d lo w l).brings a lo [x] 3).1 ((exF d lo w l).brings a lo [x] 3).2 (sz b):=by
   have:=(hb2.weak (m:=0+(sz b)) (by omega)).step g1 (by omega);exact ⟨this.F,this.pw,by have:=hb.lo;omega,this.ab⟩
  have h3:=hB b hq (hgl b (by simp)) (by omega) _ _ true hb3;rw [KH.1,KH.2.1,KH.2.2,hg.F,hg.ab] at h3;unfold o4w;dsimp only;rw [h3,Aq]
 | @forIn a t b l m hl hm hm2 hq =>
  rw [Atq];rw [Eb,Eb] at hb hd QM;simp only [A_] at hb hd QM;have hl1:=Fu l;have hm1:=Fu m;have hml:(l++m++[b]).length=l.length+m.length+1:=by simp [Nat.add_assoc]
  unfold Df.g AN;dsimp only;rw [Cg (by decide),cond_false,Cg (by decide),cond_false,Cg (by decide),cond_false,Cg (by decide),cond_false,Cg (by decide),cond_false,Cg (by decide),cond_false,Cg (by decide),cond_false,eqC rfl,cond_true,KM,Aq,wiC (((l++m++[b]).length:Int) - 1) (by omega) (by omega),wiC _ (by omega) (by omega),KM (w:=w.few a (l.length:Nat) 50),Aq];rw [Jn l.length (l.length+m.length) (by omega) (by rw [hml];omega) (by omega) (by rw [hml];omega),Aq,show ((l++m++[b]).drop l.length).take (l.length+m.length - l.length)=m by rw [C8,List.drop_left,Nat.add_sub_cancel_left,List.take_left]];have h1:=XS (l:=m) (λx hx=>⟨hm2 x hx,by simp [hx]⟩) (QM (c:=(l.length:Nat)) (c':=((l++m++[b]).length - 1 - (l.length:Nat):Int)) (n:=A_ m) (by omega));rw [KL.1,KL.2.1,KL.2.2.1,KL.2.2.2] at h1;rw [h1,Aq,KP (l.length+m.length) (by rw [hml];omega) (by rw [hml];omega),show Cc (l++m++[b]) (l.length+m.length)=b by rw [<- BT];exact Ts,Aq];rw [Jn 0 l.length (by omega) (by omega) (Nat.zero_le _) (by rw [hml];omega),Aq,show ((l++m++[b]).drop 0).take (l.length - 0)=l by rw [List.drop_zero,Nat.sub_zero,C8,List.take_left]];have hg:Gr w (exF d lo ((w.few a (l.length:Nat) 50).few a ((l++m++[b]).length - 1 - (l.length:Nat):Int) 50) m) (0+A_ m):=Pf.trans Mo;have hb2:=(hb.weak (m:=A_ m+(sz b+l.length)) (by omega)).step hg (by omega);have hb4:lo.length+(sz b+l.length+3)<=500000:=by have:=hb.lo;omega
  have h2:=Xf (w:=exF d lo ((w.few a (l.length:Nat) 50).few a ((l++m++[b]).length - 1 - (l.length:Nat):Int) 50) m) (a:=a) (k:=k) 27 t (l.length:Nat) (l++m++[b]) lo l 3 hb2.F (by omega) (by omega) (by omega) hk;rw [hg.F] at h2;unfold o4;dsimp only;rw [show ((3:Nat):Int)=3 from rfl] at h2;rw [h2,Aq];obtain ⟨g1,g2⟩:=ML (w:=exF d lo ((w.few a (l.length:Nat) 50).few a ((l++m++[b]).length - 1 - (l.length:Nat):Int) 50) m) (a:=a) (lo:=lo) (l:=l) (n:=3);have hne:1<=m.length:=by cases m with | nil=>exact absurd rfl hm | cons _ _=>simp
  have hb3:Fk ((exF d lo ((w.few a (l.length:Nat) 50).few a ((l++m++[b]).length - 1 - (l.length:Nat):Int) 50) m).brings a lo l 3).1 ((exF d lo ((w.few a (l.length:Nat) 50).few a ((l++m++[b]).length - 1 - (l.length:Nat):Int) 50) m).brings a lo l 3).2 (sz b):=by
   have:=(hb2.weak (m:=0+(sz b)) (by omega)).step g1 (by omega);exact ⟨this.F,this.pw,by have:=hb.lo;omega,this.ab⟩
  have h3:=hB b hq (hgl b (by simp)) (by omega) _ _ true hb3;rw [KH.1,KH.2.1,KH.2.2,hg.F,hg.ab] at h3;unfold o4w;dsimp only;rw [h3,Aq]
 | @do_ n a t b hq =>
  rw [Ats];simp only [A_] at hb hd;unfold Df.g AN;dsimp only;rw [Cg (by decide),cond_false,Cg (by decide),cond_false,Cg (by decide),cond_false,Cg (by decide),cond_false,Cg (by decide),cond_false,Cg (by decide),cond_false,Cg (by decide),cond_false,Cg (by decide),cond_false,eqC rfl,cond_true];rw [show B5 [b] (0:Int)=some b from rfl,Aq,hB b hq (hgl b (by simp)) (by omega) w lo lp (hb.weak (by omega)),Aq]
 | @break_ n a t =>
  rw [Atu];unfold Df.g AN;dsimp only;rw [Cg (by decide),cond_false,Cg (by decide),cond_false,Cg (by decide),cond_false,Cg (by decide),cond_false,Cg (by decide),cond_false,Cg (by decide),cond_false,Cg (by decide),cond_false,Cg (by decide),cond_false,Cg (by decide),cond_false,eqC rfl,cond_true];cases lp with
  | true=>rfl
  | false =>
   rw [Bool.not_false,cond_true,NL,Aq];show _=some (lo,o6 (w.bad 5 a));unfold o6;rw [Js.1,Js.2.1,Js.2.2.1,Js.2.2.2]
 | @ret n a t l hl =>
  rw [Atv];unfold Df.g AN;dsimp only;rw [Cg (by decide),cond_false,Cg (by decide),cond_false,Cg (by decide),cond_false,Cg (by decide),cond_false,Cg (by decide),cond_false,Cg (by decide),cond_false,Cg (by decide),cond_false,Cg (by decide),cond_false,Cg (by decide),cond_false,Cg (by decide),cond_false,eqC rfl,cond_true,KM,Aq];have h1:=XS (l:=l0) (w':=w.few a (l0.length:Nat) 50) (λx hx=>⟨hl x hx,hx⟩) ((hb.weak (m:=0+A_ l0) (by omega)).step Mp (Nat.le_refl _));rw [Er.1,Er.2.1,Er.2.2.1,Er.2.2.2] at h1;rw [h1,Aq];have hg:Gr w (exF d lo (w.few a (l0.length:Nat) 50) l0) _:=Mp.trans Mo;unfold o6 o4;rw [hg.F,hg.ab]
def Dh (a0:Int) (s:Bo):RW:=⟨(noB,a0,0,s.sl,s.cs) :: s.fs.tail,s.gl,0,[],(0,0)⟩
theorem Av7 {a0:Int} {s s':Bo} (h:s'.fs=s.fs):(Dh a0 s).put s'=Dh a0 s':=by
 unfold Dh RW.put RW.mod;rw [h];rfl
def Rt (a0:Int) (x:PC Bo) (w':RW):Prop:=match x with | .ok s=>w'=Dh a0 s | .bad e=>w'.er=e/\e.1≠0
theorem modify_last {α:Type} (x:α) (f:α->α):∀ l:List α,(l++[x]).modify l.length f=l++[f x]
 | []=>rfl
 | y :: l=>by
  show y :: (l++[x]).modify l.length f=y :: (l++[f x]);rw [modify_last x f l]
def fnR (d:Nat) (t:Ah) (a n:Int) (lo:List Ah) (ps:List Tree) (b:Tree) (w:RW):RW :=
 let w:=(w.few a n 50).EZ t;let w:RW:={ w with ab:=lo,F:=w.fs.length,fs:=w.fs++[(t,a,n,0,[])] };let r:=w.brings a [] ps 0
 { rB d r.1 r.2 b false with F:=0,ab:=[] }
theorem Ajh {d:Nat} {t:Ah} {a n:Int} {lo:List Ah} {ps:List Tree} {b:Tree} {w:RW} (h:w.er.1≠0):(fnR d t a n lo ps b w).er=w.er:=by
 have e1:(w.few a n 50).er=w.er:=RW.SJ h;have e2:=RW.OW (w:={ (w.few a n 50).EZ t with ab:=lo,F:=((w.few a n 50).EZ t).fs.length,fs:=((w.few a n 50).EZ t).fs++[(t,a,n,0,[])] }) (a:=a) (lo:=[]) (l:=ps) (n:=0) (by show (w.few a n 50).er.1≠0;rw [e1];exact h);have e2:_=(w.few a n 50).er:=e2;show (rB d _ _ b false).er=w.er;rw [O0 (by rw [e2,e1];exact h),e2,e1]
theorem Bly {d:Nat} {ab:List Ah} {s:Bo} {t:Ah} {n a:Int} {l:List Tree} {tg:Bool}:Bq (d+1) ab s (.mk 31 t n a l) tg =
  (Dv a (s.fs.length:Nat) 100).th λ_=>if Ej t then .bad (5,a) else (Dv a n 50).th λ_=>(Fy a 0 [] (l.take n.toNat)).th λr =>
   (Bq d s.lo ⟨s.fs,EY s.gl t,r.1,[],r.2,0⟩ (Cc l n.toNat) false).th λs'=>.ok { s with fs:=s'.fs++[(t,a,n,s'.sl,s'.cs)],gl:=s'.gl }:=rfl
theorem A6o {d:Nat} {a0 a:Int} {s:Bo} {t:Ah} {l:List Tree} {b:Tree} (hb:FH b) (gb:gw b) (hd:sz b<=d) (hf:s.fs≠[]) :
  Rt a0 (Bq (d+1) [] s (.mk 31 t (l.length:Nat) a (l++[b])) false) (CA (d+1) (Dh a0 s) s.lo (.mk 31 t (l.length:Nat) a (l++[b])) false).1 /\
   ∀ s',Bq (d+1) [] s (.mk 31 t (l.length:Nat) a (l++[b])) false=.ok s'->s'.lo=s.lo/\s'.lp=s.lp/\s'.fs≠[]:=by
 have e0:CA (d+1) (Dh a0 s) s.lo (.mk 31 t (l.length:Nat) a (l++[b])) false =
   (fnR d t a (l.length:Nat) s.lo ((l++[b]).take ((l.length:Nat):Int).toNat) (Cc (l++[b]) ((l.length:Nat):Int).toNat) (if Ej t then ((Dh a0 s).few a ((Dh a0 s).fs.length:Nat) 100).bad 5 a else (Dh a0 s).few a ((Dh a0 s).fs.length:Nat) 100),s.lo):=rfl
 rw [e0,Bly];simp only [Int.toNat_natCast,List.take_left,Ts];have A3u:(Dh a0 s).fs.length=s.fs.length:=by
  cases hq:s.fs with
  | nil=>exact absurd hq hf
  | cons x r=>unfold Dh;simp [hq]
 rw [A3u];unfold Dv;by_cases h1:((s.fs.length:Nat):Int) > 100;rw [if_pos h1];have er1:((Dh a0 s).few a (s.fs.length:Nat) 100).er=(6,a):=by unfold RW.few;rw [if_pos h1];rfl
 have er2:(if Ej t then ((Dh a0 s).few a (s.fs.length:Nat) 100).bad 5 a else (Dh a0 s).few a (s.fs.length:Nat) 100).er=(6,a):=by
  split;rw [RW.Vl (by rw [er1];exact Nf),er1];exact er1
 exact ⟨⟨by rw [Ajh (by rw [er2];exact Nf),er2],Nf⟩,λs' e=>(by cases e)⟩;rw [if_neg h1];have e1:(Dh a0 s).few a (s.fs.length:Nat) 100=Dh a0 s:=by unfold RW.few;rw [if_neg h1]
 rw [e1];show Rt a0 (if Ej t then _ else _) _/\∀ s',(if Ej t then _ else _)=_->_;cases hk:Ej t with
 | true=>exact ⟨⟨Ajh (w:=(Dh a0 s).bad 5 a) ne5,ne5⟩,λs' e=>(by cases e)⟩
 | false =>
 simp only [Bool.false_eq_true,if_false];by_cases h2:((l.length:Nat):Int) > 50;rw [if_pos h2];refine ⟨?_,λs' e=>(by cases e)⟩;have er1:((Dh a0 s).few a (l.length:Nat) 50).er=(6,a):=by unfold RW.few;rw [if_pos h2];rfl
 have e2:=RW.OW (w:={ ((Dh a0 s).few a (l.length:Nat) 50).EZ t with ab:=s.lo,F:=(((Dh a0 s).few a (l.length:Nat) 50).EZ t).fs.length,fs:=(((Dh a0 s).few a (l.length:Nat) 50).EZ t).fs++[(t,a,((l.length:Nat):Int),0,[])] }) (a:=a) (lo:=[]) (l:=l) (n:=0) (by show ((Dh a0 s).few a (l.length:Nat) 50).er.1≠0;rw [er1];exact Nf);have e2:_=((Dh a0 s).few a (l.length:Nat) 50).er:=e2;refine ⟨?_,Nf⟩;show (rB d _ _ b false).er=(6,a);rw [O0 (by rw [e2,er1];exact Nf),e2,er1];rw [if_neg h2];have e2:(Dh a0 s).few a (l.length:Nat) 50=Dh a0 s:=by unfold RW.few;rw [if_neg h2]
 obtain ⟨w,hw⟩:∃ w:RW,w={ (Dh a0 s).EZ t with ab:=s.lo,F:=((Dh a0 s).EZ t).fs.length,fs:=((Dh a0 s).EZ t).fs++[(t,a,((l.length:Nat):Int),0,[])] }:=⟨_,rfl⟩;have key:fnR d t a (l.length:Nat) s.lo l b (Dh a0 s)={ rB d (w.brings a [] l 0).1 (w.brings a [] l 0).2 b false with F:=0,ab:=[] }:=by
  subst hw;unfold fnR;rw [e2]
 rw [key];have her:w.er.1=0:=by subst hw;rfl
 have hF:w.F < w.fs.length:=by subst hw;simp
 have hab:w.ab=s.lo:=by subst hw;rfl
 have hput:∀ s':Bo,w.put s'={ w with fs:=((noB,a0,0,s.sl,s.cs) :: s.fs.tail)++[(t,a,((l.length:Nat):Int),s'.sl,s'.cs)],gl:=s'.gl }:=λs'=>by
  subst hw;show RW.mk (List.modify _ _ _) _ _ _ _=RW.mk _ _ _ _ _;rw [show ((Dh a0 s).EZ t).fs.length=((noB,a0,0,s.sl,s.cs) :: s.fs.tail:List DB).length from rfl];show RW.mk (List.modify (((noB,a0,0,s.sl,s.cs) :: s.fs.tail)++[(t,a,((l.length:Nat):Int),0,[])]) _ _) _ _ _ _=RW.mk _ _ _ _ _;rw [modify_last];rfl
 have hw1:w.put ⟨s.fs,EY s.gl t,0,[],[],0⟩=w:=by
  rw [hput];subst hw;rfl
 obtain ⟨b1,b2⟩:=XH (w:=w) (s:=⟨s.fs,EY s.gl t,0,[],[],0⟩) (a:=a) (x:=l) her;simp only [hw1] at b1 b2;let g2:Bo->PC Bo:=λs'=>.ok { s with fs:=s'.fs++[(t,a,((l.length:Nat):Int),s'.sl,s'.cs)],gl:=s'.gl };let g1:Int×List Ah->PC Bo:=λr=>(Bq d s.lo ⟨s.fs,EY s.gl t,r.1,[],r.2,0⟩ b false).th g2;show Rt a0 (PR.th (Fy a 0 [] l) g1) { rB d (w.brings a [] l 0).1 (w.brings a [] l 0).2 b false with F:=0,ab:=[] }/\∀ s',PR.th (Fy a 0 [] l) g1=.ok s'->s'.lo=s.lo/\s'.lp=s.lp/\s'.fs≠[];cases hr:Fy a 0 [] l with
 | bad e =>
  obtain ⟨c1,c2⟩:=b2 _ hr;refine ⟨⟨?_,c2⟩,λs' e=>(by cases e)⟩;show (rB d (w.brings a [] l 0).1 _ b false).er=e;rw [O0 (by rw [c1];exact c2),c1]
 | ok r =>
  rw [b1 _ hr];obtain ⟨q1,q2⟩:=((Ac5 her hF hab d).2 false 0 b (Int.le_refl _) ⟨λh=>by (cases h),λh=>absurd rfl h⟩ hb gb hd) ⟨s.fs,EY s.gl t,r.1,[],r.2,0⟩ rfl;have ep:w.put { (⟨s.fs,EY s.gl t,0,[],[],0⟩:Bo) with sl:=r.1 }=w.put ⟨s.fs,EY s.gl t,r.1,[],r.2,0⟩:=rfl;show Rt a0 (PR.th (Bq d s.lo ⟨s.fs,EY s.gl t,r.1,[],r.2,0⟩ b false) g2) { rB d (w.put { (⟨s.fs,EY s.gl t,0,[],[],0⟩:Bo) with sl:=r.1 }) r.2 b false with F:=0,ab:=[] }/\∀ s',PR.th (Bq d s.lo ⟨s.fs,EY s.gl t,r.1,[],r.2,0⟩ b false) g2=.ok s'->s'.lo=s.lo/\s'.lp=s.lp/\s'.fs≠[];rw [ep];cases hn:Bq d s.lo ⟨s.fs,EY s.gl t,r.1,[],r.2,0⟩ b false with
  | bad e =>
   rw [hn] at q1;exact ⟨⟨q1.1,q1.2⟩,λs' e=>(by cases e)⟩
  | ok s' =>
   rw [hn] at q1;have q1:rB d (w.put ⟨s.fs,EY s.gl t,r.1,[],r.2,0⟩) r.2 b false=w.put s':=q1;obtain ⟨_,k2,_⟩:=q2 _ hn;have k2:s'.fs=s.fs:=k2;refine ⟨?_,λs2 e=>by cases e;exact ⟨rfl,rfl,by simp⟩⟩;show ({ rB d (w.put ⟨s.fs,EY s.gl t,r.1,[],r.2,0⟩) r.2 b false with F:=0,ab:=[] }:RW)=Dh a0 { s with fs:=s'.fs++[(t,a,((l.length:Nat):Int),s'.sl,s'.cs)],gl:=s'.gl };rw [q1,hput,k2];unfold Dh;have et:(s.fs++[(t,a,((l.length:Nat):Int),s'.sl,s'.cs)]).tail=s.fs.tail++[(t,a,((l.length:Nat):Int),s'.sl,s'.cs)]:=by
    cases hq:s.fs with
    | nil=>exact absurd hq hf
    | cons x r=>rfl
   simp only [et];subst hw;rfl
theorem Ahk {d:Nat} {a0:Int}:∀ {l:List Tree} {s:Bo},s.lp=0->s.fs≠[]->(∀ x ∈ l,IsS x\/OJ x)->MN l->A_ l<=d+1 ->
  Rt a0 (CZ (λs x=>Bq (d+1) [] s x false) s l) (Hz (λw lo x=>CA (d+1) w lo x false) (Dh a0 s) s.lo l)
 | [],s,_,_,_,_,_=>rfl
 | x :: l,s,hp,hf,hx,hg,hd=>by
  simp only [A_] at hd;have ht:=λ(s':Bo) (hp:s'.lp=0) (hf:s'.fs≠[])=>Ahk (d:=d) (a0:=a0) (l:=l) hp hf (λy hy=>hx y (EM _ hy)) hg.2 (by omega);have H:Rt a0 (Bq (d+1) [] s x false) (CA (d+1) (Dh a0 s) s.lo x false).1/\∀ s',Bq (d+1) [] s x false=.ok s'->(CA (d+1) (Dh a0 s) s.lo x false).2=s'.lo/\s'.lp=0/\s'.fs≠[]:=by
   rcases hx x (DT ..) with h | h;obtain ⟨q1,q2⟩:=(Ac5 (w:=Dh a0 s) (ab:=[]) rfl (Nat.zero_lt_succ _) rfl (d+1)).1 false 0 x (Int.le_refl _) ⟨λh=>by (cases h),λh=>absurd rfl h⟩ h hg.1 (by omega) s hp;rw [Av7 rfl] at q1 q2;refine ⟨?_,λs' e=>?_⟩;cases hn:Bq (d+1) [] s x false with
   | bad e=>rw [hn] at q1;exact q1
   | ok s' =>
    rw [hn] at q1;have q1:(CA (d+1) (Dh a0 s) s.lo x false).1=(Dh a0 s).put s':=q1;show (CA (d+1) (Dh a0 s) s.lo x false).1=Dh a0 s';rw [q1,Av7 (q2 _ hn).2.1]
   obtain ⟨k1,k2,k3⟩:=q2 _ e;exact ⟨k1,k3.trans hp,by rw [k2];exact hf⟩;cases h with
   | @fn a t l' b hb =>
    simp only [sz] at hd;rw [Eb] at hd;simp only [A_] at hd;obtain ⟨_,hgl⟩:=hg.1;obtain ⟨q1,q2⟩:=A6o (d:=d) (a0:=a0) (a:=a) (s:=s) (t:=t) (l:=l') hb (Ka.1 hgl b (by simp)) (by omega) hf;refine ⟨q1,λs' e=>?_⟩;obtain ⟨k1,k2,k3⟩:=q2 _ e;exact ⟨k1.symm,k2.trans hp,k3⟩
  obtain ⟨h1,h2⟩:=H;unfold CZ Hz;rw [if_neg (show ¬ (Dh a0 s).er.1≠0 from λh=>h rfl)];cases hn:Bq (d+1) [] s x false with
  | bad e =>
   rw [hn] at h1;obtain ⟨c1,c2⟩:=h1;show Rt a0 (.bad e) (Hz _ (CA (d+1) (Dh a0 s) s.lo x false).1 _ l);rw [Ab6 (by rw [c1];exact c2)];exact ⟨c1,c2⟩
  | ok s' =>
   rw [hn] at h1;have h1:(CA (d+1) (Dh a0 s) s.lo x false).1=Dh a0 s':=h1;obtain ⟨k1,k2,k3⟩:=h2 _ hn;rw [h1,k1];exact ht s' k2 k3
theorem Awb {d:Nat} {n:Tree} (hn:IsC n) (hg:gw n) (hd:sz n<=d+2):Ur (d+2) n=Ath n.at_ (Xa (d+2) n):=by
 unfold Ur Xa;by_cases hh:htT n > 100
 ·rw [if_pos hh,if_pos hh];rfl
 rw [if_neg hh,if_neg hh];cases hn with
 | @chunk n a t l hl =>
  obtain ⟨_,hg⟩:=hg;simp only [sz] at hd;have q:=Ahk (d:=d) (a0:=a) (l:=l) (s:=st0) rfl (by simp [st0]) hl hg (by omega);have e:Bq (d+2) [] st0 (.mk 20 t n a l) false=(CZ (λs x=>Bq (d+1) [] s x false) st0 l).th λs'=>.ok { s' with lo:=s'.lo.take st0.lo.length }:=by
   conv=>lhs;unfold Bq
   rw [if_pos rfl]
  rw [e];show (let w:=Hz (λw lo x=>CA (d+1) w lo x false) (Dh a st0) st0.lo l;if w.er.1≠0 then ([],[],w.er.1,w.er.2) else (w.fs,w.gl,0,0))=_;simp only;cases hr:CZ (λs x=>Bq (d+1) [] s x false) st0 l with
  | bad e =>
   rw [hr] at q;obtain ⟨c1,c2⟩:=q;rw [c1,if_pos c2];rfl
  | ok s' =>
   rw [hr] at q;have q:Hz (λw lo x=>CA (d+1) w lo x false) (Dh a st0) st0.lo l=Dh a s':=q;rw [q,if_neg (λh=>h rfl)];rfl
end
section
open Go Go.RowKit
def eT3 (n:Tree) (i f:Int):Int×Ah×Int×Int×List Tree×Int×Int:=(n.kind,n.text,n.n,n.at_,n.kids,i,f)
def HY (n:List Tree) (i f:Int):List Tree×Int×Int:=(n,i,f)
def FJ (_:Unit) (i f:Int):Int×Int:=(i,f)
def EE (l:List Tk):Int:=(l.length:Int) - 1
def Rel {α β:Type} (l:List Tk) (Af:α->Prop) (e:α->Int->Int->β) (x:Option β):PV α->Prop
 | .ok a r=>x=some (e a (ix l r) (-1))
 | .bad b=>0<=b/\∃ a,Af a/\x=some (e a (EE l) b)
def GT (_:Tree):Prop:=True
def GU (_:Unit):Prop:=True
def GL (a:List Tree):Prop:=a.length<=3000000
theorem CL {α β α' β':Type} {l ts:List Tk} {n:Nat} {Af:α->Prop} {G':α'->Prop} {e:α->Int->Int->β} {e':α'->Int->Int->β'} {x:Option β} {v:PV α} {F:β->Option β'} {g:α->List Tk->PV α'} (hx:Rel l Af e x v) (hw:Fwd n ts v)
  (h1:∀ a r,v=.ok a r->Good r->r <:+ ts->r.length+n<=ts.length->Rel l G' e' (F (e a (ix l r) (-1))) (g a r)) (h2:∀ a b,0<=b->Af a->∃ a',G' a'/\F (e a (EE l) b)=some (e' a' (EE l) b)):Rel l G' e' (x.bind F) (v.then g):=by
 cases v with
 | bad b =>
  obtain ⟨hb,a,ha,rfl⟩:=hx;obtain ⟨a',ha',h⟩:=h2 a b hb ha;exact ⟨hb,a',ha',h⟩
 | ok a r =>
  have hx:x=_:=hx;subst hx;exact h1 a r rfl hw.1 hw.2.2 hw.2.1
theorem FO {α β:Type} {l:List Tk} {Af:α->Prop} {e:α->Int->Int->β} {c:Prop} [Decidable c] {b:Bool} {x y:Option β} {v w:PV α} (hb:b=decide c) (h1:c->Rel l Af e x v) (h2:¬ c->Rel l Af e y w):Rel l Af e (cond b x y) (if c then v else w):=by
 subst hb;by_cases h:c;rw [if_pos h,decide_eq_true h];exact h1 h;rw [if_neg h,decide_eq_false h];exact h2 h
def KC (ts:List Tk):Prop:=∀ t ∈ ts,0<=t.2.2.2
theorem KC.hd {ts:List Tk} (h:KC ts):0<=(hd ts).2.2.2:=by
 cases ts with
 | nil=>exact Int.le_refl _
 | cons t ts=>exact h t (DT ..)
theorem KC.suf {ts r:List Tk} (h:KC ts) (hs:r <:+ ts):KC r:=λt ht=>h t (hs.subset ht)
theorem Amt {w:Ah} {ts:List Tk} (h:AB w ts=true) (w':Ah):AB w' ts=(w.toList == w'.toList):=by
 unfold AB isT at *;simp only [Bool.and_eq_true] at h;rw [h.1,Bool.true_and,eq_of_beq h.2]
theorem Bhl {w:Ah} {ts:List Tk} (h:AB w ts=true):(hd ts).2.1=w:=by
 unfold AB isT at h;simp only [Bool.and_eq_true] at h;have:=eq_of_beq h.2;rw [Lib.toList_data,Lib.toList_data] at this;have e:∀ a b:Ah,a.data.toList=b.data.toList->a=b:=λa b h=>by
  cases a;cases b;simp only [ByteArray.mk.injEq];exact Array.toList_inj.1 h
 exact e _ _ this
section
variable {l:List Tk} (hl:l.length<=1000000) (h0:l≠[]) (k:Nat)
include hl h0
theorem ZZ:1<=l.length:=by cases l with | nil=>exact absurd rfl h0 | cons=>simp
theorem Zy:∃ t,B5 l (EE l)=some t:=by
 have:=ZZ hl h0;unfold B5 EE;rw [if_pos (by omega),show ((l.length:Int) - 1).toNat=l.length - 1 by omega];exact ⟨l[l.length - 1],List.getElem?_eq_getElem (by omega)⟩
theorem SA (i at_:Int):Iu.f k l i (-1) at_=some (EE l,at_):=by
 have:=ZZ hl h0;unfold Iu.f EE;simp only [AN];rw [wrapM _ (by omega) (by omega)];rfl
variable {b:Int} (hb:0<=b)
include hb
theorem X8 (i at_:Int):Iu.f k l i b at_=some (EE l,b):=by
 have:=ZZ hl h0;unfold Iu.f EE;simp only [AN];rw [wrapM _ (by omega) (by omega),decide_eq_false (by omega)];rfl
theorem Vd:∃ t,Gz.f k l (EE l) b=some t:=by
 obtain ⟨t,ht⟩:=Zy hl h0;unfold Gz.f;rw [ht];exact ⟨_,rfl⟩
theorem U0 (w:Ah):DK.f k l (EE l) b w=some false:=by
 obtain ⟨t,ht⟩:=Zy hl h0;unfold DK.f;rw [ht,decide_eq_false (by omega)];rfl
theorem IT (w:Ah):Cw.f k l (EE l) b w=some (false,EE l):=by
 unfold Cw.f;rw [U0 hl h0 k hb];rfl
theorem GA (w:Ah):CV.f k l (EE l) b w=some (EE l,b):=by
 unfold CV.f;rw [IT hl h0 k hb];obtain ⟨t,ht⟩:=Vd hl h0 k hb;simp only [Aq,Bool.not_false,cond_true,ht,X8 hl h0 k hb]
theorem Aqb (kd:Int):FM.f k l (EE l) b kd=some (0,⟨#[]⟩,0,0,[],EE l,b):=by
 obtain ⟨t,ht⟩:=Zy hl h0;unfold FM.f;rw [ht,decide_eq_true (by omega)];simp only [Aq,cond_true,X8 hl h0 k hb]
theorem A4d:LV.f k l (EE l) b=some true:=by
 unfold LV.f;rw [decide_eq_true (by omega)];rfl
theorem Apv (L:List Ah) (J:Unit->Option Ah):∀ (m:Nat) (j:Nat),L.length < m+j->j<=L.length->L.length<=100->FC.l0 m l (EE l) b L J (j:Int)=J ()
 | 0,j,h,h',_=>by omega
 | m+1,j,h,h',h2=>by
  rw [FC.l0];by_cases hj:j < L.length;rw [decide_eq_true (by omega),show B5 L (j:Int)=some L[j] by unfold B5;rw [if_pos (by omega),Int.toNat_natCast];exact List.getElem?_eq_getElem hj];simp only [cond_true,Aq,U0 hl h0 m hb,cond_false];rw [wrapM _ (by omega) (by omega),show (j:Int)+1=((j+1:Nat):Int) by omega];exact Apv L J m (j+1) (by omega) (by omega) h2;rw [decide_eq_false (by omega)];rfl
theorem Apw (hk:10<=k) (lev:Int):FC.f k l (EE l) b lev=some ⟨#[]⟩:=by
 have key:∀ L:List Ah,L.length<=6->FC.l0 k l (EE l) b L (λ_=>some ⟨#[]⟩) (0:Int)=some ⟨#[]⟩:=λL hL=>Apv hl h0 hb L _ k 0 (by omega) (by omega) (by omega);unfold FC.f;simp only [AN];cases lev == (2:Int) with
 | true=>exact key _ (by simp)
 | false =>
 cases lev == (3:Int) with
 | true=>exact key _ (by simp)
 | false =>
 cases lev == (4:Int) with
 | true=>exact key _ (by simp)
 | false =>
 cases lev == (5:Int) with
 | true=>exact key _ (by simp)
 | false =>
 cases lev == (6:Int) with
 | true=>exact key _ (by simp)
 | false=>exact key _ (by simp)
def RA:Tree:=.mk 0 ⟨#[]⟩ 0 0 []
theorem Aae (J:List Tree->Int->Int->Option (List Tree×Int×Int)) (acc:List Tree) (m:Nat) (hm:0 < m):Gk.l0 m l J acc (EE l) b=J acc (EE l) b:=by
 obtain ⟨m,rfl⟩:∃ n,m=n+1:=⟨m - 1,by omega⟩;rw [Gk.l0,IT hl h0 m hb];rfl
theorem Aql (hk:0 < k):Gk.f k l (EE l) b=some ([RA],EE l,b):=by
 unfold Gk.f;rw [Aqb hl h0 k hb];simp only [Aq,AN];exact Aae hl h0 hb _ _ k hk
end
section
variable {l ts:List Tk} (hl:l.length<=1000000) (ha:KC l) (k:Nat) (hg:Good ts) (hs:ts <:+ l)
include hg hs
theorem Avl:l≠[]:=λh=>by
 subst h;have:=hs.length_le;cases ts with
 | nil=>exact hg
 | cons=>simp at this
theorem OU:Gz.f k l (ix l ts) (-1)=some (hd ts).2.2.2:=by
 unfold Gz.f;rw [LB hg hs];rfl
theorem M1 (w:Ah):DK.f k l (ix l ts) (-1) w=some (AB w ts):=by
 unfold DK.f;rw [LB hg hs];simp only [Aq,AB,isT,show decide ((-1:Int) < 0)=true from rfl,cond_true];cases (hd ts).1 == (2:Int) <;> cases (hd ts).1 == (5:Int) <;> rfl
theorem Ah5:LV.f k l (ix l ts) (-1)=some (JY ts):=by
 unfold LV.f JY;rw [LB hg hs];simp only [M1 k hg hs,Aq,GQ,NY,PB,show decide ((-1:Int) >= 0)=false from rfl,cond_false];generalize ((hd ts).1 == (6:Int))=b1;generalize AB (⟨#[101,110,100]⟩:Ah) ts=b2;generalize AB (⟨#[101,108,115,101]⟩:Ah) ts=b3;generalize AB (⟨#[101,108,115,101,105,102]⟩:Ah) ts=b4;cases b1 <;> cases b2 <;> cases b3 <;> cases b4 <;> rfl
include hl
theorem E8 (w:Ah):Cw.f k l (ix l ts) (-1) w=some (AB w ts,ix l (if AB w ts then ts.tail else ts)):=by
 unfold Cw.f;rw [M1 k hg hs];simp only [Aq];cases h:AB w ts with
 | true=>simp only [cond_true,if_true,I9 hl hg hs (AU h)]
 | false=>rfl
include ha
theorem Hu (w:Ah):Rel l GU FJ (CV.f k l (ix l ts) (-1) w) (Dc w ts):=by
 unfold CV.f Dc;rw [E8 hl k hg hs];simp only [Aq];cases h:AB w ts with
 | true=>rfl
 | false =>
  simp only [Bool.not_false,cond_true,Bool.false_eq_true,if_false];rw [OU k hg hs];simp only [Aq,SA hl (Avl hg hs) k];exact ⟨(ha.suf hs).hd,(),Aj,rfl⟩
theorem Om (kd:Int):Rel l GT eT3 (FM.f k l (ix l ts) (-1) kd) (GH kd ts):=by
 unfold FM.f GH;rw [LB hg hs];simp only [Aq,show decide ((-1:Int) >= 0)=false from rfl,cond_false];by_cases h:(hd ts).1=1;rw [if_pos h,h,I9 hl hg hs (by omega)];rfl;rw [if_neg h,show ((hd ts).1 != 1)=true by rw [bne_iff_ne];exact h];simp only [cond_true,SA hl (Avl hg hs) k,Aq];exact ⟨(ha.suf hs).hd,.mk _ _ _ _ _,Aj,rfl⟩
omit ha
theorem Bkx (J:Unit->Option Ah) (suf:Av):∀ (m:Nat) (pre:Av),suf.length < m->pre.length+suf.length<=100->FC.l0 m l (ix l ts) (-1) (pre++suf) J (pre.length:Int)=match suf.find? (λw=>AB w ts) with | some w=>some w | none=>J ():=by
 induction suf with
 | nil =>
  intro m pre hm hp;obtain ⟨m,rfl⟩:∃ n,m=n+1:=⟨m - 1,by omega⟩;rw [FC.l0,decide_eq_false (by simp)];rfl
 | cons w suf ih =>
  intro m pre hm hp;obtain ⟨m,rfl⟩:∃ n,m=n+1:=⟨m - 1,by omega⟩;simp only [AX] at hm hp;have hx:B5 (pre++w :: suf) (pre.length:Int)=some w:=by
   unfold B5;rw [if_pos (by omega),Int.toNat_natCast];simp
  rw [FC.l0,decide_eq_true (by simp;omega),hx];simp only [cond_true,Aq,M1 m hg hs,List.find?_cons];cases AB w ts with
  | true=>rfl
  | false =>
   simp only [cond_false];rw [wrapM _ (by omega) (by omega),show (pre.length:Int)+1=((pre++[w]).length:Nat) by simp];have:=ih m (pre++[w]) (by omega) (by simp;omega);simp only [C8,List.cons_append,List.nil_append] at this;exact this
end
theorem A0q {w:Ah} {ts:List Tk} (h:AB w ts=true):CS ts=(if w.toList == kOr.toList then 1 else if w.toList == Rf.toList then 2
 else if w.toList == Rj.toList || w.toList == kGt.toList || w.toList == kLe.toList || w.toList == kGe.toList || w.toList == Rk.toList || w.toList == Ri.toList then 3
 else if w.toList == Rh.toList then 4 else if w.toList == Rm.toList || w.toList == Kh.toList then 5 else if w.toList == Ro.toList || w.toList == Rn.toList || w.toList == Rl.toList then 6 else 0):=by
 unfold CS;simp only [Amt h]
theorem Apy {l ts:List Tk} (hl:l.length<=1000000) (k:Nat) (hk:10<=k) (hg:Good ts) (hs:ts <:+ l) (lev:Int) (h1:1<=lev) (h6:lev<=6):FC.f k l (ix l ts) (-1) lev=some (if CS ts=lev then (hd ts).2.1 else ⟨#[]⟩):=by
 have key:∀ L:Av,L.length<=6->(∀ w ∈ L,AB w ts=true->CS ts=lev)->((∀ w ∈ L,AB w ts=false)->CS ts≠lev)->FC.l0 k l (ix l ts) (-1) L (λ_=>some ⟨#[]⟩) (0:Int)=some (if CS ts=lev then (hd ts).2.1 else ⟨#[]⟩):=λL hL hA hB=>by
  have:=Bkx hl hg hs (λ_=>some ⟨#[]⟩) L k [] (by omega) (by simp;omega);rw [List.nil_append] at this;refine Eq.trans this ?_;cases hf:L.find? (λw=>AB w ts) with
  | none =>
   have hall:=List.find?_eq_none.1 hf;rw [if_neg (hB λw hw=>by simpa using hall w hw)]
  | some w =>
   have hw:=List.find?_some hf;rw [if_pos (hA w (List.mem_of_find?_eq_some hf) hw),Bhl hw]
 unfold FC.f;simp only [AN];have hc:lev=1\/lev=2\/lev=3\/lev=4\/lev=5\/lev=6:=by omega
 have lit:∀ {w:Ah},AB w ts=true->∀ n,(if w.data.toList == kOr.data.toList then (1:Int) else if w.data.toList == Rf.data.toList then 2
   else if w.data.toList == Rj.data.toList || w.data.toList == kGt.data.toList || w.data.toList == kLe.data.toList || w.data.toList == kGe.data.toList || w.data.toList == Rk.data.toList || w.data.toList == Ri.data.toList then 3
   else if w.data.toList == Rh.data.toList then 4 else if w.data.toList == Rm.data.toList || w.data.toList == Kh.data.toList then 5 else if w.data.toList == Ro.data.toList || w.data.toList == Rn.data.toList || w.data.toList == Rl.data.toList then 6 else 0)=n->CS ts=n:=λh n hn=>by
  rw [A0q h];simp only [Lib.toList_data];exact hn
 rcases hc with rfl | rfl | rfl | rfl | rfl | rfl
 ·refine key [⟨#[111,114]⟩] (by simp) (λw hw h=>?_) λh=>?_
  ·simp only [Fc] at hw;subst hw;exact lit h _ rfl
  ·have h1:=h _ (.head _)
   unfold CS;rw [show AB kOr ts=false from h1];simp only [Bool.false_eq_true,if_false]
   repeat' split
   all_goals omega
 ·refine key [⟨#[97,110,100]⟩] (by simp) (λw hw h=>?_) λh=>?_
  ·simp only [Fc] at hw;subst hw;exact lit h _ rfl
  ·have h1:=h _ (.head _)
   unfold CS;rw [show AB Rf ts=false from h1];simp only [Bool.false_eq_true,if_false]
   repeat' split
   all_goals omega
 ·refine key [⟨#[60]⟩,⟨#[62]⟩,⟨#[60,61]⟩,⟨#[62,61]⟩,⟨#[126,61]⟩,⟨#[61,61]⟩] (by simp) (λw hw h=>?_) λh=>?_
  ·simp only [List.mem_cons,List.not_mem_nil,or_false] at hw
   rcases hw with rfl | rfl | rfl | rfl | rfl | rfl <;> exact lit h _ rfl
  ·have h1:=h ⟨#[60]⟩ (by simp)
   have h2:=h ⟨#[62]⟩ (by simp);have h3:=h ⟨#[60,61]⟩ (by simp);have h4:=h ⟨#[62,61]⟩ (by simp);have h5:=h ⟨#[126,61]⟩ (by simp);have h6:=h ⟨#[61,61]⟩ (by simp);unfold CS;rw [show AB Rj ts=false from h1,show AB kGt ts=false from h2,show AB kLe ts=false from h3,show AB kGe ts=false from h4,show AB Rk ts=false from h5,show AB Ri ts=false from h6];simp only [Bool.or_false,Bool.false_eq_true,if_false]
   repeat' split
   all_goals omega
 ·refine key [⟨#[46,46]⟩] (by simp) (λw hw h=>?_) λh=>?_
  ·simp only [Fc] at hw;subst hw;exact lit h _ rfl
  ·have h1:=h _ (.head _)
   unfold CS;rw [show AB Rh ts=false from h1];simp only [Bool.false_eq_true,if_false]
   repeat' split
   all_goals omega
 ·refine key [⟨#[43]⟩,⟨#[45]⟩] (by simp) (λw hw h=>?_) λh=>?_
  ·simp only [List.mem_cons,List.not_mem_nil,or_false] at hw
   rcases hw with rfl | rfl <;> exact lit h _ rfl
  ·have h1:=h ⟨#[43]⟩ (by simp)
   have h2:=h ⟨#[45]⟩ (by simp);unfold CS;rw [show AB Rm ts=false from h1,show AB Kh ts=false from h2];simp only [Bool.or_false,Bool.false_eq_true,if_false]
   repeat' split
   all_goals omega
 ·refine key [⟨#[42]⟩,⟨#[47,47]⟩,⟨#[37]⟩] (by simp) (λw hw h=>?_) λh=>?_
  ·simp only [List.mem_cons,List.not_mem_nil,or_false] at hw
   rcases hw with rfl | rfl | rfl <;> exact lit h _ rfl
  ·have h1:=h ⟨#[42]⟩ (by simp)
   have h2:=h ⟨#[47,47]⟩ (by simp);have h3:=h ⟨#[37]⟩ (by simp);unfold CS;rw [show AB Ro ts=false from h1,show AB Rn ts=false from h2,show AB Rl ts=false from h3];simp only [Bool.or_false,Bool.false_eq_true,if_false]
   repeat' split
   all_goals omega
theorem Bwc {ts:List Tk} (h:CS ts≠0):((hd ts).2.1.toList == (⟨#[]⟩:Ah).toList)=false:=by
 cases hb:((hd ts).2.1.toList == (⟨#[]⟩:Ah).toList) with
 | false=>rfl
 | true =>
  exfalso;apply h;have hz:=eq_of_beq hb;have hf:∀ w:Ah,w.data.toList≠[]->AB w ts=false:=λw hw=>by
   unfold AB isT;rw [hz,Lib.toList_data,Lib.toList_data];cases hd':w.data.toList with
   | nil=>exact absurd hd' hw
   | cons=>simp
  simp only [CS,hf kOr (by decide),hf Rf (by decide),hf Rj (by decide),hf kGt (by decide),hf kLe (by decide),hf kGe (by decide),hf Rk (by decide),hf Ri (by decide),hf Rh (by decide),hf Rm (by decide),hf Kh (by decide),hf Ro (by decide),hf Rn (by decide),hf Rl (by decide),Bool.or_false,Bool.false_eq_true,if_false]
structure BE (l:List Tk) (k:Nat):Prop where
 exp:∀ lev ts,1<=lev->lev<=7->Good ts->ts <:+ l->32 * (ts.length:Int)+32 - lev<=k->Rel l GT eT3 ((RE.at k).Cu l (ix l ts) (-1) lev) (Ec (lev - 1) ts)
 Aie:∀ lev b,0<=b->1<=k->(RE.at k).Cu l (EE l) b lev=some (0,⟨#[]⟩,0,0,[],EE l,b)
 operand:∀ ts,Good ts->ts <:+ l->32 * ts.length+24<=k->Rel l GT eT3 ((RE.at k).ET l (ix l ts) (-1)) (K7 ts)
 Eg:∀ ts,Good ts->ts <:+ l->32 * ts.length+23<=k->Rel l GT eT3 ((RE.at k).Ds l (ix l ts) (-1)) (Jp ts)
 B42:∀ b,0<=b->2<=k->(RE.at k).Ds l (EE l) b=some (0,⟨#[]⟩,0,0,[],EE l,b)
 field:∀ ts,Good ts->ts <:+ l->32 * ts.length+32<=k->Rel l GT eT3 ((RE.at k).Iv l (ix l ts) (-1)) (O8 ts)
 list:∀ ts,Good ts->ts <:+ l->32 * ts.length+32<=k->Rel l GL HY ((RE.at k).Dd l (ix l ts) (-1)) (Gb ts)
 B3d:∀ b,0<=b->2<=k->(RE.at k).Dd l (EE l) b=some ([RA],EE l,b)
section
variable {l:List Tk} (hl:l.length<=1000000) (ha:KC l) (h0:l≠[]) {k:Nat}
theorem XU (m:Nat) (Rc:RE) (lev:Int) (r9:Int×Ah×Int×Int×List Tree×Int×Int) (J:Int->Int->Int->Ah->Int->List Tree->Option (Int×Ah×Int×Int×List Tree×Int×Int)) (i f a:Int) (t:Ah) (n:Int) (ks:List Tree) :
  Cu.l0 (m+1) Rc l lev r9 J ⟨#[]⟩ i f a t n ks=J i f a t n ks:=by
 rw [Cu.l0,show (((⟨#[]⟩:Ah).toList == (⟨#[]⟩:Ah).toList))=true by simp];rfl
include hl h0
theorem Ail (Rc:RE) (lev b:Int) (hb:0<=b):Cu.g Rc k l (EE l) b lev=some (0,⟨#[]⟩,0,0,[],EE l,b):=by
 unfold Cu.g;rw [decide_eq_true (by omega)];rfl
theorem Bv3 (Rc:RE) (b:Int) (hb:0<=b) (hk:1<=k):Ds.g Rc k l (EE l) b=some (0,⟨#[]⟩,0,0,[],EE l,b):=by
 unfold Ds.g;obtain ⟨t,ht⟩:=Vd hl h0 k hb;obtain ⟨k,rfl⟩:∃ m,k=m+1:=⟨k - 1,by omega⟩;simp only [ht,Aq,AN,IT hl h0 (k+1) hb,cond_false,Aqb hl h0 (k+1) hb];rw [Ds.l0];simp only [Aq,IT hl h0 k hb,cond_false]
theorem O4 (Rc:RE) (r2 b:Int) (hb:0<=b) (m:Nat) (a:Int) (t:Ah) (n p:Int) (ks:List Tree):Ds.l0 (m+1) Rc l r2 a t n p ks (EE l) b=some (a,t,n,p,ks,EE l,b):=by
 rw [Ds.l0];simp only [Aq,IT hl h0 m hb,cond_false]
theorem Z_ (Rc:RE) (J:List Tree->Int->Int->Option (List Tree×Int×Int)) (acc:List Tree) (b:Int) (hb:0<=b) (m:Nat):Dd.l0 (m+1) Rc l J acc (EE l) b=J acc (EE l) b:=by
 rw [Dd.l0];simp only [Aq,IT hl h0 m hb,cond_false]
variable (ih:BE l k)
include ih
theorem Ap6 (b:Int) (hb:0<=b) (hk:1<=k):Dd.g (RE.at k) k l (EE l) b=some ([RA],EE l,b):=by
 unfold Dd.g;rw [ih.Aie 1 b hb hk];obtain ⟨k,rfl⟩:∃ m,k=m+1:=⟨k - 1,by omega⟩;simp only [Aq,AN];exact Z_ hl h0 _ _ _ b hb k
theorem Aig (lev:Int) (h1:1<=lev) (h6:lev<=6) (r9:Int×Ah×Int×Int×List Tree×Int×Int):∀ (m:Nat) (n:Tree) (ts:List Tk),n.at_=r9.2.2.2.1->Good ts->ts <:+ l->CS ts<=lev->ts.length+11 < m->32 * ts.length<=k ->
  Rel l GT eT3 (Cu.l0 m (RE.at k) l lev r9 (λx16 x17 x18 x19 x20 l21=>some (x18,x19,x20,r9.2.2.2.1,l21,x16,x17)) (if CS ts=lev then (hd ts).2.1 else ⟨#[]⟩) (ix l ts) (-1) n.kind n.text n.n n.kids) (JH (lev - 1) n ts)
 | 0,_,_,_,_,_,_,h,_=>by omega
 | m+1,n,ts,hn,hg,hs,hb,hm,hk=>by
  rw [Sd n (by omega) hg];by_cases hbl:CS ts=lev;rw [if_pos hbl,Cu.l0,Bwc (by omega),if_neg (by omega),hbl];simp only [Bool.not_false,cond_true,AN];obtain ⟨g1,g2,g3⟩:=hg.tail (Mi (by omega));rw [I9 hl hg hs (Mi (by omega)),wrapM (lev+1) (by omega) (by omega)];have gs:=g3.trans hs;have key:∀ q:Int,1<=q->q<=7->32 * (ts.tail.length:Int)+32 - q<=k->q - 1=(if lev=4 then 3 else lev)->Rel l GT eT3 (((RE.at k).Cu l (ix l ts.tail) (-1) q).bind λr59=>(FC.f m l r59.2.2.2.2.2.1 r59.2.2.2.2.2.2 lev).bind λHe=>Cu.l0 m (RE.at k) l lev r9 (λx16 x17 x18 x19 x20 l21=>some (x18,x19,x20,r9.2.2.2.1,l21,x16,x17)) He r59.2.2.2.2.2.1 r59.2.2.2.2.2.2 (11:Int) (hd ts).2.1 (0:Int) ([(Tree.mk n.kind n.text n.n r9.2.2.2.1 n.kids),(Tree.mk r59.1 r59.2.1 r59.2.2.1 r59.2.2.2.1 r59.2.2.2.2.1)])) ((Ec (if lev=4 then 3 else lev) ts.tail).then λm r=>JH (lev - 1) (.mk 11 (hd ts).2.1 0 n.at_ [n,m]) r):=by
   intro q hq1 hq7 hqk hqe;have hx:=ih.exp q _ hq1 hq7 g1 gs hqk;rw [hqe] at hx;refine CL hx (Da (by rw [<- hqe];omega) g1) (λx r hv hr hrs hrn=>?_) λa b hb0 _=>?_;have hst:=Awi (by rw [<- hqe];omega) g1 hv;have hst2:CS r<=lev:=by revert hst;split <;> omega
   simp only [eT3,Cd];rw [Apy hl m (by omega) hr (hrs.trans gs) lev h1 h6];simp only [Aq];rw [<- hn,Cd];have:=Aig lev h1 h6 r9 m (.mk 11 (hd ts).2.1 0 n.at_ [n,x]) r hn hr (hrs.trans gs) hst2 (by omega) (by omega);rw [<- hn] at this;exact this;simp only [eT3];rw [Apw hl h0 m hb0 (by omega) lev];obtain ⟨m,rfl⟩:∃ q,m=q+1:=⟨m - 1,by omega⟩;simp only [Aq,XU];exact ⟨.mk _ _ _ _ _,Aj,rfl⟩
  by_cases h4:lev=4;have:=key 4 (by omega) (by omega) (by omega) (by rw [if_pos h4];rfl);rw [show (lev == (4:Int))=true by rw [beq_iff_eq];exact h4];exact this;have:=key (lev+1) (by omega) (by omega) (by omega) (by rw [if_neg h4];omega);rw [show (lev == (4:Int))=false by rw [beq_eq_false_iff_ne];exact h4];exact this;rw [if_neg hbl,if_pos (by omega),XU,<- hn];rfl
theorem Aik (lev:Int) (h1:1<=lev) (h7:lev<=7) {ts:List Tk} (hg:Good ts) (hs:ts <:+ l) (hk:32 * (ts.length:Int)+31 - lev<=k):Rel l GT eT3 (Cu.g (RE.at k) k l (ix l ts) (-1) lev) (Ec (lev - 1) ts):=by
 unfold Cu.g;rw [show decide ((-1:Int) >= 0)=false from rfl];simp only [cond_false];by_cases h:lev=7;rw [h,Adq (by omega) hg];have hx:=ih.operand ts hg hs (by omega);simp only [show ((7:Int) == 7)=true from rfl,cond_true];cases hv:K7 ts with
 | ok n r=>rw [hv] at hx;have hx:_=_:=hx;rw [hx];rfl
 | bad b =>
  rw [hv] at hx;obtain ⟨hb,a,_,hx⟩:=hx;rw [hx];exact ⟨hb,a,Aj,rfl⟩
 rw [show (lev == (7:Int))=false by rw [beq_eq_false_iff_ne];exact h,wrapM _ (by omega) (by omega)];simp only [cond_false,AN];have hx:=ih.exp (lev+1) ts (by omega) (by omega) hg hs (by omega);rw [show lev+1 - 1=lev by omega] at hx;rw [Bwt (by omega) hg,show lev - 1+1=lev by omega];have hle:=hs.length_le;refine CL hx (Da (by omega) hg) (λx r hv hr hrs hrn=>?_) λa b hb0 _=>?_;have hst:=Awi (by omega) hg hv;simp only [eT3];rw [Apy hl k (by omega) hr (hrs.trans hs) lev h1 (by omega)];simp only [Aq];exact Aig hl h0 ih lev h1 (by omega) (eT3 x (ix l r) (-1)) k x r rfl hr (hrs.trans hs) hst (by omega) (by omega);simp only [eT3];rw [Apw hl h0 k hb0 (by omega) lev];obtain ⟨k,rfl⟩:∃ q,k=q+1:=⟨k - 1,by omega⟩;simp only [Aq,XU];exact ⟨.mk _ _ _ _ _,Aj,rfl⟩
include ha
theorem Ap2:∀ (m:Nat) (acc:List Tree) (ts:List Tk),Good ts->ts <:+ l->ts.length+1 < m->acc.length+ts.length<=1000000->32 * ts.length<=k ->
  Rel l GL HY (Dd.l0 m (RE.at k) l (λl7 x12 CX=>some (l7,x12,CX)) acc (ix l ts) (-1)) (Qv acc ts)
 | 0,_,_,_,_,h,_,_=>by omega
 | m+1,acc,ts,hg,hs,hm,hc,hk=>by
  rw [Dd.l0,E8 hl m hg hs,Ads acc hg];simp only [Aq];refine FO (Dt _) (λhc'=>?_) λhc'=>?_;simp only [hc',if_true];obtain ⟨g1,g2,g3⟩:=hg.tail (AU hc');have gs:=g3.trans hs;refine CL (ih.exp 1 _ (by omega) (by omega) g1 gs (by omega)) (Da (by omega) g1) (λx r hv hr hrs hrn=>?_) λa b hb0 _=>?_;simp only [eT3,Cd];rw [Cn (by simp only [AX,Bp];omega)];simp only [Aq];exact Ap2 m _ r hr (hrs.trans gs) (by omega) (by simp only [BT,AX,Bp];omega) (by omega);simp only [eT3,Cd];rw [Cn (by simp only [AX,Bp];omega)];obtain ⟨m,rfl⟩:∃ q,m=q+1:=⟨m - 1,by omega⟩;simp only [Aq];rw [Z_ hl h0 _ _ _ b hb0];exact ⟨acc++[a],by unfold GL;simp only [BT,AX,Bp];omega,rfl⟩;simp only [if_neg hc'];rfl
theorem Ap3 {ts:List Tk} (hg:Good ts) (hs:ts <:+ l) (hk:32 * ts.length+31<=k):Rel l GL HY (Dd.g (RE.at k) k l (ix l ts) (-1)) (Gb ts):=by
 unfold Dd.g;rw [Adu hg];have hle:=hs.length_le;refine CL (ih.exp 1 _ (by omega) (by omega) hg hs (by omega)) (Da (by omega) hg) (λx r hv hr hrs hrn=>?_) λa b hb0 _=>?_;simp only [eT3,Cd,AN];exact Ap2 hl ha h0 ih k _ r hr (hrs.trans hs) (by omega) (by simp only [AX,Bp];omega) (by omega);simp only [eT3,Cd,AN];obtain ⟨k,rfl⟩:∃ q,k=q+1:=⟨k - 1,by omega⟩;rw [Z_ hl h0 _ _ _ b hb0];exact ⟨[a],by unfold GL;simp,rfl⟩
theorem U4 (r2:Int):∀ (m:Nat) (n:Tree) (ts:List Tk),Good ts->ts <:+ l->ts.length+1 < m->32 * ts.length<=k ->
  Rel l GT eT3 (Ds.l0 m (RE.at k) l r2 n.kind n.text n.n n.at_ n.kids (ix l ts) (-1)) (K8 r2 n ts)
 | 0,_,_,_,_,h,_=>by omega
 | m+1,n,ts,hg,hs,hm,hk=>by
  obtain ⟨m',rfl⟩:∃ q,m=q+1:=⟨m - 1,by omega⟩;rw [Ds.l0,E8 hl _ hg hs,Adv _ n hg];simp only [Aq,Cd];refine FO (Dt _) (λhc=>?_) λh1=>?_;simp only [hc,if_true];obtain ⟨g1,g2,g3⟩:=hg.tail (AU hc);have gs:=g3.trans hs;refine CL (ih.exp 1 _ (by omega) (by omega) g1 gs (by omega)) (Da (by omega) g1) (λx r hv hr hrs hrn=>?_) λa b hb0 _=>?_;simp only [eT3,Cd];have hrl:=hrs.trans gs;refine CL (Hu hl ha _ hr hrl _) (CO _ hr) (λ_ r2' _ hr2 Ey hn2=>?_) λ_ b hb0 _=>?_;exact U4 r2 (m'+1) (.mk 7 noB 0 r2 [n,x]) r2' hr2 (Ey.trans hrl) (by omega) (by omega);simp only [FJ,O4 hl h0 _ _ b hb0];exact ⟨.mk _ _ _ _ _,Aj,rfl⟩;simp only [eT3,Cd,GA hl h0 _ hb0,Aq,O4 hl h0 _ _ b hb0];exact ⟨.mk _ _ _ _ _,Aj,rfl⟩;simp only [if_neg h1,E8 hl _ hg hs,Aq];refine FO (Dt _) (λhc=>?_) λh2=>?_;simp only [hc,if_true];obtain ⟨g1,g2,g3⟩:=hg.tail (AU hc);have gs:=g3.trans hs;refine CL (Om hl ha _ g1 gs 5) (fName 5 g1) (λx r hv hr hrs hrn=>?_) λa b hb0 _=>?_;simp only [eT3,Cd];exact U4 r2 (m'+1) (.mk 7 noB 0 r2 [n,x]) r hr (hrs.trans gs) (by omega) (by omega);simp only [eT3,Cd,O4 hl h0 _ _ b hb0];exact ⟨.mk _ _ _ _ _,Aj,rfl⟩;simp only [if_neg h2,E8 hl _ hg hs,Aq];refine FO (Dt _) (λhc=>?_) λh3=>?_;simp only [hc,if_true];obtain ⟨g1,g2,g3⟩:=hg.tail (AU hc);have gs:=g3.trans hs;have hlen:=hs.length_le;simp only [AN,M1 _ g1 gs,Aq];unfold Xc;have tl:∀ (xs:List Tree) (r:List Tk),Good r->r <:+ l->r.length<=ts.tail.length->Rel l GT eT3 ((CV.f (m'+1) l (ix l r) (-1) (⟨#[41]⟩:Ah)).bind λDQ=>Ds.l0 (m'+1) (RE.at k) l r2 (8:Int) (⟨#[]⟩:Ah) (0:Int) r2 (n :: xs) DQ.1 DQ.2) ((Dc Gs r).then λ_ r=>K8 r2 (.mk 8 noB 0 r2 (n :: xs)) r):=λxs r hr hrl hn=>by
   refine CL (Hu hl ha _ hr hrl _) (CO _ hr) (λ_ r2' _ hr2 Ey hn2=>?_) λ_ b hb0 _=>?_;exact U4 r2 (m'+1) (.mk 8 noB 0 r2 (n :: xs)) r2' hr2 (Ey.trans hrl) (by omega) (by omega);simp only [FJ,O4 hl h0 _ _ b hb0];exact ⟨.mk _ _ _ _ _,Aj,rfl⟩
  by_cases hR:AB Gs ts.tail=true;rw [if_pos hR,show AB (⟨#[41]⟩:Ah) ts.tail=true from hR];exact tl [] _ g1 gs (Nat.le_refl _);rw [if_neg hR,show AB (⟨#[41]⟩:Ah) ts.tail=false from by simpa using hR];simp only [Bool.not_false,cond_true];refine CL (ih.list _ g1 gs (by omega)) (JZ g1) (λxs r hv hr hrs hrn=>?_) λa b hb0 hga=>?_;have hxl:=Oh g1 hv;simp only [HY];rw [Cn (by simp only [AX,Bp];omega)];exact tl xs r hr (hrs.trans gs) (by omega);simp only [HY];unfold GL at hga;rw [Cn (by simp only [AX,Bp];omega)];simp only [Aq,GA hl h0 _ hb0,O4 hl h0 _ _ b hb0];exact ⟨.mk _ _ _ _ _,Aj,rfl⟩;simp only [if_neg h3];rfl
theorem Avq {ts:List Tk} (hg:Good ts) (hs:ts <:+ l) (hk:32 * ts.length+22<=k):Rel l GT eT3 (Ds.g (RE.at k) k l (ix l ts) (-1)) (Jp ts):=by
 unfold Ds.g;obtain ⟨k',hk'⟩:∃ q,k=q+1:=⟨k - 1,by omega⟩;rw [OU k hg hs,Adx hg];simp only [Aq,AN,E8 hl k hg hs];refine FO (Dt _) (λhc=>?_) λh1=>?_;simp only [hc,if_true];obtain ⟨g1,g2,g3⟩:=hg.tail (AU hc);have gs:=g3.trans hs;refine CL (ih.exp 1 _ (by omega) (by omega) g1 gs (by omega)) (Da (by omega) g1) (λx r hv hr hrs hrn=>?_) λa b hb0 _=>?_;simp only [eT3,Cd];have hrl:=hrs.trans gs;refine CL (Hu hl ha _ hr hrl _) (CO _ hr) (λ_ r2' _ hr2 Ey hn2=>?_) λ_ b hb0 _=>?_;exact U4 hl ha h0 ih (hd ts).2.2.2 k (.mk 9 noB 0 (hd ts).2.2.2 [x]) r2' hr2 (Ey.trans hrl) (by omega) (by omega);rw [hk'];simp only [FJ,O4 hl h0 _ _ b hb0];exact ⟨.mk _ _ _ _ _,Aj,rfl⟩;simp only [eT3,Cd,GA hl h0 _ hb0,Aq];rw [hk'];simp only [O4 hl h0 _ _ b hb0];exact ⟨.mk _ _ _ _ _,Aj,rfl⟩;simp only [if_neg h1];refine CL (Om hl ha _ hg hs 6) (fName 6 hg) (λx r hv hr hrs hrn=>?_) λa b hb0 _=>?_;exact U4 hl ha h0 ih (hd ts).2.2.2 k x r hr (hrs.trans hs) (by omega) (by omega);simp only [eT3];rw [hk'];simp only [O4 hl h0 _ _ b hb0];exact ⟨a,Aj,rfl⟩
theorem A5v {ts:List Tk} (hg:Good ts) (hs:ts <:+ l) (hk:32 * ts.length+31<=k):Rel l GT eT3 (Iv.g (RE.at k) k l (ix l ts) (-1)) (O8 ts):=by
 unfold Iv.g;rw [OU k hg hs,Awj hg];simp only [Aq,AN,E8 hl k hg hs];have ZX:∀ (kd:Int) (xs:List Tree) (b:Int),0<=b->xs.length<=100->∃ a':Tree,GT a'/\(((RE.at k).Cu l (EE l) b (1:Int)).bind λr13=>(apd 64 xs [(Tree.mk r13.1 r13.2.1 r13.2.2.1 r13.2.2.2.1 r13.2.2.2.2.1)]).bind λl21=>some (kd,(⟨#[]⟩:Ah),(0:Int),(hd ts).2.2.2,l21,r13.2.2.2.2.2.1,r13.2.2.2.2.2.2))=some (eT3 a' (EE l) b):=λkd xs b hb0 hx=>by
  rw [ih.Aie 1 b hb0 (by omega)];simp only [Aq];rw [Cn (by simp only [AX,Bp];omega)];exact ⟨.mk _ _ _ _ _,Aj,rfl⟩
 have last:∀ (kd:Int) (xs:List Tree) (r:List Tk),Good r->r <:+ l->r.length<=ts.length->xs.length<=100->Rel l GT eT3 (((RE.at k).Cu l (ix l r) (-1) (1:Int)).bind λr13=>(apd 64 xs [(Tree.mk r13.1 r13.2.1 r13.2.2.1 r13.2.2.2.1 r13.2.2.2.2.1)]).bind λl21=>some (kd,(⟨#[]⟩:Ah),(0:Int),(hd ts).2.2.2,l21,r13.2.2.2.2.2.1,r13.2.2.2.2.2.2)) ((Ec 0 r).then λv r=>.ok (.mk kd noB 0 (hd ts).2.2.2 (xs++[v])) r):=λkd xs r hr hrl hn hx=>by
  refine CL (ih.exp 1 _ (by omega) (by omega) hr hrl (by omega)) (Da (by omega) hr) (λx r hv hr hrs hrn=>?_) λa b hb0 _=>?_;simp only [eT3,Cd];rw [Cn (by simp only [AX,Bp];omega)];rfl;simp only [eT3,Cd];rw [Cn (by simp only [AX,Bp];omega)];exact ⟨.mk _ _ _ _ _,Aj,rfl⟩
 refine FO (Dt _) (λhc=>?_) λh1=>?_;simp only [hc,if_true];obtain ⟨g1,g2,g3⟩:=hg.tail (AU hc);have gs:=g3.trans hs;refine CL (ih.exp 1 _ (by omega) (by omega) g1 gs (by omega)) (Da (by omega) g1) (λx r hv hr hrs hrn=>?_) λa b hb0 _=>?_;simp only [eT3,Cd];have hrl:=hrs.trans gs;refine CL (Hu hl ha _ hr hrl _) (CO _ hr) (λ_ r2 _ hr2 Ey hn2=>?_) λ_ b hb0 _=>?_;simp only [FJ];have hrl2:=Ey.trans hrl;refine CL (Hu hl ha _ hr2 hrl2 _) (CO _ hr2) (λ_ r3 _ hr3 GP hn3=>?_) λ_ b hb0 _=>?_;simp only [FJ];exact last 14 [x] r3 hr3 (GP.trans hrl2) (by omega) (by simp);exact ZX 14 [x] b hb0 (by simp);simp only [FJ,GA hl h0 _ hb0,Aq];exact ZX 14 [x] b hb0 (by simp);simp only [eT3,Cd,GA hl h0 _ hb0,Aq];exact ZX 14 [a] b hb0 (by simp);simp only [if_neg h1];have hq:((B5 l (ix l ts)).bind λx49=>cond (x49.1 == (1:Int)) ((B5 l (Au (ix l ts+(1:Int)))).bind λx57=>cond (x57.1 == (5:Int)) ((B5 l (Au (ix l ts+(1:Int)))).bind λx65=>some (x65.2.1.toList == (⟨#[61]⟩:Ah).toList)) (some false)) (some false):Option Bool)=some (decide ((hd ts).1=1/\(hd ts.tail).1=5/\(hd ts.tail).2.1.toList=EO.toList)):=by
  rw [LB hg hs];simp only [Aq];by_cases h:(hd ts).1=1;obtain ⟨g1,g2,g3⟩:=hg.tail (by omega);rw [I9 hl hg hs (by omega),LB g1 (g3.trans hs),h];simp only [beq_self_eq_true,cond_true,Aq,true_and];by_cases h5:(hd ts.tail).1=5;rw [h5];simp only [beq_self_eq_true,cond_true,true_and];exact congrArg some (Apo _ _);rw [show ((hd ts.tail).1 == (5:Int))=false by rw [beq_eq_false_iff_ne];exact h5];simp [h5];rw [show ((hd ts).1 == (1:Int))=false by rw [beq_eq_false_iff_ne];exact h];simp [h]
 rw [hq];simp only [Aq];refine FO rfl (λhc=>?_) λh2=>?_;obtain ⟨hk1,h5,he⟩:=hc;obtain ⟨g1,g2,g3⟩:=hg.tail (by omega);obtain ⟨g4,g5,g6⟩:=g1.tail (by omega);have gs:=g3.trans hs;have hN:=Om hl ha k hg hs 5;unfold GH at hN;rw [if_pos hk1] at hN;have hN:_=_:=hN;rw [hN];simp only [Aq,eT3,Tree.kind,Tree.text,Tree.n,Tree.at_,Tree.kids];have hE:AB EO ts.tail=true:=by unfold AB isT;rw [h5,he];simp
 have hW:=Hu hl ha k g1 gs EO;unfold Dc at hW;rw [if_pos hE] at hW;have hW:_=_:=hW;rw [hW];simp only [Aq,FJ];exact last 14 [.mk 5 (hd ts).2.1 0 (hd ts).2.2.2 []] _ g4 (g6.trans gs) (by omega) (by simp);exact last 13 [] ts hg hs (Nat.le_refl _) (by simp)
theorem Ar0 (J:List Tree->Int->Int->Option (Int×Ah×Int×Int×List Tree×Int×Int)) (T:List Tree->Tree) (hJ:∀ acc r,Good r->r <:+ l->Rel l GT eT3 (J acc (ix l r) (-1)) ((Dc Ob r).then λ_ r=>.ok (T acc) r)) (hJF:∀ acc b,0<=b->∃ a',GT a'/\J acc (EE l) b=some (eT3 a' (EE l) b)) :
  ∀ (m:Nat) (acc:List Tree) (ts:List Tk),Good ts->ts <:+ l->ts.length+2 < m->acc.length+ts.length<=1000000->32 * ts.length+32<=k ->
  Rel l GT eT3 (ET.l0 m (RE.at k) l J true acc (ix l ts) (-1)) ((Ln acc ts).then λl r=>.ok (T l) r)
 | 0,_,_,_,_,h,_,_=>by omega
 | m+1,acc,ts,hg,hs,hm,hc,hk=>by
  rw [ET.l0,Awo acc hg];simp only [cond_true,M1 m hg hs,Aq,show decide ((-1:Int) < 0)=true from rfl];have stop:∀ (acc:List Tree) (i f:Int) (m:Nat),ET.l0 (m+1) (RE.at k) l J false acc i f=J acc i f:=λacc i f m=>by rw [ET.l0];rfl
  by_cases hR:AB Ob ts=true;rw [if_pos hR,show AB (⟨#[125]⟩:Ah) ts=true from hR];simp only [Bool.not_true,cond_false,Aq];have:=hJ acc ts hg hs;unfold Dc at this;rw [if_pos hR] at this;exact this;rw [if_neg hR,show AB (⟨#[125]⟩:Ah) ts=false from by simpa using hR,then_assoc];simp only [Bool.not_false,cond_true,Aq];refine CL (ih.field ts hg hs hk) (XX hg) (λx r hv hr hrs hrn=>?_) λa b hb0 _=>?_;simp only [eT3,Cd];rw [Cn (by simp only [AX,Bp];omega)];have hrl:=hrs.trans hs;simp only [Aq,E8 hl m hr hrl];have more:∀ {w:Ah},AB w r=true->Rel l GT eT3 (ET.l0 m (RE.at k) l J true (acc++[x]) (ix l r.tail) (-1)) ((Ln (acc++[x]) r.tail).then λl r=>.ok (T l) r):=λhc'=>by
   obtain ⟨g1,g2,g3⟩:=hr.tail (AU hc');exact Ar0 J T hJ hJF m _ _ g1 (g3.trans hrl) (by omega) (by simp only [BT,AX,Bp];omega) (by omega)
  by_cases hC:AB Ez r=true;rw [if_pos hC,show AB (⟨#[44]⟩:Ah) r=true from hC];simp only [cond_true,if_true];exact more hC;rw [if_neg hC,show AB (⟨#[44]⟩:Ah) r=false from by simpa using hC];simp only [cond_false,Bool.false_eq_true,if_false,E8 hl m hr hrl,Aq];by_cases hS:AB Ht r=true;rw [if_pos hS,show AB (⟨#[59]⟩:Ah) r=true from hS];simp only [if_true];exact more hS;rw [if_neg hS,show AB (⟨#[59]⟩:Ah) r=false from by simpa using hS];obtain ⟨m,rfl⟩:∃ q,m=q+1:=⟨m - 1,by omega⟩;simp only [Bool.false_eq_true,if_false,stop,then_assoc];exact hJ _ r hr hrl;simp only [eT3,Cd];rw [Cn (by simp only [AX,Bp];omega)];obtain ⟨m,rfl⟩:∃ q,m=q+1:=⟨m - 1,by omega⟩;simp only [Aq,IT hl h0 _ hb0,cond_false,stop];exact hJF _ b hb0
theorem Br2 {ts:List Tk} (hg:Good ts) (hs:ts <:+ l) (hk:32 * ts.length+23<=k):Rel l GT eT3 (ET.g (RE.at k) k l (ix l ts) (-1)) (K7 ts):=by
 unfold ET.g;rw [LB hg hs,Awy hg];have hle:=hs.length_le;simp only [Aq,AN,E8 hl k hg hs];refine FO (NN _ _) (λhc=>?_) λh3=>?_;rw [I9 hl hg hs (by omega)];rfl;refine FO (NN _ _) (λhc=>?_) λh4=>?_;rw [I9 hl hg hs (by omega)];rfl;refine FO (Dt _) (λhc=>?_) λh5=>?_;simp only [hc,if_true];rfl;simp only [if_neg h5,E8 hl k hg hs,Aq];refine FO (Dt _) (λhc=>?_) λh6=>?_;simp only [hc,if_true];rfl;simp only [if_neg h6,E8 hl k hg hs,Aq];refine FO (Dt _) (λhc=>?_) λh7=>?_;simp only [hc,if_true];rfl;simp only [if_neg h7,M1 k hg hs,Aq];have hq:(cond (AB (⟨#[110,111,116]⟩:Ah) ts) (some true) (cond (AB (⟨#[35]⟩:Ah) ts) (some true) (some (AB (⟨#[45]⟩:Ah) ts))):Option Bool)=some (AB Oa ts || AB N_ ts || AB Kh ts):=by
  show (cond (AB Oa ts) (some true) (cond (AB N_ ts) (some true) (some (AB Kh ts))):Option Bool)=_;cases AB Oa ts <;> cases AB N_ ts <;> rfl
 rw [hq];simp only [Aq];refine FO (Dt _) (λhc=>?_) λh8=>?_;obtain ⟨g1,g2,g3⟩:=hg.tail (or3 rfl rfl rfl hc);rw [I9 hl hg hs (or3 rfl rfl rfl hc)];have hx:=ih.exp 7 _ (by omega) (by omega) g1 (g3.trans hs) (by omega);have e:Ec (7 - 1) ts.tail=Ec 7 ts.tail:=by rw [Adq (by omega) g1,Adq (by omega) g1]
 rw [e] at hx;refine CL hx (Da (by omega) g1) (λx r hv hr hrs hrn=>?_) λa b hb0 _=>?_;simp only [eT3,Cd];rfl;exact ⟨.mk _ _ _ _ _,Aj,rfl⟩;simp only [E8 hl k hg hs,Aq];refine FO (Dt _) (λhc=>?_) λh9=>?_;simp only [hc,if_true];obtain ⟨g1,g2,g3⟩:=hg.tail (AU hc);refine Ar0 hl ha h0 ih _ (λl=>.mk 12 noB 0 (hd ts).2.2.2 l) (λacc r hr hrl=>?_) (λacc b hb0=>?_) k [] _ g1 (g3.trans hs) (by omega) (by simp only [Bp];omega) (by omega);exact CL (Hu hl ha _ hr hrl _) (CO _ hr) (λ_ r2 _ hr2 Ey hn2=>rfl) λ_ b hb0 _=>⟨.mk _ _ _ _ _,Aj,rfl⟩;simp only [GA hl h0 _ hb0,Aq];exact ⟨.mk _ _ _ _ _,Aj,rfl⟩;simp only [if_neg h9];have hx:=ih.Eg ts hg hs (by omega);cases hv:Jp ts with
 | ok n r=>rw [hv] at hx;have hx:_=_:=hx;rw [hx];rfl
 | bad b =>
  rw [hv] at hx;obtain ⟨hb,a,_,hx⟩:=hx;rw [hx];exact ⟨hb,a,Aj,rfl⟩
end
theorem bE {l:List Tk} (hl:l.length<=1000000) (ha:KC l) (h0:l≠[]):∀ k,BE l k
 | 0=>by constructor <;> intros <;> omega
 | k+1=>by
  have ih:=bE hl ha h0 k;exact ⟨λlev ts h1 h7 hg hs h=>Aik hl h0 ih lev h1 h7 hg hs (by omega),λlev b hb h=>Ail hl h0 _ lev b hb,λts hg hs h=>Br2 hl ha h0 ih hg hs (by omega),λts hg hs h=>Avq hl ha h0 ih hg hs (by omega),λb hb h=>Bv3 hl h0 _ b hb (by omega),λts hg hs h=>A5v hl ha h0 ih hg hs (by omega),λts hg hs h=>Ap3 hl ha h0 ih hg hs (by omega),λb hb h=>Ap6 hl h0 ih b hb (by omega)⟩
theorem Adb:∀ (n:Nat) (at_:Int) (x y:Tree) (ts r:List Tk),ts.length<=n->Good ts->x.at_=at_->K8 at_ x ts=.ok y r->y.at_=at_
 | 0,_,_,_,[],_,_,hg,_,_=>hg.elim
 | n+1,at_,x,y,ts,r,hn,hg,hx,h=>by
  rw [Adv at_ x hg] at h;have more:∀ (z:Tree) (s:List Tk),Good s->s.length+1<=ts.length->z.at_=at_->K8 at_ z s=.ok y r->y.at_=at_:=λz s hs hl hz h=>Adb n at_ z y s r (by omega) hs hz h;split at h;rename_i hc;obtain ⟨g1,g2,_⟩:=hg.tail (AU hc);obtain ⟨e,s,h1,h⟩:=then_ok h;have f1:=Da (least:=0) (by omega) g1;rw [h1] at f1;obtain ⟨_,s2,h2,h⟩:=then_ok h;have f2:=CO kRb f1.1;rw [h2] at f2;exact more _ s2 f2.1 (by have:=f1.2.1;have:=f2.2.1;omega) rfl h;split at h;rename_i hc;obtain ⟨g1,g2,_⟩:=hg.tail (AU hc);obtain ⟨e,s,h1,h⟩:=then_ok h;have f1:=fName 5 g1;rw [h1] at f1;exact more _ s f1.1 (by have:=f1.2.1;omega) rfl h;split at h;rename_i hc;obtain ⟨g1,g2,_⟩:=hg.tail (AU hc);obtain ⟨e,s,h1,h⟩:=then_ok h;have f1:=fArgs g1;rw [h1] at f1;obtain ⟨_,s2,h2,h⟩:=then_ok h;have f2:=CO Gs f1.1;rw [h2] at f2;exact more _ s2 f2.1 (by have:=f1.2.1;have:=f2.2.1;omega) rfl h;cases h;exact hx
theorem Avj {ts r:List Tk} {e:Tree} (hg:Good ts) (h:Jp ts=.ok e r):e.at_=(hd ts).2.2.2:=by
 rw [Adx hg] at h;split at h;rename_i hc;obtain ⟨g1,g2,_⟩:=hg.tail (AU hc);obtain ⟨x,s,h1,h⟩:=then_ok h;have f1:=Da (least:=0) (by omega) g1;rw [h1] at f1;obtain ⟨_,s2,h2,h⟩:=then_ok h;have f2:=CO Gs f1.1;rw [h2] at f2;exact Adb _ _ _ _ s2 r (Nat.le_refl _) f2.1 rfl h;obtain ⟨x,s,h1,h⟩:=then_ok h;have f1:=fName 6 hg;rw [h1] at f1;refine Adb _ _ _ _ s r (Nat.le_refl _) f1.1 ?_ h;unfold GH at h1;split at h1;cases h1;rfl;cases h1
theorem A4e {ts:List Tk} (h:JY ts=true):AB Ht ts=false/\AB ZE ts=false/\AB NZ ts=false:=by
 unfold JY at h;simp only [Bool.or_eq_true] at h;have lit:∀ {w:Ah},AB w ts=true->∀ w',(w.data.toList == w'.data.toList)=false->AB w' ts=false:=λh w' e=>by
  rw [Amt h,Lib.toList_data,Lib.toList_data];exact e
 rcases h with ((h | h) | h) | h;have h6:(hd ts).1=6:=by simpa using h
 have hf:∀ w,AB w ts=false:=λw=>by
  cases hw:AB w ts with
  | false=>rfl
  | true=>exact absurd h6 (AU hw)
 exact ⟨hf _,hf _,hf _⟩;exact ⟨lit h _ rfl,lit h _ rfl,lit h _ rfl⟩;exact ⟨lit h _ rfl,lit h _ rfl,lit h _ rfl⟩;exact ⟨lit h _ rfl,lit h _ rfl,lit h _ rfl⟩
theorem Pe {ts:List Tk} (hg:Good ts):1<=ts.length:=by cases ts with | nil=>exact hg.elim | cons=>simp
structure BS (l:List Tk) (k:Nat):Prop where
 block:∀ c ts,Good ts->ts <:+ l->64 * ts.length+50<=k->Rel l GT eT3 ((RS.at k).C9 l (ix l ts) (-1) c) (FE c ts)
 SB:∀ c b,0<=b->2<=k->∃ n,(RS.at k).C9 l (EE l) b c=some (eT3 n (EE l) b)
 stat:∀ ts,Good ts->ts <:+ l->64 * ts.length+47<=k->Rel l GT eT3 ((RS.at k).EU l (ix l ts) (-1) (hd ts).2.2.2) (N8 ts)
 loop:∀ at_ ts,Good ts->ts <:+ l->64 * ts.length+48<=k->Rel l GT eT3 ((RS.at k).Fi l (ix l ts) (-1) at_) (Qw at_ ts)
 plain:∀ ts,Good ts->ts <:+ l->64 * ts.length+46<=k->Rel l GT eT3 ((RS.at k).Fj l (ix l ts) (-1) (hd ts).2.2.2) (Qx ts)
 body:∀ ts,Good ts->ts <:+ l->64 * ts.length+46<=k->Rel l GT eT3 ((RS.at k).Et l (ix l ts) (-1)) (Jo ts)
 Ag6:∀ b,0<=b->3<=k->∃ n,(RS.at k).Et l (EE l) b=some (eT3 n (EE l) b)
section
variable {l:List Tk} (hl:l.length<=1000000) (ha:KC l) (h0:l≠[])
include hl h0
theorem Ai7 (k:Nat) (lev b:Int) (hb:0<=b):Cu.f k l (EE l) b lev=some (0,⟨#[]⟩,0,0,[],EE l,b):=Ail hl h0 _ lev b hb
theorem Ag1 (m:Nat) (Rc:RS) (c:Bool) (r2:Int) (J:List Tree->Int->Int->Option (Int×Ah×Int×Int×List Tree×Int×Int)) (acc:List Tree) (b:Int) (hb:0<=b):C9.l0 (m+1) Rc l c r2 J acc (EE l) b=J acc (EE l) b:=by
 rw [C9.l0,A4d hl h0 m hb];rfl
theorem A0v (k:Nat) (hk:1<=k) (Rc:RS) (c:Bool) (b:Int) (hb:0<=b):∃ n,C9.g Rc k l (EE l) b c=some (eT3 n (EE l) b):=by
 unfold C9.g;obtain ⟨t,ht⟩:=Vd hl h0 k hb;obtain ⟨k,rfl⟩:∃ q,k=q+1:=⟨k - 1,by omega⟩;simp only [ht,Aq,AN,Ag1 hl h0 k Rc c t _ [] b hb];exact ⟨.mk _ _ _ _ _,rfl⟩
include ha
theorem SK (k:Nat) {ts:List Tk} (hg:Good ts) (hs:ts <:+ l) (hk:32 * ts.length+30<=k):Rel l GT eT3 (Cu.f k l (ix l ts) (-1) 1) (Ec 0 ts):=Aik hl h0 (bE hl ha h0 k) 1 (by omega) (by omega) hg hs (by omega)
theorem Vy (k:Nat) {ts:List Tk} (hg:Good ts) (hs:ts <:+ l) (hk:32 * ts.length+31<=k):Rel l GL HY (Dd.f k l (ix l ts) (-1)) (Gb ts):=Ap3 hl ha h0 (bE hl ha h0 k) hg hs hk
theorem Vx (k:Nat) (b:Int) (hb:0<=b) (hk:1<=k):Dd.f k l (EE l) b=some ([RA],EE l,b):=Ap6 hl h0 (bE hl ha h0 k) b hb hk
theorem Ajm (k:Nat) {ts:List Tk} (hg:Good ts) (hs:ts <:+ l) (hk:32 * ts.length+22<=k):Rel l GT eT3 (Ds.f k l (ix l ts) (-1)) (Jp ts):=Avq hl ha h0 (bE hl ha h0 k) hg hs hk
theorem Aqi:∀ (m:Nat) (acc:List Tree) (ts:List Tk),Good ts->ts <:+ l->ts.length+1 < m->acc.length+ts.length<=1000000 ->
  Rel l GL HY (Gk.l0 m l (λl7 x12 CX=>some (l7,x12,CX)) acc (ix l ts) (-1)) (K6 acc ts)
 | 0,_,_,_,_,h,_=>by omega
 | m+1,acc,ts,hg,hs,hm,hc=>by
  rw [Gk.l0,E8 hl m hg hs,O9 acc hg];simp only [Aq];refine FO (Dt _) (λhc'=>?_) λhc'=>?_;simp only [hc',if_true];obtain ⟨g1,g2,g3⟩:=hg.tail (AU hc');have gs:=g3.trans hs;refine CL (Om hl ha _ g1 gs 6) (fName 6 g1) (λx r hv hr hrs hrn=>?_) λa b hb0 _=>?_;simp only [eT3,Cd];rw [Cn (by simp only [AX,Bp];omega)];simp only [Aq];exact Aqi m _ r hr (hrs.trans gs) (by omega) (by simp only [BT,AX,Bp];omega);simp only [eT3,Cd];rw [Cn (by simp only [AX,Bp];omega)];simp only [Aq];rw [Aae hl h0 hb0 _ _ m (by omega)];exact ⟨acc++[a],by unfold GL;simp only [BT,AX,Bp];omega,rfl⟩;simp only [if_neg hc'];rfl
theorem Aqk (k:Nat) {ts:List Tk} (hg:Good ts) (hs:ts <:+ l) (hk:ts.length+1 < k):Rel l GL HY (Gk.f k l (ix l ts) (-1)) (JI ts):=by
 unfold Gk.f JI;have hle:=hs.length_le;refine CL (Om hl ha _ hg hs 6) (fName 6 hg) (λx r hv hr hrs hrn=>?_) λa b hb0 _=>?_;simp only [eT3,Cd,AN];exact Aqi hl ha h0 k _ r hr (hrs.trans hs) (by omega) (by simp only [AX,Bp];omega);simp only [eT3,Cd,AN];rw [Aae hl h0 hb0 _ _ k (by omega)];exact ⟨[a],by unfold GL;simp,rfl⟩
variable {k:Nat} (ih:BS l k)
include ih
theorem A0y (b:Int) (hb:0<=b) (hk:2<=k):∃ n,Et.g (RS.at k) k l (EE l) b=some (eT3 n (EE l) b):=by
 unfold Et.g;obtain ⟨n,hn⟩:=ih.SB false b hb hk;simp only [GA hl h0 _ hb,Aq,hn,eT3];exact ⟨n,rfl⟩
theorem A01 {ts:List Tk} (hg:Good ts) (hs:ts <:+ l) (hk:64 * ts.length+45<=k):Rel l GT eT3 (Et.g (RS.at k) k l (ix l ts) (-1)) (Jo ts):=by
 unfold Et.g;rw [Adp hg];have hp:=Pe hg;refine CL (Hu hl ha _ hg hs _) (CO _ hg) (λ_ r _ hr hrs hn=>?_) λ_ b hb0 _=>?_;simp only [FJ];have h1:=hrs.trans hs;refine CL (ih.block false r hr h1 (by omega)) (I_ false hr) (λx r2 _ hr2 Ey hn2=>?_) λa b hb0 _=>?_;simp only [eT3];exact CL (Hu hl ha _ hr2 (Ey.trans h1) _) (CO _ hr2) (λ_ r3 _ _ _ _=>rfl) λ_ b hb0 _=>⟨x,Aj,rfl⟩;simp only [eT3,GA hl h0 _ hb0,Aq];exact ⟨a,Aj,rfl⟩;obtain ⟨n,hn⟩:=ih.SB false b hb0 (by omega);simp only [FJ,hn,Aq,eT3,GA hl h0 _ hb0];exact ⟨n,Aj,rfl⟩
theorem XD (chunk:Bool) (r2:Int):∀ (m:Nat) (acc:List Tree) (ts:List Tk),Good ts->ts <:+ l->64 * ts.length+10 < m->acc.length+ts.length<=1000000->64 * ts.length+47<=k ->
  Rel l GT eT3 (C9.l0 m (RS.at k) l chunk r2 (λl4 x9 x10=>some ((20:Int),(⟨#[]⟩:Ah),(0:Int),r2,l4,x9,x10)) acc (ix l ts) (-1)) (K5 chunk r2 acc ts)
 | 0,_,_,_,_,h,_,_=>by omega
 | m+1,acc,ts,hg,hs,hm,hac,hk=>by
  have hp:=Pe hg;rw [C9.l0,Ah5 m hg hs,Awd chunk _ acc hg];simp only [Aq];obtain ⟨m',hm'⟩:∃ q,m=q+1:=⟨m - 1,by omega⟩;have Bv1:∀ (xs:List Tree) (b:Int),0<=b->∃ a',GT a'/\C9.l0 m (RS.at k) l chunk r2 (λl4 x9 x10=>some ((20:Int),(⟨#[]⟩:Ah),(0:Int),r2,l4,x9,x10)) xs (EE l) b=some (eT3 a' (EE l) b):=λxs b hb0=>by
   rw [hm',Ag1 hl h0 m' _ _ _ _ xs b hb0];exact ⟨.mk _ _ _ _ _,Aj,rfl⟩
  cases hE:JY ts with
  | true =>
   obtain ⟨e1,e2,e3⟩:=A4e hE;simp only [Bool.not_true,cond_false,e1,e2,e3,Bool.and_false,Bool.false_eq_true,if_false,if_true];rfl
  | false =>
  simp only [Bool.not_false,cond_true,OU m hg hs,Aq,E8 hl m hg hs,Bool.false_eq_true,if_false];refine FO (Dt _) (λhc=>?_) λh1=>?_;simp only [hc,if_true];obtain ⟨g1,g2,g3⟩:=hg.tail (AU hc);exact XD chunk r2 m acc _ g1 (g3.trans hs) (by omega) (by omega) (by omega);simp only [if_neg h1,E8 hl m hg hs,Aq];refine FO (Dt _) (λhc=>?_) λh2=>?_;simp only [hc,if_true];obtain ⟨g1,g2,g3⟩:=hg.tail (AU hc);have gs:=g3.trans hs;have hend:∀ (xs:List Tree) (r:List Tk),Good r->r <:+ l->Rel l GT eT3 ((Cw.f m l (ix l r) (-1) (⟨#[59]⟩:Ah)).bind (λr36=>(apd 64 acc [(Tree.mk (30:Int) (⟨#[]⟩:Ah) (0:Int) (hd ts).2.2.2 xs)]).bind λRz=>some ((20:Int),(⟨#[]⟩:Ah),(0:Int),r2,Rz,r36.2,(-1:Int)))) (.ok (.mk 20 noB 0 r2 (acc++[.mk 30 noB 0 (hd ts).2.2.2 xs])) (if AB Ht r then r.tail else r)):=λxs r hr hrl=>by
   rw [E8 hl m hr hrl,Cn (by simp only [AX,Bp];omega)];rfl
  simp only [AN,Ah5 m g1 gs,M1 m g1 gs,Aq];unfold Xd;cases hE2:JY ts.tail with
  | true =>
   simp only [Bool.not_true,cond_false,Aq,Bool.true_or,if_true];exact hend [] _ g1 gs
  | false =>
   simp only [Bool.not_false,cond_true,Aq,Bool.false_or];by_cases hS:AB Ht ts.tail=true;rw [if_pos hS,show AB (⟨#[59]⟩:Ah) ts.tail=true from hS];exact hend [] _ g1 gs;rw [if_neg hS,show AB (⟨#[59]⟩:Ah) ts.tail=false from by simpa using hS];simp only [Bool.not_false,cond_true];refine CL (Vy hl ha h0 m g1 gs (by omega)) (JZ g1) (λxs r hv hr hrs hrn=>?_) λa b hb0 hga=>?_;exact hend xs r hr (hrs.trans gs);simp only [HY,IT hl h0 _ hb0,Aq];rw [Cn (by simp only [AX,Bp];omega)];exact ⟨.mk _ _ _ _ _,Aj,rfl⟩
  simp only [if_neg h2,AN];have more:∀ (x:Tree) (r:List Tk),Good r->r <:+ ts->r.length+1<=ts.length->Rel l GT eT3 ((apd 64 acc [x]).bind λl56=>C9.l0 m (RS.at k) l chunk r2 (λl4 x9 x10=>some ((20:Int),(⟨#[]⟩:Ah),(0:Int),r2,l4,x9,x10)) l56 (ix l r) (-1)) (K5 chunk r2 (acc++[x]) r):=λx r hr hrs hn=>by
   rw [Cn (by simp only [AX,Bp];omega)];exact XD chunk r2 m _ r hr (hrs.trans hs) (by omega) (by simp only [BT,AX,Bp];omega) (by omega)
  have TF:∀ (x:Tree) (b:Int),0<=b->∃ a',GT a'/\((apd 64 acc [x]).bind λl56=>C9.l0 m (RS.at k) l chunk r2 (λl4 x9 x10=>some ((20:Int),(⟨#[]⟩:Ah),(0:Int),r2,l4,x9,x10)) l56 (EE l) b)=some (eT3 a' (EE l) b):=λx b hb0=>by
   rw [Cn (by simp only [AX,Bp];omega)];exact Bv1 _ b hb0
  have hst:Rel l GT eT3 (((RS.at k).EU l (ix l ts) (-1) (hd ts).2.2.2).bind λEs=>(apd 64 acc [(Tree.mk Es.1 Es.2.1 Es.2.2.1 Es.2.2.2.1 Es.2.2.2.2.1)]).bind λRv=>C9.l0 m (RS.at k) l chunk r2 (λl4 x9 x10=>some ((20:Int),(⟨#[]⟩:Ah),(0:Int),r2,l4,x9,x10)) Rv Es.2.2.2.2.2.1 Es.2.2.2.2.2.2) ((N8 ts).then λx r=>K5 chunk r2 (acc++[x]) r):=by
   refine CL (ih.stat ts hg hs hk) (XY hg) (λx r hv hr hrs hrn=>?_) λa b hb0 _=>?_;simp only [eT3,Cd];exact more x r hr hrs hrn;simp only [eT3,Cd];exact TF a b hb0
  by_cases hF:(chunk && AB NZ ts)=true;simp only [Bool.and_eq_true] at hF;obtain ⟨hc,hF⟩:=hF;subst hc;rw [if_pos (by rw [hF];rfl)];simp only [cond_true,E8 hl m hg hs,Aq,show AB (⟨#[102,117,110,99,116,105,111,110]⟩:Ah) ts=true from hF,if_true];rw [Awr (AU hF) hg];obtain ⟨g1,g2,g3⟩:=hg.tail (AU hF);have gs:=g3.trans hs;have hle:=hs.length_le
  -- behind the parameters
  have tl:∀ (nm:Ah) (ps:List Tree) (r:List Tk),Good r->r <:+ ts->r.length+1<=ts.length->ps.length<=1000000->Rel l GT eT3 ((CV.f m l (ix l r) (-1) (⟨#[41]⟩:Ah)).bind λD_=>((RS.at k).C9 l D_.1 D_.2 false).bind λCW=>(apd 64 ps [(Tree.mk CW.1 CW.2.1 CW.2.2.1 CW.2.2.2.1 CW.2.2.2.2.1)]).bind λKj=>(CV.f m l CW.2.2.2.2.2.1 CW.2.2.2.2.2.2 (⟨#[101,110,100]⟩:Ah)).bind λGa=>(apd 64 acc [(Tree.mk (31:Int) nm ((ps.length:Nat):Int) (hd ts).2.2.2 Kj)]).bind λl92=>C9.l0 m (RS.at k) l true r2 (λl4 x9 x10=>some ((20:Int),(⟨#[]⟩:Ah),(0:Int),r2,l4,x9,x10)) l92 Ga.1 Ga.2)
    ((Dc Gs r).then λ_ r=>(FE false r).then λb r=>(Dc GQ r).then λ_ r=>K5 true r2 (acc++[.mk 31 nm ps.length (hd ts).2.2.2 (ps++[b])]) r):=λnm ps r hr hrs hn hps=>by
   have hrl:=hrs.trans hs;refine CL (Hu hl ha _ hr hrl _) (CO _ hr) (λ_ s _ hs1 hss hn'=>?_) λ_ b hb0 _=>?_;simp only [FJ];have h3:=hss.trans hrl;refine CL (ih.block false s hs1 h3 (by omega)) (I_ false hs1) (λx s2 _ hs2 Kf Bcw=>?_) λa b hb0 _=>?_;simp only [eT3,Cd];rw [Cn (by simp only [AX,Bp];omega)];simp only [Aq];have h4:=Kf.trans h3;refine CL (Hu hl ha _ hs2 h4 _) (CO _ hs2) (λ_ s3 _ hs3 Alq hn3=>?_) λ_ b hb0 _=>?_;simp only [FJ];exact more _ s3 hs3 (Alq.trans (Kf.trans (hss.trans hrs))) (by omega);simp only [FJ];exact TF _ b hb0;simp only [eT3,Cd];rw [Cn (by simp only [AX,Bp];omega)];simp only [Aq,GA hl h0 _ hb0];exact TF _ b hb0;obtain ⟨n,hn⟩:=ih.SB false b hb0 (by omega);simp only [FJ,hn,Aq,eT3,Cd];rw [Cn (by simp only [AX,Bp];omega)];simp only [Aq,GA hl h0 _ hb0];exact TF _ b hb0
  have tlF:∀ (nm:Ah) (ps:List Tree) (b:Int),0<=b->ps.length<=3000000->∃ a',GT a'/\((CV.f m l (EE l) b (⟨#[41]⟩:Ah)).bind λD_=>((RS.at k).C9 l D_.1 D_.2 false).bind λCW=>(apd 64 ps [(Tree.mk CW.1 CW.2.1 CW.2.2.1 CW.2.2.2.1 CW.2.2.2.2.1)]).bind λKj=>(CV.f m l CW.2.2.2.2.2.1 CW.2.2.2.2.2.2 (⟨#[101,110,100]⟩:Ah)).bind λGa=>(apd 64 acc [(Tree.mk (31:Int) nm ((ps.length:Nat):Int) (hd ts).2.2.2 Kj)]).bind λl92=>C9.l0 m (RS.at k) l true r2 (λl4 x9 x10=>some ((20:Int),(⟨#[]⟩:Ah),(0:Int),r2,l4,x9,x10)) l92 Ga.1 Ga.2)=some (eT3 a' (EE l) b):=λnm ps b hb0 hps=>by
   obtain ⟨n,hn⟩:=ih.SB false b hb0 (by omega);simp only [GA hl h0 _ hb0,Aq,hn,eT3,Cd];rw [Cn (by simp only [AX,Bp];omega)];simp only [Aq,GA hl h0 _ hb0];exact TF _ b hb0
  have whole:Rel l GT eT3 ((FM.f m l (ix l ts.tail) (-1) (6:Int)).bind λr60=>(CV.f m l r60.2.2.2.2.2.1 r60.2.2.2.2.2.2 (⟨#[40]⟩:Ah)).bind λr65=>(DK.f m l r65.1 r65.2 (⟨#[41]⟩:Ah)).bind λWM=>cond (!WM) ((Gk.f m l r65.1 r65.2).bind λK3=>(CV.f m l K3.2.1 K3.2.2 (⟨#[41]⟩:Ah)).bind λD_=>((RS.at k).C9 l D_.1 D_.2 false).bind λCW=>(apd 64 K3.1 [(Tree.mk CW.1 CW.2.1 CW.2.2.1 CW.2.2.2.1 CW.2.2.2.2.1)]).bind λKj=>(CV.f m l CW.2.2.2.2.2.1 CW.2.2.2.2.2.2 (⟨#[101,110,100]⟩:Ah)).bind λGa=>(apd 64 acc [(Tree.mk (31:Int) r60.2.1 ((K3.1.length:Nat):Int) (hd ts).2.2.2 Kj)]).bind λl92=>C9.l0 m (RS.at k) l true r2 (λl4 x9 x10=>some ((20:Int),(⟨#[]⟩:Ah),(0:Int),r2,l4,x9,x10)) l92 Ga.1 Ga.2) ((CV.f m l r65.1 r65.2 (⟨#[41]⟩:Ah)).bind λD_=>((RS.at k).C9 l D_.1 D_.2 false).bind λCW=>(apd 64 [] [(Tree.mk CW.1 CW.2.1 CW.2.2.1 CW.2.2.2.1 CW.2.2.2.2.1)]).bind λKj=>(CV.f m l CW.2.2.2.2.2.1 CW.2.2.2.2.2.2 (⟨#[101,110,100]⟩:Ah)).bind λGa=>(apd 64 acc [(Tree.mk (31:Int) r60.2.1 ((([]:List Tree).length:Nat):Int) (hd ts).2.2.2 Kj)]).bind λl92=>C9.l0 m (RS.at k) l true r2 (λl4 x9 x10=>some ((20:Int),(⟨#[]⟩:Ah),(0:Int),r2,l4,x9,x10)) l92 Ga.1 Ga.2))
    ((GH 6 ts.tail).then λnm r=>(Dc PD r).then λ_ r=>(UD r).then λps r=>(Dc Gs r).then λ_ r=>(FE false r).then λb r=>(Dc GQ r).then λ_ r=>K5 true r2 (acc++[.mk 31 nm.text ps.length (hd ts).2.2.2 (ps++[b])]) r):=by
   refine CL (Om hl ha _ g1 gs 6) (fName 6 g1) (λnm r _ hr hrs hrn=>?_) λa b hb0 _=>?_;simp only [eT3];have h1':=hrs.trans gs;refine CL (Hu hl ha _ hr h1' _) (CO _ hr) (λ_ s _ hs1 hss hn'=>?_) λ_ b hb0 _=>?_;simp only [FJ];have hsl:=hss.trans h1';rw [M1 m hs1 hsl];simp only [Aq];unfold UD;by_cases hR:AB Gs s=true;rw [if_pos hR,show AB (⟨#[41]⟩:Ah) s=true from hR];exact tl nm.text [] s hs1 (hss.trans (hrs.trans g3)) (by omega) (by simp);rw [if_neg hR,show AB (⟨#[41]⟩:Ah) s=false from by simpa using hR];simp only [Bool.not_false,cond_true];refine CL (Aqk hl ha h0 m hs1 hsl (by omega)) (Pb hs1) (λps s2 hv hs2 Kf hn2=>?_) λa b hb0 hga=>?_;have hln:=T3 hs1 hv;exact tl nm.text ps s2 hs2 (Kf.trans (hss.trans (hrs.trans g3))) (by omega) (by omega);exact tlF nm.text a b hb0 hga;simp only [FJ,U0 hl h0 _ hb0,Aq,Bool.not_false,cond_true,Aql hl h0 _ hb0 (show 0 < m by omega)];exact tlF nm.text [RA] b hb0 (by simp);simp only [eT3,GA hl h0 m hb0 (⟨#[40]⟩:Ah),Aq,U0 hl h0 _ hb0,Bool.not_false,cond_true,Aql hl h0 _ hb0 (show 0 < m by omega)];exact tlF a.text [RA] b hb0 (by simp)
  simp only [then_assoc];exact whole;rw [if_neg hF];cases chunk with
  | false =>
   simp only [cond_false];exact hst
  | true =>
   simp only [cond_true,E8 hl m hg hs,Aq];have hF':AB NZ ts=false:=by simpa using hF
   rw [show AB (⟨#[102,117,110,99,116,105,111,110]⟩:Ah) ts=false from hF'];simp only [cond_false,Bool.false_eq_true,if_false];exact hst
theorem Ag2 (c:Bool) {ts:List Tk} (hg:Good ts) (hs:ts <:+ l) (hk:64 * ts.length+49<=k):Rel l GT eT3 (C9.g (RS.at k) k l (ix l ts) (-1) c) (FE c ts):=by
 unfold C9.g;rw [OU k hg hs,Awg c hg];simp only [Aq,AN];have:=hs.length_le;exact XD hl ha h0 ih c (hd ts).2.2.2 k [] ts hg hs (by omega) (by simp only [Bp];omega) (by omega)
omit ih in
theorem Av2 (J:List Tree->Int->Int->Option (Int×Ah×Int×Int×List Tree×Int×Int)) (g:List Tree->List Tk->PV Tree) (Ag:Nat) (hJ:∀ a r,Good r->r <:+ l->r.length<=Ag->a.length<=1000000->Rel l GT eT3 (J a (ix l r) (-1)) (g a r)) (hJF:∀ a b,0<=b->a.length<=1000001->∃ a',GT a'/\J a (EE l) b=some (eT3 a' (EE l) b)) :
  ∀ (m:Nat) (acc:List Tree) (e:Tree) (ts:List Tk),0<=e.at_->Good ts->ts <:+ l->64 * ts.length+2 < m->ts.length<=Ag->acc.length+ts.length+1<=1000000->Rel l GT eT3 (Fj.l0 m l J acc e.kind e.text e.n e.at_ e.kids (ix l ts) (-1)) ((Qy acc e ts).then g)
 | 0,_,_,_,_,_,_,h,_,_=>by omega
 | m+1,acc,e,ts,he,hg,hs,hm,hN,hac=>by
  have hp:=Pe hg;rw [Fj.l0,Aw1 acc e hg];simp only [AN,Cd,show decide ((-1:Int) < 0)=true from rfl,cond_true];have hq:(cond (e.kind != (6:Int)) (some (e.kind != (7:Int))) (some false):Option Bool)=some (!decide (e.kind=6\/e.kind=7)):=by
   rw [bne,bne,NN,NN];by_cases h6:e.kind=6;simp [h6];simp [h6]
  rw [hq];simp only [Aq];obtain ⟨m',hm'⟩:∃ q,m=q+1:=⟨m - 1,by omega⟩;by_cases hk:e.kind=6\/e.kind=7;rw [if_pos hk,decide_eq_true hk];simp only [Bool.not_true,cond_false];rw [Cn (by simp only [AX,Bp];omega)];simp only [Aq,E8 hl m hg hs];by_cases hc:AB Ez ts=true;rw [show AB (⟨#[44]⟩:Ah) ts=true from hc];simp only [Bool.not_true,cond_false,if_true];rw [then_assoc];obtain ⟨g1,g2,g3⟩:=hg.tail (AU hc);have gs:=g3.trans hs;refine CL (Ajm hl ha h0 m g1 gs (by omega)) (Pc g1) (λx r hv hr hrs hn=>?_) λa b hb0 _=>?_;refine Av2 J g Ag hJ hJF m _ x r ?_ hr (hrs.trans gs) (by omega) (by omega) (by simp only [BT,AX,Bp];omega);rw [Avj g1 hv];exact (ha.suf gs).hd;have hstop:∀ kd tx n p ks,Fj.l0 (m'+1) l J (acc++[e]) kd tx n p ks (EE l) b=J (acc++[e]) (EE l) b:=λkd tx n p ks=>by rw [Fj.l0,decide_eq_false (by omega)];rfl
  rw [hm'];simp only [eT3,hstop];exact hJF (acc++[e]) b hb0 (by simp only [BT,AX,Bp];omega);rw [show AB (⟨#[44]⟩:Ah) ts=false from by simpa using hc];simp only [Bool.not_false,cond_true,Bool.false_eq_true,if_false];exact hJ _ ts hg hs hN (by simp only [BT,AX,Bp];omega);rw [if_neg hk,decide_eq_false hk];simp only [Bool.not_false,cond_true,SA hl h0 m,Aq];rw [Cn (by simp only [AX,Bp];omega)];simp only [Aq,IT hl h0 m he,Bool.not_false,cond_true];obtain ⟨a',ha',h⟩:=hJF (acc++[e]) e.at_ he (by simp only [BT,AX,Bp];omega);exact ⟨he,a',ha',h⟩
omit ih in
theorem Bsj (k:Nat) {ts:List Tk} (hg:Good ts) (hs:ts <:+ l) (hk:64 * ts.length+45<=k):Rel l GT eT3 (Fj.g (RS.at k) k l (ix l ts) (-1) (hd ts).2.2.2) (Qx ts):=by
 unfold Fj.g;rw [Awz hg];have hle:=hs.length_le;have hp:=Pe hg;refine CL (Ajm hl ha h0 k hg hs (by omega)) (Pc hg) (λe r hv hr hrs hn=>?_) λa b hb0 _=>?_;have h1:=hrs.trans hs;have hat:=Avj hg hv;simp only [eT3,Cd,M1 k hr h1,Aq,AN];have hq:(cond (!AB (⟨#[61]⟩:Ah) r) (some (!AB (⟨#[44]⟩:Ah) r)) (some false):Option Bool)=some (!(AB EO r || AB Ez r)):=by
  show (cond (!AB EO r) (some (!AB Ez r)) (some false):Option Bool)=_;cases AB EO r <;> cases AB Ez r <;> rfl
 rw [hq];simp only [Aq];cases hb:(AB EO r || AB Ez r) with
 | true =>
  simp only [Bool.not_true,cond_false,if_true];have h:=Av2 hl ha h0 (λD7 x25 x26=>(CV.f k l x25 x26 (⟨#[61]⟩:Ah)).bind λr28=>(Dd.f k l r28.1 r28.2).bind λr29=>(apd 64 D7 r29.1).bind λl34=>some ((22:Int),(⟨#[]⟩:Ah),((D7.length:Nat):Int),(hd ts).2.2.2,l34,r29.2.1,r29.2.2)) (λl r=>(Dc EO r).then λ_ r=>(Gb r).then λes r=>.ok (.mk 22 noB l.length (hd ts).2.2.2 (l++es)) r) r.length (λa s hs1 hsl hsn ha'=>by
   refine CL (Hu hl ha _ hs1 hsl _) (CO _ hs1) (λ_ s2 _ hs2 Kf hn2=>?_) λ_ b hb0 _=>?_;simp only [FJ];refine CL (Vy hl ha h0 k hs2 (Kf.trans hsl) (by omega)) (JZ hs2) (λes s3 hv3 hs3 Alq hn3=>?_) λc b hb0 hga=>?_;have hln:=Oh hs2 hv3;have:=hsl.length_le;simp only [HY];rw [Cn (by omega)];rfl;unfold GL at hga;simp only [HY];rw [Cn (by omega)];exact ⟨.mk _ _ _ _ _,Aj,rfl⟩;simp only [FJ,Vx hl ha h0 k b hb0 (by omega),Aq];rw [Cn (by simp only [AX,Bp];omega)];exact ⟨.mk _ _ _ _ _,Aj,rfl⟩) (λa b hb0 ha'=>by
   simp only [GA hl h0 _ hb0,Aq,Vx hl ha h0 k b hb0 (by omega)];rw [Cn (by simp only [AX,Bp];omega)];exact ⟨.mk _ _ _ _ _,Aj,rfl⟩) k [] e r (by rw [hat];exact (ha.suf hs).hd) hr h1 (by omega) (Nat.le_refl _) (by simp only [Bp];omega)
  rw [hat] at h ⊢;exact h
 | false =>
  simp only [Bool.not_false,cond_true,Bool.false_eq_true,if_false];by_cases h8:e.kind=8;rw [if_pos h8,h8,hat];rfl;rw [if_neg h8,show (e.kind != 8)=true by rw [bne_iff_ne];exact h8];simp only [cond_true,OU k hr h1,Aq,SA hl h0 k];exact ⟨(ha.suf h1).hd,.mk _ _ _ _ _,Aj,rfl⟩
 simp only [eT3,Cd,U0 hl h0 _ hb0,Aq,Bool.not_false,cond_true,AN];obtain ⟨t,ht⟩:=Vd hl h0 k hb0;cases a.kind != (8:Int) with
 | true =>
  simp only [cond_true,ht,Aq,X8 hl h0 k hb0];exact ⟨.mk _ _ _ _ _,Aj,rfl⟩
 | false =>
  simp only [cond_false];exact ⟨.mk _ _ _ _ _,Aj,rfl⟩
omit ih in
theorem Ajj (m:Nat) (J:List Tree->Int->Int->Option (Int×Ah×Int×Int×List Tree×Int×Int)) (acc:List Tree) (b:Int) (hb:0<=b):Fi.l0 (m+1) l J acc (EE l) b=J acc (EE l) b:=by
 rw [Fi.l0,IT hl h0 m hb];rfl
omit ih in
theorem Ajk (J:List Tree->Int->Int->Option (Int×Ah×Int×Int×List Tree×Int×Int)) (g:List Tree->List Tk->PV Tree) (Ag:Nat) (hJ:∀ a r,Good r->r <:+ l->r.length<=Ag->a.length+r.length<=1000000->Rel l GT eT3 (J a (ix l r) (-1)) (g a r)) (hJF:∀ a b,0<=b->a.length<=1000001->∃ a',GT a'/\J a (EE l) b=some (eT3 a' (EE l) b)) :
  ∀ (m:Nat) (acc:List Tree) (ts:List Tk),Good ts->ts <:+ l->ts.length+1 < m->ts.length<=Ag->acc.length+ts.length<=1000000->Rel l GT eT3 (Fi.l0 m l J acc (ix l ts) (-1)) ((K6 acc ts).then g)
 | 0,_,_,_,_,h,_,_=>by omega
 | m+1,acc,ts,hg,hs,hm,hN,hc=>by
  rw [Fi.l0,E8 hl m hg hs,O9 acc hg];simp only [Aq];by_cases hc':AB Ez ts=true;rw [show AB (⟨#[44]⟩:Ah) ts=true from hc'];simp only [cond_true,if_true];rw [then_assoc];obtain ⟨g1,g2,g3⟩:=hg.tail (AU hc');have gs:=g3.trans hs;refine CL (Om hl ha _ g1 gs 6) (fName 6 g1) (λx r hv hr hrs hrn=>?_) λa b hb0 _=>?_;simp only [eT3,Cd];rw [Cn (by simp only [AX,Bp];omega)];simp only [Aq];exact Ajk J g Ag hJ hJF m _ r hr (hrs.trans gs) (by omega) (by omega) (by simp only [BT,AX,Bp];omega);simp only [eT3,Cd];rw [Cn (by simp only [AX,Bp];omega)];obtain ⟨m,rfl⟩:∃ q,m=q+1:=⟨m - 1,by omega⟩;simp only [Aq,Ajj hl ha h0 m J _ b hb0];exact hJF _ b hb0 (by simp only [BT,AX,Bp];omega);rw [show AB (⟨#[44]⟩:Ah) ts=false from by simpa using hc'];simp only [cond_false,Bool.false_eq_true,if_false];exact hJ _ ts hg hs hN hc
theorem A6r (at_:Int) {ts:List Tk} (hg:Good ts) (hs:ts <:+ l) (hk:64 * ts.length+47<=k):Rel l GT eT3 (Fi.g (RS.at k) k l (ix l ts) (-1) at_) (Qw at_ ts):=by
 unfold Fi.g;rw [Awp at_ hg];have hle:=hs.length_le;have hp:=Pe hg;obtain ⟨k',hk'⟩:∃ q,k=q+1:=⟨k - 1,by omega⟩
 -- the body, and the end
 have tl:∀ (kd nn:Int) (xs:List Tree) (r:List Tk),Good r->r <:+ l->r.length+1<=ts.length->xs.length<=4000000->Rel l GT eT3 (((RS.at k).Et l (ix l r) (-1)).bind λr47=>(apd 64 xs [(Tree.mk r47.1 r47.2.1 r47.2.2.1 r47.2.2.2.1 r47.2.2.2.2.1)]).bind λl55=>some (kd,(⟨#[]⟩:Ah),nn,at_,l55,r47.2.2.2.2.2.1,r47.2.2.2.2.2.2)) ((Jo r).then λbd r=>.ok (.mk kd noB nn at_ (xs++[bd])) r):=λkd nn xs r hr hrl hn hxs=>by
  refine CL (ih.body r hr hrl (by omega)) (Pa hr) (λx s _ _ _ _=>?_) λa b hb0 _=>?_;simp only [eT3,Cd];rw [Cn (by simp only [AX,Bp];omega)];rfl;simp only [eT3,Cd];rw [Cn (by simp only [AX,Bp];omega)];exact ⟨.mk _ _ _ _ _,Aj,rfl⟩
 have tlF:∀ (kd nn:Int) (xs:List Tree) (b:Int),0<=b->xs.length<=4000000->∃ a',GT a'/\(((RS.at k).Et l (EE l) b).bind λr47=>(apd 64 xs [(Tree.mk r47.1 r47.2.1 r47.2.2.1 r47.2.2.2.1 r47.2.2.2.2.1)]).bind λl55=>some (kd,(⟨#[]⟩:Ah),nn,at_,l55,r47.2.2.2.2.2.1,r47.2.2.2.2.2.2))=some (eT3 a' (EE l) b):=λkd nn xs b hb0 hxs=>by
  obtain ⟨n,hn⟩:=ih.Ag6 b hb0 (by omega);simp only [hn,Aq,eT3,Cd];rw [Cn (by simp only [AX,Bp];omega)];exact ⟨.mk _ _ _ _ _,Aj,rfl⟩
 -- behind the names of a 'for in'
 have inF:∀ (xs:List Tree) (b:Int),0<=b->xs.length<=1000001->∃ a',GT a'/\((CV.f k l (EE l) b (⟨#[105,110]⟩:Ah)).bind λCy=>(Dd.f k l Cy.1 Cy.2).bind λJk=>(apd 64 xs Jk.1).bind λKX=>((RS.at k).Et l Jk.2.1 Jk.2.2).bind λr95=>(apd 64 KX [(Tree.mk r95.1 r95.2.1 r95.2.2.1 r95.2.2.2.1 r95.2.2.2.2.1)]).bind λOd=>some ((27:Int),(⟨#[]⟩:Ah),((xs.length:Nat):Int),at_,Od,r95.2.2.2.2.2.1,r95.2.2.2.2.2.2))=some (eT3 a' (EE l) b):=λxs b hb0 hxs=>by
  simp only [GA hl h0 _ hb0,Aq,Vx hl ha h0 k b hb0 (by omega)];rw [Cn (by simp only [AX,Bp];omega)];exact tlF 27 _ _ b hb0 (by simp only [BT,AX,Bp];omega)
 have Bhe:∀ (xs:List Tree) (r:List Tk),Good r->r <:+ l->r.length+1<=ts.length->xs.length+r.length<=1000000->Rel l GT eT3 ((CV.f k l (ix l r) (-1) (⟨#[105,110]⟩:Ah)).bind λCy=>(Dd.f k l Cy.1 Cy.2).bind λJk=>(apd 64 xs Jk.1).bind λKX=>((RS.at k).Et l Jk.2.1 Jk.2.2).bind λr95=>(apd 64 KX [(Tree.mk r95.1 r95.2.1 r95.2.2.1 r95.2.2.2.1 r95.2.2.2.2.1)]).bind λOd=>some ((27:Int),(⟨#[]⟩:Ah),((xs.length:Nat):Int),at_,Od,r95.2.2.2.2.2.1,r95.2.2.2.2.2.2)) ((Dc VP r).then λ_ r=>(Gb r).then λes r=>(Jo r).then λbd r=>.ok (.mk 27 noB xs.length at_ (xs++es++[bd])) r):=λxs r hr hrl hn hxs=>by
  refine CL (Hu hl ha _ hr hrl _) (CO _ hr) (λ_ s _ hs1 hss hn'=>?_) λ_ b hb0 _=>?_;simp only [FJ];have h3:=hss.trans hrl;refine CL (Vy hl ha h0 k hs1 h3 (by omega)) (JZ hs1) (λes s2 hv2 hs2 Kf hn2=>?_) λc b hb0 hga=>?_;have hln:=Oh hs1 hv2;simp only [HY];rw [Cn (by omega)];exact tl 27 _ _ s2 hs2 (Kf.trans h3) (by omega) (by simp only [BT];omega);unfold GL at hga;simp only [HY];rw [Cn (by omega)];exact tlF 27 _ _ b hb0 (by simp only [BT];omega);simp only [FJ,Aq,Vx hl ha h0 k b hb0 (by omega)];rw [Cn (by simp only [AX,Bp];omega)];exact tlF 27 _ _ b hb0 (by simp only [BT,AX,Bp];omega)
 refine CL (Om hl ha _ hg hs 6) (fName 6 hg) (λn r hv hr hrs hrn=>?_) λa b hb0 _=>?_;simp only [eT3,Cd,AN];have h1:=hrs.trans hs;rw [E8 hl k hr h1];simp only [Aq];refine FO (Dt _) (λhc=>?_) λhne=>?_;simp only [hc,if_true];obtain ⟨g1,g2,g3⟩:=hr.tail (AU hc);have gs:=g3.trans h1
 -- behind the first bound
 have D9:∀ (xs:List Tree) (b:Int),0<=b->xs.length<=100->∃ a',GT a'/\((Cw.f k l (EE l) b (⟨#[44]⟩:Ah)).bind λr60=>cond r60.1 ((Cu.f k l r60.2 b (1:Int)).bind λr62=>(apd 64 xs [(Tree.mk r62.1 r62.2.1 r62.2.2.1 r62.2.2.2.1 r62.2.2.2.2.1)]).bind λl70=>((RS.at k).Et l r62.2.2.2.2.2.1 r62.2.2.2.2.2.2).bind λr47=>(apd 64 l70 [(Tree.mk r47.1 r47.2.1 r47.2.2.1 r47.2.2.2.1 r47.2.2.2.2.1)]).bind λl55=>some ((26:Int),(⟨#[]⟩:Ah),(0:Int),at_,l55,r47.2.2.2.2.2.1,r47.2.2.2.2.2.2)) (((RS.at k).Et l r60.2 b).bind λr47=>(apd 64 xs [(Tree.mk r47.1 r47.2.1 r47.2.2.1 r47.2.2.2.1 r47.2.2.2.2.1)]).bind λl55=>some ((26:Int),(⟨#[]⟩:Ah),(0:Int),at_,l55,r47.2.2.2.2.2.1,r47.2.2.2.2.2.2)))=some (eT3 a' (EE l) b):=λxs b hb0 hxs=>by
  simp only [IT hl h0 _ hb0,Aq,cond_false];exact tlF 26 0 xs b hb0 (by omega)
 refine CL (SK hl ha h0 k g1 gs (by omega)) (Da (by omega) g1) (λx r2 _ hr2 Ey hn2=>?_) λa b hb0 _=>?_;simp only [eT3,Cd];have h2:=Ey.trans gs;rw [Cn (by simp)];simp only [Aq];refine CL (Hu hl ha _ hr2 h2 _) (CO _ hr2) (λ_ r3 _ hr3 GP hn3=>?_) λ_ b hb0 _=>?_;simp only [FJ];have h3:=GP.trans h2;refine CL (SK hl ha h0 k hr3 h3 (by omega)) (Da (by omega) hr3) (λy r4 _ hr4 QX hn4=>?_) λa b hb0 _=>?_;simp only [eT3,Cd];have h4:=QX.trans h3;rw [Cn (by simp)];simp only [Aq,E8 hl k hr4 h4];unfold UE;by_cases hC:AB Ez r4=true;rw [if_pos hC,show AB (⟨#[44]⟩:Ah) r4=true from hC];simp only [cond_true,if_true];obtain ⟨g5,g6,g7⟩:=hr4.tail (AU hC);have gs5:=g7.trans h4;rw [then_assoc];refine CL (SK hl ha h0 k g5 gs5 (by omega)) (Da (by omega) g5) (λz r5 _ hr5 Zo hn5=>?_) λa b hb0 _=>?_;simp only [eT3,Cd];rw [Cn (by simp)];exact tl 26 0 _ r5 hr5 (Zo.trans gs5) (by omega) (by simp);simp only [eT3,Cd];rw [Cn (by simp)];exact tlF 26 0 _ b hb0 (by simp);rw [if_neg hC,show AB (⟨#[44]⟩:Ah) r4=false from by simpa using hC];simp only [cond_false,Bool.false_eq_true,if_false];have:=tl 26 0 ([n]++[x]++[y]) r4 hr4 h4 (by omega) (by simp);simp only [PV.then,List.append_nil];exact this;simp only [eT3,Cd];rw [Cn (by simp)];exact D9 _ b hb0 (by simp);simp only [FJ,Ai7 hl h0 k 1 b hb0,Aq];rw [Cn (by simp)];exact D9 _ b hb0 (by simp);simp only [eT3,Cd];rw [Cn (by simp)];simp only [Aq,GA hl h0 _ hb0,Ai7 hl h0 k 1 b hb0];rw [Cn (by simp)];exact D9 _ b hb0 (by simp);simp only [if_neg hne];refine Ajk hl ha h0 _ _ r.length (λa s hs1 hsl hsn ha'=>?_) inF k [n] r hr h1 (by omega) (Nat.le_refl _) (by simp only [AX,Bp];omega);exact Bhe a s hs1 hsl (by omega) ha';simp only [eT3,Cd,AN,IT hl h0 _ hb0,Aq,cond_false];rw [hk',Ajj hl ha h0 k' _ _ b hb0,<- hk'];exact inF [a] b hb0 (by simp)
theorem Amc (J:List Tree->Int->Int->Option (Int×Ah×Int×Int×List Tree×Int×Int)) (T:List Tree->Tree)
  (hJ:∀ a r,Good r->r <:+ l->64 * r.length+50<=k->a.length<=1000000->Rel l GT eT3 (J a (ix l r) (-1)) ((if AB NY r then (FE false r.tail).then λc r=>(Dc GQ r).then λ_ r=>.ok (a++[c]) r else (Dc GQ r).then λ_ r=>.ok a r).then λl r=>.ok (T l) r))
  (hJF:∀ a b,0<=b->a.length<=1000002->∃ a',GT a'/\J a (EE l) b=some (eT3 a' (EE l) b)) :
  ∀ (m:Nat) (acc:List Tree) (ts:List Tk),Good ts->ts <:+ l->64 * ts.length+4 < m->acc.length+2 * ts.length<=1000000->64 * ts.length<=k->Rel l GT eT3 (EU.l0 m (RS.at k) l J true acc (ix l ts) (-1)) ((N7 acc ts).then λl r=>.ok (T l) r)
 | 0,_,_,_,_,h,_,_=>by omega
 | m+1,acc,ts,hg,hs,hm,hac,hk=>by
  have hp:=Pe hg;rw [EU.l0,Awh acc hg];simp only [cond_true,then_assoc];obtain ⟨m',hm'⟩:∃ q,m=q+1:=⟨m - 1,by omega⟩;have stop:∀ (acc:List Tree) (i f:Int),EU.l0 m (RS.at k) l J false acc i f=J acc i f:=λacc i f=>by rw [hm',EU.l0];rfl
  have Ah3:∀ (e:Tree) (b:Int),0<=b->∃ a',GT a'/\(((RS.at k).C9 l (EE l) b false).bind λr91=>(apd 64 acc [e,(Tree.mk r91.1 r91.2.1 r91.2.2.1 r91.2.2.2.1 r91.2.2.2.2.1)]).bind λRr=>(Cw.f m l r91.2.2.2.2.2.1 r91.2.2.2.2.2.2 (⟨#[101,108,115,101,105,102]⟩:Ah)).bind λOv=>EU.l0 m (RS.at k) l J Ov.1 Rr Ov.2 r91.2.2.2.2.2.2)=some (eT3 a' (EE l) b):=λe b hb0=>by
   obtain ⟨n,hn⟩:=ih.SB false b hb0 (by omega);simp only [hn,Aq,eT3,Cd];rw [Cn (by simp only [AX,Bp];omega)];simp only [Aq,IT hl h0 _ hb0,stop];exact hJF _ b hb0 (by simp only [BT,AX,Bp];omega)
  refine CL (SK hl ha h0 m hg hs (by omega)) (Da (by omega) hg) (λe r _ hr hrs hn=>?_) λa b hb0 _=>?_;simp only [eT3,Cd];have h1:=hrs.trans hs;refine CL (Hu hl ha _ hr h1 _) (CO _ hr) (λ_ r2 _ hr2 Ey hn2=>?_) λ_ b hb0 _=>?_;simp only [FJ];have h2:=Ey.trans h1;refine CL (ih.block false r2 hr2 h2 (by omega)) (I_ false hr2) (λbb r3 _ hr3 GP hn3=>?_) λa b hb0 _=>?_;simp only [eT3,Cd];have h3:=GP.trans h2;rw [Cn (by simp only [AX,Bp];omega)];simp only [Aq,E8 hl m hr3 h3];have e2:acc++[e]++[bb]=acc++[e,bb]:=by simp
  rw [e2];by_cases hc:AB PB r3=true;rw [if_pos hc,show AB (⟨#[101,108,115,101,105,102]⟩:Ah) r3=true from hc];simp only [if_true];obtain ⟨g1,g2,g3⟩:=hr3.tail (AU hc);exact Amc J T hJ hJF m _ _ g1 (g3.trans h3) (by omega) (by simp only [BT,AX,Bp];omega) (by omega);rw [if_neg hc,show AB (⟨#[101,108,115,101,105,102]⟩:Ah) r3=false from by simpa using hc];simp only [Bool.false_eq_true,if_false,stop];exact hJ _ r3 hr3 h3 (by omega) (by simp only [BT,AX,Bp];omega);simp only [eT3,Cd];rw [Cn (by simp only [AX,Bp];omega)];simp only [Aq,IT hl h0 _ hb0,stop];exact hJF _ b hb0 (by simp only [BT,AX,Bp];omega);simp only [FJ];exact Ah3 e b hb0;simp only [eT3,Cd,GA hl h0 _ hb0,Aq];exact Ah3 a b hb0
theorem Bvs (hl2:l.length<=400000) {ts:List Tk} (hg:Good ts) (hs:ts <:+ l) (hk:64 * ts.length+46<=k):Rel l GT eT3 (EU.g (RS.at k) k l (ix l ts) (-1) (hd ts).2.2.2) (N8 ts):=by
 unfold EU.g;rw [Aw0 hg];have hle:=hs.length_le;have hp:=Pe hg;simp only [AN,M1 k hg hs,Aq];have same:∀ {x:Option (Int×Ah×Int×Int×List Tree×Int×Int)} {v:PV Tree},Rel l GT eT3 x v->Rel l GT eT3 (x.bind λE4=>some (E4.1,E4.2.1,E4.2.2.1,E4.2.2.2.1,E4.2.2.2.2.1,E4.2.2.2.2.2.1,E4.2.2.2.2.2.2)) v:=λ{x v} hx=>by
  have e:(x.bind λE4=>some (E4.1,E4.2.1,E4.2.2.1,E4.2.2.2.1,E4.2.2.2.2.1,E4.2.2.2.2.2.1,E4.2.2.2.2.2.2))=x:=by cases x <;> rfl
  rw [e];exact hx
 refine FO (Dt _) (λhc=>?_) λh1=>?_;refine CL (ih.body ts hg hs hk) (Pa hg) (λx r _ _ _ _=>?_) λa b hb0 _=>?_;simp only [eT3,Cd];rfl;exact ⟨.mk _ _ _ _ _,Aj,rfl⟩;simp only [E8 hl k hg hs,Aq];refine FO (Dt _) (λhc=>?_) λh2=>?_;simp only [hc,if_true];obtain ⟨g1,g2,g3⟩:=hg.tail (AU hc);have gs:=g3.trans hs;refine CL (SK hl ha h0 k g1 gs (by omega)) (Da (by omega) g1) (λx r _ hr hrs hrn=>?_) λa b hb0 _=>?_;simp only [eT3,Cd];refine CL (ih.body r hr (hrs.trans gs) (by omega)) (Pa hr) (λy s _ _ _ _=>?_) λa b hb0 _=>?_;simp only [eT3,Cd];rfl;exact ⟨.mk _ _ _ _ _,Aj,rfl⟩;obtain ⟨n,hn⟩:=ih.Ag6 b hb0 (by omega);simp only [eT3,hn,Aq];exact ⟨.mk _ _ _ _ _,Aj,rfl⟩;simp only [if_neg h2,E8 hl k hg hs,Aq];refine FO (Dt _) (λhc=>?_) λh3=>?_;simp only [hc,if_true];obtain ⟨g1,g2,g3⟩:=hg.tail (AU hc);refine Amc hl ha h0 ih _ (λl=>.mk 24 noB 0 (hd ts).2.2.2 l) (λa r hr hrl hk2 ha2=>?_) (λa b hb0 ha2=>?_) k [] _ g1 (g3.trans hs) (by omega) (by simp only [Bp];omega) (by omega);rw [E8 hl k hr hrl];simp only [Aq];by_cases hE:AB NY r=true;rw [if_pos hE,show AB (⟨#[101,108,115,101]⟩:Ah) r=true from hE];simp only [cond_true,if_true,then_assoc];obtain ⟨g4,g5,g6⟩:=hr.tail (AU hE);have gs4:=g6.trans hrl;refine CL (ih.block false _ g4 gs4 (by omega)) (I_ false g4) (λc r3 _ hr3 GP hn3=>?_) λc b hb0 _=>?_;simp only [eT3,Cd];rw [Cn (by simp only [AX,Bp];omega)];simp only [Aq];exact CL (Hu hl ha _ hr3 (GP.trans gs4) _) (CO _ hr3) (λ_ _ _ _ _ _=>rfl) λ_ b hb0 _=>⟨.mk _ _ _ _ _,Aj,rfl⟩;simp only [eT3,Cd];rw [Cn (by simp only [AX,Bp];omega)];simp only [Aq,GA hl h0 _ hb0];exact ⟨.mk _ _ _ _ _,Aj,rfl⟩;rw [if_neg hE,show AB (⟨#[101,108,115,101]⟩:Ah) r=false from by simpa using hE];simp only [cond_false,Bool.false_eq_true,if_false,then_assoc];exact CL (Hu hl ha _ hr hrl _) (CO _ hr) (λ_ _ _ _ _ _=>rfl) λ_ b hb0 _=>⟨.mk _ _ _ _ _,Aj,rfl⟩;simp only [IT hl h0 _ hb0,Aq,cond_false,GA hl h0 _ hb0];exact ⟨.mk _ _ _ _ _,Aj,rfl⟩;simp only [if_neg h3,E8 hl k hg hs,Aq];refine FO (Dt _) (λhc=>?_) λh4=>?_;simp only [hc,if_true];obtain ⟨g1,g2,g3⟩:=hg.tail (AU hc);exact same (ih.loop _ _ g1 (g3.trans hs) (by omega));simp only [if_neg h4,E8 hl k hg hs,Aq];refine FO (Dt _) (λhc=>?_) λh5=>?_;simp only [hc,if_true];obtain ⟨g1,g2,g3⟩:=hg.tail (AU hc);have gs:=g3.trans hs;refine CL (Aqk hl ha h0 k g1 gs (by omega)) (Pb g1) (λxs r hv hr hrs hrn=>?_) λa b hb0 hga=>?_;have hln:=T3 g1 hv;have hrl:=hrs.trans gs;simp only [HY];rw [E8 hl k hr hrl];unfold UC;simp only [Aq];by_cases hE:AB EO r=true;rw [if_pos hE,show AB (⟨#[61]⟩:Ah) r=true from hE];simp only [cond_true,if_true];obtain ⟨g4,g5,g6⟩:=hr.tail (AU hE);refine CL (Vy hl ha h0 k g4 (g6.trans hrl) (by omega)) (JZ g4) (λes s hv2 hs2 Kf hn2=>?_) λc b hb0 hga=>?_;have Bcr:=Oh g4 hv2;simp only [HY];rw [Cn (by omega)];rfl;unfold GL at hga;simp only [HY];rw [Cn (by omega)];exact ⟨.mk _ _ _ _ _,Aj,rfl⟩;rw [if_neg hE,show AB (⟨#[61]⟩:Ah) r=false from by simpa using hE];simp only [cond_false,Bool.false_eq_true,if_false,PV.then,List.append_nil];rfl;simp only [HY,IT hl h0 _ hb0,Aq,cond_false];exact ⟨.mk _ _ _ _ _,Aj,rfl⟩;simp only [if_neg h5,E8 hl k hg hs,Aq];refine FO (Dt _) (λhc=>?_) λh6=>?_;simp only [hc,if_true];rfl;simp only [if_neg h6];exact same (ih.plain _ hg hs (by omega))
end
theorem bS {l:List Tk} (hl:l.length<=400000) (ha:KC l) (h0:l≠[]):∀ k,BS l k
 | 0=>by constructor <;> intros <;> omega
 | k+1=>by
  have ih:=bS hl ha h0 k;have h1:l.length<=1000000:=by omega
  exact ⟨λc ts hg hs h=>Ag2 h1 ha h0 ih c hg hs (by omega),λc b hb h=>A0v h1 h0 k (by omega) _ c b hb,λts hg hs h=>Bvs h1 ha h0 ih hl hg hs (by omega),λat_ ts hg hs h=>A6r h1 ha h0 ih at_ hg hs (by omega),λts hg hs h=>Bsj h1 ha h0 k hg hs (by omega),λts hg hs h=>A01 h1 ha h0 ih hg hs (by omega),λb hb h=>A0y h1 ha h0 ih b hb (by omega)⟩
theorem A5l {l:List Tk} (hl:l.length<=400000) (ha:KC l) (h0:l≠[]) (k:Nat) (c:Bool) {ts:List Tk} (hg:Good ts) (hs:ts <:+ l) (hk:64 * ts.length+49<=k):Rel l GT eT3 (C9.f k l (ix l ts) (-1) c) (FE c ts):=Ag2 (by omega) ha h0 (bS hl ha h0 k) c hg hs hk
end
section
open Go Go.RowKit Lx
namespace Lx
def LJ (r:Nat):Nat:=if r < 128 then 1 else if r < 2048 then 2 else if r < 65536 then 3 else 4
theorem Bkt (r:Nat):Ig r=decide (97<=r/\r<=122\/65<=r/\r<=90\/r=95\/(128<=r/\r<=1114111/\r≠65533/\Utf8.valid (r:Int)=true)):=by
 unfold Ig;generalize Utf8.valid (r:Int)=v;rw [Bool.eq_iff_iff];cases v <;> simp only [decide_eq_true_eq,Bool.or_eq_true,Bool.and_eq_true,beq_iff_eq,bne_iff_ne,Bool.false_eq_true,and_false,or_false,and_true,ne_eq] <;> omega
theorem Aw4 (r:Nat) (h:1114111 < r):Utf8.valid (r:Int)=false:=by
 unfold Utf8.valid;simp;omega
def EV:Nat->Nat->Bs->Option Nat
 | 0,r,_=>some r
 | _+1,_,[]=>none
 | k+1,r,b :: t=>if 128<=b.toNat/\b.toNat < 192 then EV k (r * 64+b.toNat - 128) t else none
theorem Avh:∀ (k r:Nat) (t:Bs),t.length < k->EV k r t=none
 | 0,_,_,h=>by omega
 | k+1,r,[],_=>rfl
 | k+1,r,b :: t,h=>by
  simp only [EV];split;exact Avh k _ t (by simpa using h);rfl
def FW (n:Nat) (x:Option Nat):Nat×Nat:=match x with | none=>(65533,1) | some r=>if Utf8.valid r=true/\LJ r=n then (r,n) else (65533,1)
theorem Aw3 (r:Nat) (h:r < 55296):Utf8.valid (r:Int)=true:=by
 unfold Utf8.valid;simp;omega
theorem KJ (c:UInt8):(c.toNat / 64 == 2)=decide (128<=c.toNat/\c.toNat < 192):=by
 rw [Bool.eq_iff_iff];simp;omega
theorem A3y (b:UInt8) (t:Bs) (h:b.toNat < 128):FW 1 (EV 0 b.toNat t)=B2 (b :: t):=by
 rw [OZ b t h];simp only [EV,FW];rw [if_pos ⟨Aw3 _ (by omega),if_pos h⟩]
theorem A3z (b:UInt8) (t:Bs) (h1:192<=b.toNat) (h2:b.toNat < 224):FW 2 (EV 1 (b.toNat - 192) t)=B2 (b :: t):=by
 have a0:¬ b.toNat < 128:=by omega
 have a1:(b.toNat / 32 == 6)=true:=by rw [beq_iff_eq];omega
 have a2:(b.toNat / 16 == 14)=false:=by rw [beq_eq_false_iff_ne];omega
 have a3:(b.toNat / 8 == 30)=false:=by rw [beq_eq_false_iff_ne];omega
 cases t with
 | nil=>simp [B2,EV,FW,a0,a1,a2,a3]
 | cons c t =>
  by_cases hc:128<=c.toNat/\c.toNat < 192
  ·have ev:(b.toNat - 192) * 64+c.toNat - 128=b.toNat % 32 * 64+c.toNat % 64:=by omega
   simp only [EV,if_pos hc,FW];rw [ev];have hv:Utf8.valid ((b.toNat % 32 * 64+c.toNat % 64:Nat):Int)=true:=Aw3 _ (by omega);have hl:LJ (b.toNat % 32 * 64+c.toNat % 64)=2 ↔ 128<=b.toNat % 32 * 64+c.toNat % 64:=by
    unfold LJ
    (repeat' split) <;> omega
   simp only [B2,List.getD_cons_zero,List.getD_cons_succ,AX,KJ,a0,a1,hc,hv,hl];simp
  ·simp [B2,EV,FW,a0,a1,a2,a3,KJ,hc]
theorem A4b (b:UInt8) (t:Bs) (h1:224<=b.toNat) (h2:b.toNat < 240):FW 3 (EV 2 (b.toNat - 224) t)=B2 (b :: t):=by
 have a0:¬ b.toNat < 128:=by omega
 have a1:(b.toNat / 32 == 6)=false:=by rw [beq_eq_false_iff_ne];omega
 have a2:(b.toNat / 16 == 14)=true:=by rw [beq_iff_eq];omega
 have a3:(b.toNat / 8 == 30)=false:=by rw [beq_eq_false_iff_ne];omega
 match t with
 | []=>simp [B2,EV,FW,a0,a1,a2,a3]
 | [c] =>
  by_cases hc:128<=c.toNat/\c.toNat < 192 <;> simp [B2,EV,FW,a0,a1,a2,a3,KJ,hc]
 | c :: d :: t =>
  by_cases hc:128<=c.toNat/\c.toNat < 192
  ·by_cases hd:128<=d.toNat/\d.toNat < 192
   ·have ev:((b.toNat - 224) * 64+c.toNat - 128) * 64+d.toNat - 128=b.toNat % 16 * 4096+c.toNat % 64 * 64+d.toNat % 64:=by omega
    simp only [EV,if_pos hc,if_pos hd,FW];rw [ev];have hl:LJ (b.toNat % 16 * 4096+c.toNat % 64 * 64+d.toNat % 64)=3 ↔ 2048<=b.toNat % 16 * 4096+c.toNat % 64 * 64+d.toNat % 64:=by
     unfold LJ
     (repeat' split) <;> omega
    simp only [B2,List.getD_cons_zero,List.getD_cons_succ,AX,KJ,a0,a1,a2,hc,hd,hl];simp [and_comm]
   ·simp [B2,EV,FW,a0,a1,a2,a3,KJ,hc,hd]
  ·simp [B2,EV,FW,a0,a1,a2,a3,KJ,hc]
theorem A4c (b:UInt8) (t:Bs) (h1:240<=b.toNat) (h2:b.toNat < 248):FW 4 (EV 3 (b.toNat - 240) t)=B2 (b :: t):=by
 have a0:¬ b.toNat < 128:=by omega
 have a1:(b.toNat / 32 == 6)=false:=by rw [beq_eq_false_iff_ne];omega
 have a2:(b.toNat / 16 == 14)=false:=by rw [beq_eq_false_iff_ne];omega
 have a3:(b.toNat / 8 == 30)=true:=by rw [beq_iff_eq];omega
 match t with
 | []=>simp [B2,EV,FW,a0,a1,a2,a3]
 | [c] =>
  by_cases hc:128<=c.toNat/\c.toNat < 192 <;> simp [B2,EV,FW,a0,a1,a2,a3,KJ,hc]
 | [c,d] =>
  by_cases hc:128<=c.toNat/\c.toNat < 192 <;> by_cases hd:128<=d.toNat/\d.toNat < 192 <;> simp [B2,EV,FW,a0,a1,a2,a3,KJ,hc,hd]
 | c :: d :: e :: t =>
  by_cases hc:128<=c.toNat/\c.toNat < 192
  ·by_cases hd:128<=d.toNat/\d.toNat < 192
   ·by_cases he:128<=e.toNat/\e.toNat < 192
    ·have ev:(((b.toNat - 240) * 64+c.toNat - 128) * 64+d.toNat - 128) * 64+e.toNat - 128=b.toNat % 8 * 262144+c.toNat % 64 * 4096+d.toNat % 64 * 64+e.toNat % 64:=by omega
     simp only [EV,if_pos hc,if_pos hd,if_pos he,FW];rw [ev];have hl:LJ (b.toNat % 8 * 262144+c.toNat % 64 * 4096+d.toNat % 64 * 64+e.toNat % 64)=4 ↔ 65536<=b.toNat % 8 * 262144+c.toNat % 64 * 4096+d.toNat % 64 * 64+e.toNat % 64:=by
      unfold LJ
      (repeat' split) <;> omega
     simp only [B2,List.getD_cons_zero,List.getD_cons_succ,AX,KJ,a0,a1,a2,a3,hc,hd,he,hl];simp [and_comm]
    ·simp [B2,EV,FW,a0,a1,a2,a3,KJ,hc,hd,he]
   ·simp [B2,EV,FW,a0,a1,a2,a3,KJ,hc,hd]
  ·simp [B2,EV,FW,a0,a1,a2,a3,KJ,hc]
theorem Ah4 (b:UInt8) (t:Bs) (h0:128<=b.toNat) (h:b.toNat < 192\/248<=b.toNat):B2 (b :: t)=(65533,1):=by
 have a0:¬ b.toNat < 128:=by omega
 have a1:(b.toNat / 32 == 6)=false:=by rw [beq_eq_false_iff_ne];have:=b.toNat_lt;omega
 have a2:(b.toNat / 16 == 14)=false:=by rw [beq_eq_false_iff_ne];omega
 have a3:(b.toNat / 8 == 30)=false:=by rw [beq_eq_false_iff_ne];omega
 simp [B2,a0,a1,a2,a3]
end Lx
def Evt {α:Type} (g:Nat->Option α) (r:α):Prop:=∃ K,∀ k,K<=k->g k=some r
theorem Evt.bind {α β:Type} {g:Nat->Option α} {f:Nat->α->Option β} {a:α} {r:β} (h1:Evt g a) (h2:Evt (λk=>f k a) r):Evt (λk=>(g k).bind (f k)) r:=by
 obtain ⟨K1,h1⟩:=h1;obtain ⟨K2,h2⟩:=h2;exact ⟨max K1 K2,λk hk=>by show (g k).bind (f k)=some r;rw [h1 k (by omega)];exact h2 k (by omega)⟩
theorem wi (x:Int) (h0:-9223372036854775808<=x) (h1:x<=9223372036854775807):Au x=x:=by unfold Au IntKind.wrap;simp [IntKind.bits,IntKind.signed];omega
theorem wb (c:UInt8):Au (c.toNat:Int)=c.toNat:=wi _ (by omega) (by have:=c.toNat_lt;omega)
theorem EN {α:Type} (p:Prop) [Decidable p] (a b:α):cond (decide p) a b=if p then a else b:=Bool.cond_decide p a b
theorem Aht {α:Type} (x y:Int) (a b:α):cond (x == y) a b=if x=y then a else b:=by rw [<- EN];rfl
theorem Ahu {α:Type} (x y:Int) (a b:α):cond (x != y) a b=if x=y then b else a:=by
 by_cases h:x=y;subst h;simp;rw [if_neg h,show (x != y)=true from bne_iff_ne.2 h];rfl
theorem Uy (s:Ah) (i:Nat):Dm s (i:Int)=(bs s)[i]?:=by
 unfold Dm;rw [if_pos (by omega),Int.toNat_natCast];simp only [bs];rcases Nat.lt_or_ge i s.size with h | h;rw [getElem?_pos s i h,List.getElem?_eq_getElem (by simpa using h)];rfl;rw [getElem?_neg s i (by omega),List.getElem?_eq_none (by simpa using h)]
theorem Auo (s:Ah) (i:Nat):Dm s (i:Int)=((bs s).drop i).head?:=by rw [Uy,List.head?_drop]
theorem Yb (k:Nat) (r:Nat):Hc.f k (r:Int)=some (Utf8.valid (r:Int)):=by
 have hv:Utf8.valid (r:Int)=decide (r < 55296\/(57343 < r/\r<=1114111)):=by
  unfold Utf8.valid;rw [Bool.eq_iff_iff];simp;omega
 unfold Hc.f;simp only [EN];rw [hv];rw [if_pos (by omega)];by_cases h1:(r:Int)<=1114111;rw [if_pos h1];by_cases h2:(r:Int) < 55296;rw [if_pos h2];simp only [Aq,Option.some.injEq,Bool.true_eq,decide_eq_true_eq];omega;rw [if_neg h2];simp only [Aq,Option.some.injEq,decide_eq_decide];omega;rw [if_neg h1];simp only [Aq,Option.some.injEq,Bool.false_eq,decide_eq_false_iff_not];omega
theorem bytes_eq (k:Nat) (r:Nat):LR.f k (r:Int)=some ((LJ r:Nat):Int):=by
 unfold LR.f AN LJ;simp only [EN,wi 2 (by omega) (by omega),show (1:Int)+1=2 from rfl,show (2:Int)+1=3 from rfl,show (3:Int)+1=4 from rfl];by_cases h1:r < 128;simp [show ¬ (r:Int) >= 128 by omega,show ¬ (r:Int) >= 2048 by omega,show ¬ (r:Int) >= 65536 by omega,h1];by_cases h2:r < 2048;simp [show (r:Int) >= 128 by omega,show ¬ (r:Int) >= 2048 by omega,show ¬ (r:Int) >= 65536 by omega,h1,h2];by_cases h3:r < 65536;simp [show (r:Int) >= 128 by omega,show (r:Int) >= 2048 by omega,show ¬ (r:Int) >= 65536 by omega,h1,h2,h3,wi 3 (by omega) (by omega)];simp [show (r:Int) >= 128 by omega,show (r:Int) >= 2048 by omega,show (r:Int) >= 65536 by omega,h1,h2,h3,wi 3 (by omega) (by omega),wi 4 (by omega) (by omega)]
theorem As3 (k:Nat) (r:Nat):Nt.f k (r:Int)=some (GN r):=by
 unfold Nt.f GN;simp only [EN];by_cases h:(r:Int) >= 48;rw [if_pos h];simp only [Aq,Option.some.injEq];rw [Bool.eq_iff_iff];simp;omega;rw [if_neg h];simp only [Aq,Option.some.injEq];rw [Bool.eq_iff_iff];simp;omega
theorem Ati (k:Nat) (r:Nat):Nu.f k (r:Int)=some (Ig r):=by
 have hv:=Aw4 r;unfold Nu.f;simp only [EN,Aht,Ahu,Yb,Aq];rw [Bkt];generalize Utf8.valid (r:Int)=v at *;cases v
 ·(repeat' split) <;> simp <;> omega
 ·have hv:r<=1114111:=by
   rcases Nat.lt_or_ge 1114111 r with h | h
   ·cases hv h
   ·exact h
  (repeat' split) <;> simp <;> omega
theorem at_loop (s:Ah) (at_ n:Nat) (hs:s.size<=2000000) (hn:n<=4) (hn1:1<=n) (J:Int->Option (Int×Int×Int)):∀ (d i r k:Nat),d=n - i->1<=i->i<=n->at_ < s.size->r < 64 ^ i * 2->d < k ->
  GD.l0 k s (at_:Int) (n:Int) J (r:Int) (i:Int)=match EV d r ((bs s).drop (at_+i)) with | none=>some ((at_:Int),1,65533) | some r'=>J (r':Int)
 | 0,i,r,k,hd,h1,h2,ha,hr,hk=>by
  obtain ⟨k,rfl⟩:∃ m,k=m+1:=⟨k - 1,by omega⟩;have:i=n:=by omega
  subst this;simp only [GD.l0,EN,EV];rw [if_neg (by omega)]
 | d+1,i,r,k,hd,h1,h2,ha,hr,hk=>by
  obtain ⟨k,rfl⟩:∃ m,k=m+1:=⟨k - 1,by omega⟩;have hlt:(i:Int) < n:=by omega
  have hr4:r < 33554432:=by
   have:64 ^ i<=64 ^ 4:=Nat.pow_le_pow_right (by omega) (by omega);omega
  simp only [GD.l0,EN];rw [if_pos hlt,wi ((s.size:Int) - at_) (by omega) (by omega),wi ((at_:Int)+i) (by omega) (by omega)];by_cases hsh:s.size < at_+n;rw [if_pos (by omega)];simp only [Aq,cond_true];rw [Avh _ _ _ (by rw [BV,BZ];omega)];rw [if_neg (by omega)];have hai:at_+i < (bs s).length:=by rw [BZ];omega
  have hc:Dm s ((at_:Int)+i)=some (bs s)[at_+i]:=by rw [show (at_:Int)+i=((at_+i:Nat):Int) by omega,Uy,List.getElem?_eq_getElem hai]
  rw [hc];simp only [Aq];have hdr:(bs s).drop (at_+i)=(bs s)[at_+i] :: (bs s).drop (at_+(i+1)):=by rw [<- Nat.add_assoc];exact List.drop_eq_getElem_cons hai
  rw [hdr];generalize (bs s)[at_+i]=c;have hcl:=c.toNat_lt;by_cases hc1:c.toNat < 128;rw [if_pos (by omega)];simp only [Aq,cond_true,EV];rw [if_neg (by omega)];rw [if_neg (by omega)];simp only [Aq,EN,EV];by_cases hc2:c.toNat < 192;rw [if_neg (by omega),if_pos (by omega),wb,wi ((r:Int) * 64) (by omega) (by omega),wi ((r:Int) * 64+(c.toNat:Int)) (by omega) (by omega),wi ((r:Int) * 64+(c.toNat:Int) - 128) (by omega) (by omega),wi ((i:Int)+1) (by omega) (by omega)];have hpw:=Nat.pow_succ 64 i;have:=at_loop s at_ n hs hn hn1 J d (i+1) (r * 64+c.toNat - 128) k (by omega) (by omega) (by omega) ha (by omega) (by omega);rw [<- this];congr 1 <;> omega;rw [if_pos (by omega),if_neg (by omega)]
theorem A0e (s:Ah) (at_:Nat) (k:Nat) (hs:s.size<=2000000) (ha:at_ < s.size) (hk:4 < k) :
  GD.f k s (at_:Int)=some ((at_:Int),(((B2 ((bs s).drop at_)).2:Nat):Int),(((B2 ((bs s).drop at_)).1:Nat):Int)):=by
 have hal:at_ < (bs s).length:=by rw [BZ];omega
 have hdr:(bs s).drop at_=(bs s)[at_] :: (bs s).drop (at_+1):=List.drop_eq_getElem_cons hal;have hc:Dm s (at_:Int)=some (bs s)[at_]:=by rw [Uy,List.getElem?_eq_getElem hal]
 unfold GD.f AN;rw [hc,hdr];generalize (bs s)[at_]=c at hdr;have hcl:=c.toNat_lt;have key:∀ (n r0:Nat),1<=n->n<=4->r0 < 128->FW n (EV (n - 1) r0 ((bs s).drop (at_+1)))=B2 (c :: (bs s).drop (at_+1)) ->
   GD.l0 k s (at_:Int) (n:Int) (λx6=>(((Hc.f k x6).bind λr10=>cond (!r10) (some true) ((LR.f k x6).bind λr12=>some (r12 != (n:Int)))):Option Bool).bind λq8=>cond q8 (some ((at_:Int),(1:Int),(65533:Int))) (some ((at_:Int),(n:Int),x6))) (r0:Int) 1 =
    some ((at_:Int),(((B2 (c :: (bs s).drop (at_+1))).2:Nat):Int),(((B2 (c :: (bs s).drop (at_+1))).1:Nat):Int)):=by
  intro n r0 h1 h2 h3 he;have:=at_loop s at_ n hs h2 h1 (λx6=>(((Hc.f k x6).bind λr10=>cond (!r10) (some true) ((LR.f k x6).bind λr12=>some (r12 != (n:Int)))):Option Bool).bind λq8=>cond q8 (some ((at_:Int),(1:Int),(65533:Int))) (some ((at_:Int),(n:Int),x6))) (n - 1) 1 r0 k rfl (Nat.le_refl _) h1 ha (by omega) (by omega);rw [show ((1:Nat):Int)=1 from rfl] at this;rw [this,<- he];cases hst:EV (n - 1) r0 ((bs s).drop (at_+1)) with
  | none=>simp [FW]
  | some r =>
   simp only [Yb,bytes_eq,Aq,FW];cases hv:Utf8.valid (r:Int) with
   | false=>simp
   | true =>
    simp only [Bool.not_true,cond_false,Aq,Ahu,true_and];by_cases hl:LJ r=n;rw [if_pos (by omega),if_pos hl];rw [if_neg (by omega),if_neg hl];rfl
 simp only [Aq,EN,wb];by_cases h1:c.toNat < 128;rw [if_neg (by omega),if_neg (by omega),if_neg (by omega)];simp only [Aq,cond_false];rw [if_neg (by omega)];exact key 1 c.toNat (by omega) (by omega) h1 (A3y c _ h1);by_cases h2:c.toNat < 192;rw [if_neg (by omega),if_neg (by omega),if_neg (by omega)];simp only [Aq,cond_false];rw [if_pos (by omega),Ah4 c _ (by omega) (.inl h2)];rfl;by_cases h3:c.toNat < 224;rw [if_pos (by omega)];simp only [Aq,EN];rw [if_pos (by omega),wi _ (by omega) (by omega)];have:=key 2 (c.toNat - 192) (by omega) (by omega) (by omega) (A3z c _ (by omega) h3);rw [<- this];congr 1;omega;rw [if_pos (by omega)];simp only [Aq,EN];rw [if_neg (by omega)];by_cases h4:c.toNat < 240;rw [if_pos (by omega)];simp only [Aq,EN];rw [if_pos (by omega),wi _ (by omega) (by omega)];have:=key 3 (c.toNat - 224) (by omega) (by omega) (by omega) (A4b c _ (by omega) h4);rw [<- this];congr 1;omega;rw [if_pos (by omega)];simp only [Aq,EN];rw [if_neg (by omega),if_pos (by omega)];simp only [Aq,EN];by_cases h5:c.toNat < 248;rw [if_pos (by omega),wi _ (by omega) (by omega)];have:=key 4 (c.toNat - 240) (by omega) (by omega) (by omega) (A4c c _ (by omega) h5);rw [<- this];congr 1;omega;rw [if_neg (by omega),if_pos (by omega),Ah4 c _ (by omega) (.inr (by omega))];rfl
theorem at_eq (s:Ah) (at_:Nat) (k:Nat) (hs:s.size<=1000000) (ha:at_ < s.size) (hk:4 < k) :
  GD.f k s (at_:Int)=some ((at_:Int),(((B2 ((bs s).drop at_)).2:Nat):Int),(((B2 ((bs s).drop at_)).1:Nat):Int)):=A0e s at_ k (Nat.le_trans hs (by decide)) ha hk
theorem Vr {β:Type} (J:Bool->β) (b x:Bool):cond b (J b) (J x)=J (b || x):=by cases b <;> rfl
theorem toL (s:Ah):s.toList=bs s:=Lib.toList_data s
theorem Ahe (l:Bs):bs (⟨l.toArray⟩:Ah)=l:=H8 l
theorem Aqq (s:Ah) (hs:s.size<=1000000) (J:Int->Option Int):∀ (d n k:Nat),s.size - n<=d->n<=s.size->d+6<=k ->
  Hy.l0 k s J (n:Int)=J ((n+B6 Cm ((bs s).drop n):Nat):Int)
 | d,n,k,hd,hn,hk=>by
  obtain ⟨k,rfl⟩:∃ m,k=m+1:=⟨k - 1,by omega⟩;simp only [Hy.l0,EN];by_cases h:n < s.size;rw [if_pos (by omega),at_eq s n k hs h (by omega)];have hne:(bs s).drop n≠[]:=by
   intro e;have:=congrArg List.length e;rw [BV,BZ,Bp] at this;omega
  have hw:=Jw ((bs s).drop n);have hw3:=hw.2.2 hne;rw [BV,BZ] at hw3;simp only [Aq,Ati,As3];rw [N1 Cm _ hne];unfold Cm;generalize Ig (B2 ((bs s).drop n)).1=x;generalize GN (B2 ((bs s).drop n)).1=y;have hgo:Hy.l0 k s J (Au ((n:Int)+((B2 ((bs s).drop n)).2:Int)))=J ((n+((B2 ((bs s).drop n)).2+B6 Cm (((bs s).drop n).drop (B2 ((bs s).drop n)).2)):Nat):Int):=by
   cases d with
   | zero=>omega
   | succ d =>
    rw [wi _ (by omega) (by omega),List.drop_drop,show (n:Int)+((B2 ((bs s).drop n)).2:Int)=((n+(B2 ((bs s).drop n)).2:Nat):Int) by omega];rw [Aqq s hs J d (n+(B2 ((bs s).drop n)).2) k (by omega) (by omega) (by omega)];congr 2;omega
  cases x <;> cases y <;> simp only [Bool.not_true,Bool.not_false,cond_true,cond_false,Aq,Bool.or_true,Bool.or_false,Bool.true_or,Bool.false_or,Bool.false_eq_true,if_true,if_false,Nat.add_zero] <;> exact hgo;rw [if_neg (by omega),List.drop_of_length_le (by rw [BZ];omega)];rfl
theorem names_eq (s:Ah) (hs:s.size<=1000000) (at_ k:Nat) (h:at_<=s.size) (hk:s.size+6<=k):Hy.f k s (at_:Int)=some ((B6 Cm ((bs s).drop at_):Nat):Int):=by
 unfold Hy.f AN;have hle:=K4 Cm ((bs s).drop at_);rw [BV,BZ] at hle;refine (Aqq s hs _ (s.size - at_) at_ k (Nat.le_refl _) h (by omega)).trans ?_;rw [wi _ (by omega) (by omega)];congr 1;omega
theorem XK (l w:Bs) (ws:List Bs):(w :: ws).contains l=((l == w) || ws.contains l):=by
 rw [List.contains_cons]
theorem Bhm (k:Nat) (s:Ah):Qi.f k s=some (LD (bs s)):=by
 unfold Qi.f;generalize hJ:(λ(x1:Bool)=>cond x1 (some true) (some false))=J;unfold AN;simp only [Vr,toL];subst hJ;have e:∀ l:Bs,bs (⟨l.toArray⟩:Ah)=l:=Ahe;simp only [e];unfold LD Xg;simp only [XK,List.contains_nil,Bool.or_false];generalize (_ || _:Bool)=x;cases x <;> rfl
theorem WR (s:Ah) (a b:Nat) (h1:a<=b) (h2:b<=s.size):Jl s (a:Int) (b:Int)=some (str (((bs s).drop a).take (b - a))):=by
 unfold Jl;rw [EN,if_pos ⟨by omega,by omega,by omega⟩];congr 1;apply A1d;rw [H8,SC];simp
def O2:List Bs:=[[61,61],[126,61],[60,61],[62,61],[47,47],[46,46]]
def RZ:Bs:=[43,45,42,37,60,62,61,35,40,41,123,125,91,93,59,44,46]
theorem Bu7:H6=O2++RZ.map (λc=>[c]):=rfl
theorem Ajc (l:Bs):∀ ws:List Bs,(∀ s ∈ ws,s.length=2)->ws.find? (λs=>s.isPrefixOf l)=if ws.contains (l.take 2) then some (l.take 2) else none
 | [],_=>rfl
 | w :: ws,h=>by
  have hw:=h w (DT ..);rw [List.find?_cons,Ajc l ws λs hs=>h s (EM _ hs),XK];have e:w.isPrefixOf l=(l.take 2 == w):=by
   rw [Bool.eq_iff_iff,List.isPrefixOf_iff_prefix,beq_iff_eq,List.prefix_iff_eq_take,hw];exact eq_comm
  rw [e];cases hc:(l.take 2 == w) with
  | true=>rw [<- beq_iff_eq.1 hc];simp
  | false=>simp
theorem Ajb (c:UInt8) (t:Bs):∀ ws:Bs,(ws.map λc=>[c]).find? (λs=>s.isPrefixOf (c :: t))=if ws.contains c then some [c] else none
 | []=>rfl
 | w :: ws=>by
  rw [List.map_cons,List.find?_cons,Ajb c t ws,List.contains_cons];have e:([w].isPrefixOf (c :: t))=(c == w):=by
   show ((w == c) && true)=_;rw [Bool.and_true,Bool.eq_iff_iff,beq_iff_eq,beq_iff_eq];exact eq_comm
  rw [e];cases hc:(c == w) with
  | true=>rw [beq_iff_eq.1 hc];simp
  | false=>simp
theorem Bu6 (c:UInt8) (t:Bs):N2 (c :: t)=if O2.contains ((c :: t).take 2) then some ((c :: t).take 2) else if RZ.contains c then some [c] else none:=by
 unfold N2;rw [Bu7,List.find?_append,Ajc _ _ (by decide),Ajb];split <;> rfl
theorem NM (c d:UInt8):((c.toNat:Int) == (d.toNat:Int))=(c == d):=by
 rw [Bool.eq_iff_iff,beq_iff_eq,beq_iff_eq,<- UInt8.toNat_inj];omega
def Ac0 (l:Bs):Bs:=match N2 l with | none=>[] | some t=>t
set_option maxRecDepth 20000 in
theorem sign_eq (k:Nat) (s:Ah) (at_:Nat) (hs:s.size<=1000000) (h:at_ < s.size):Qj.f k s (at_:Int)=some (str (Ac0 ((bs s).drop at_))):=by
 have hal:at_ < (bs s).length:=by rw [BZ];omega
 have hdr:(bs s).drop at_=(bs s)[at_] :: (bs s).drop (at_+1):=List.drop_eq_getElem_cons hal;have hc:Dm s (at_:Int)=some (bs s)[at_]:=by rw [Uy,List.getElem?_eq_getElem hal]
 have e1:Au ((at_:Int)+1)=((at_+1:Nat):Int):=by rw [wi _ (by omega) (by omega)];omega
 have e2:Au ((at_:Int)+2)=((at_+2:Nat):Int):=by rw [wi _ (by omega) (by omega)];omega
 have e3:Au ((s.size:Int) - 1)=(s.size:Int) - 1:=wi _ (by omega) (by omega);have Y7:((bs s).drop (at_+1)).length=s.size - (at_+1):=by rw [BV,BZ]
 have h1:Jl s (at_:Int) ((at_+1:Nat):Int)=some (str [(bs s)[at_]]):=by
  rw [WR s at_ (at_+1) (by omega) (by omega),hdr,show at_+1 - at_=1 by omega];rfl
 unfold Qj.f;rw [e1,e2,e3,hc,h1];unfold Ac0;rw [hdr,Bu6];generalize (bs s)[at_]=c at *;have key:∀ b:Bool,b=RZ.contains c->(AN (λ(x3:Bool)=>cond x3 ((some (str [c])).bind λs6:Ah=>some (s6)) (some ((⟨#[]⟩:Ah)))) (λJ4=>J4 b):Option Ah)=some (str (match (if RZ.contains c then some [c] else none) with | none=>[] | some t=>t)):=by
  intro b hb;rw [<- hb];cases b <;> rfl
 have one:∀ (J4:Bool->Option Ah),(cond ((c.toNat:Int) == (43:Int)) (J4 ((c.toNat:Int) == (43:Int))) (cond ((c.toNat:Int) == (45:Int)) (J4 ((c.toNat:Int) == (45:Int))) (cond ((c.toNat:Int) == (42:Int)) (J4 ((c.toNat:Int) == (42:Int))) (cond ((c.toNat:Int) == (37:Int)) (J4 ((c.toNat:Int) == (37:Int))) (cond ((c.toNat:Int) == (60:Int)) (J4 ((c.toNat:Int) == (60:Int))) (cond ((c.toNat:Int) == (62:Int)) (J4 ((c.toNat:Int) == (62:Int))) (cond ((c.toNat:Int) == (61:Int)) (J4 ((c.toNat:Int) == (61:Int))) (cond ((c.toNat:Int) == (35:Int)) (J4 ((c.toNat:Int) == (35:Int))) (cond ((c.toNat:Int) == (40:Int)) (J4 ((c.toNat:Int) == (40:Int))) (cond ((c.toNat:Int) == (41:Int)) (J4 ((c.toNat:Int) == (41:Int))) (cond ((c.toNat:Int) == (123:Int)) (J4 ((c.toNat:Int) == (123:Int))) (cond ((c.toNat:Int) == (125:Int)) (J4 ((c.toNat:Int) == (125:Int))) (cond ((c.toNat:Int) == (91:Int)) (J4 ((c.toNat:Int) == (91:Int))) (cond ((c.toNat:Int) == (93:Int)) (J4 ((c.toNat:Int) == (93:Int))) (cond ((c.toNat:Int) == (59:Int)) (J4 ((c.toNat:Int) == (59:Int))) (cond ((c.toNat:Int) == (44:Int)) (J4 ((c.toNat:Int) == (44:Int))) (J4 ((c.toNat:Int) == (46:Int)))))))))))))))))))=J4 (RZ.contains c):=by
  intro J4;simp only [Vr];congr 1;unfold RZ;simp only [List.contains_cons,List.contains_nil,Bool.or_false];have e:=λd=>NM c d;simp only [<- e];rfl
 unfold AN;simp only [Aq];simp only [EN];by_cases h2:at_+1 < s.size;obtain ⟨d,t,ht⟩:∃ d t,(bs s).drop (at_+1)=d :: t:=by
  cases hq:(bs s).drop (at_+1) with
  | nil=>rw [hq] at Y7;simp at Y7;omega
  | cons d t=>exact ⟨d,t,rfl⟩
 have hs2:Jl s (at_:Int) ((at_+2:Nat):Int)=some (str [c,d]):=by
  rw [WR s at_ (at_+2) (by omega) (by omega),hdr,ht,show at_+2 - at_=2 by omega];rfl
 rw [if_pos (by omega),hs2,ht];simp only [Aq];have two:∀ (Ed:Bool->Option Ah),(cond ((str [c,d]).toList == (⟨#[61,61]⟩:Ah).toList) (Ed ((str [c,d]).toList == (⟨#[61,61]⟩:Ah).toList)) (cond ((str [c,d]).toList == (⟨#[126,61]⟩:Ah).toList) (Ed ((str [c,d]).toList == (⟨#[126,61]⟩:Ah).toList)) (cond ((str [c,d]).toList == (⟨#[60,61]⟩:Ah).toList) (Ed ((str [c,d]).toList == (⟨#[60,61]⟩:Ah).toList)) (cond ((str [c,d]).toList == (⟨#[62,61]⟩:Ah).toList) (Ed ((str [c,d]).toList == (⟨#[62,61]⟩:Ah).toList)) (cond ((str [c,d]).toList == (⟨#[47,47]⟩:Ah).toList) (Ed ((str [c,d]).toList == (⟨#[47,47]⟩:Ah).toList)) (Ed ((str [c,d]).toList == (⟨#[46,46]⟩:Ah).toList)))))))=Ed (O2.contains [c,d]):=by
  intro J;simp only [Vr,toL,H8];have e:∀ l:Bs,bs (⟨l.toArray⟩:Ah)=l:=Ahe;simp only [e];unfold O2;simp only [XK,List.contains_nil,Bool.or_false]
 have PH:=key _ rfl;unfold AN at PH;simp only [Aq] at PH;rw [show (c :: d :: t).take 2=[c,d] from rfl];have one':=one (λx3=>cond x3 (some (str [c])) (some ((⟨#[]⟩:Ah))));refine (two (λx25=>cond x25 (some (str [c,d])) _)).trans ?_;cases hx:O2.contains [c,d] with
 | true=>rfl
 | false =>
  simp only [cond_false,Bool.false_eq_true,if_false];exact one'.trans PH
 have ht:(bs s).drop (at_+1)=[]:=List.eq_nil_of_length_eq_zero (by rw [Y7];omega);rw [if_neg (by omega),ht];have hx:O2.contains ([c].take 2)=false:=by
  show O2.contains [c]=false;unfold O2;simp
 rw [hx];simp only [Bool.false_eq_true,if_false];have PH:=key _ rfl;unfold AN at PH;simp only [Aq] at PH;exact (one (λx3=>cond x3 (some (str [c])) (some ((⟨#[]⟩:Ah))))).trans PH
theorem w8 (x:Int) (h0:0<=x) (h1:x < 256):IntKind.u8.wrap x=x:=by unfold IntKind.wrap;simp [IntKind.bits,IntKind.signed];omega
theorem tm (n m:Nat):Int.tmod (n:Int) (m:Int)=((n % m:Nat):Int):=(Int.ofNat_tmod n m).symm
theorem td (n m:Nat):Int.tdiv (n:Int) (m:Int)=((n / m:Nat):Int):=(Int.ofNat_tdiv n m).symm
def bI (b:Bs):List Int:=b.map λx=>(x.toNat:Int)
theorem Bv2 (b:Bs):strOfNums (bI b)=str b:=by
 unfold strOfNums bI str;congr 2;rw [List.map_map]
 conv=>rhs;rw [<- List.map_id b]
 apply List.map_congr_left;intro x _;simp
theorem A1a (s:Ah):Ly s=bI (bs s):=rfl
theorem Alg (s:Ah) (hs:s.size<=1000000) (at_ most:Nat) (ha:at_<=1000010) (hm:most<=8):∀ (m j n k:Nat),m+j=most->n < 16 ^ j->m < k ->
  Hw.l0 k s (at_:Int) (most:Int) (λa b=>some (a,b)) (n:Int) (j:Int)=some (((B_ m ((bs s).drop (at_+j)) n j).1:Int),((B_ m ((bs s).drop (at_+j)) n j).2:Int))
 | m,j,n,k,hj,hn,hk=>by
  obtain ⟨k,rfl⟩:∃ m,k=m+1:=⟨k - 1,by omega⟩;have h16:16 ^ j<=16 ^ 8:=Nat.pow_le_pow_right (by omega) (by omega);have hn2:n < 4294967296:=by omega
  simp only [Hw.l0];cases m with
  | zero =>
   rw [EN,if_neg (by omega)];simp [B_]
  | succ m =>
   rw [EN,if_pos (by omega),wi ((at_:Int)+j) (by omega) (by omega)];simp only [Aq];rcases Nat.lt_or_ge (at_+j) s.size with h | h;rw [EN,if_pos (by omega)];have hal:at_+j < (bs s).length:=by rw [BZ];omega
   have hdr:(bs s).drop (at_+j)=(bs s)[at_+j] :: (bs s).drop (at_+(j+1)):=by rw [<- Nat.add_assoc];exact List.drop_eq_getElem_cons hal
   have hc:Dm s ((at_:Int)+j)=some (bs s)[at_+j]:=by rw [show (at_:Int)+j=((at_+j:Nat):Int) by omega,Uy,List.getElem?_eq_getElem hal]
   rw [hc,hdr];generalize (bs s)[at_+j]=c;have hcl:=c.toNat_lt;have hpw:=Nat.pow_succ 16 j;have ih:∀ d:Nat,d < 16->Hw.l0 k s (at_:Int) (most:Int) (λa b=>some (a,b)) ((16 * n+d:Nat):Int) ((j:Int)+1)=some (((B_ m ((bs s).drop (at_+(j+1))) (16 * n+d) (j+1)).1:Int),((B_ m ((bs s).drop (at_+(j+1))) (16 * n+d) (j+1)).2:Int)):=λd hd=>by
    have:=Alg s hs at_ most ha hm m (j+1) (16 * n+d) k (by omega) (by omega) (by omega);rw [show ((j+1:Nat):Int)=(j:Int)+1 by omega] at this;exact this
   simp only [Aq,AN,wb,B_];rw [wi ((j:Int)+1) (by omega) (by omega),wi ((n:Int) * 16) (by omega) (by omega),wi ((n:Int) * 16+c.toNat) (by omega) (by omega)];unfold hexD;have T:∀ {p:Prop} [Decidable p],p->decide p=true:=λh=>decide_eq_true h;have F:∀ {p:Prop} [Decidable p],¬ p->decide p=false:=λh=>decide_eq_false h;by_cases h1:48<=c.toNat/\c.toNat<=57;rw [if_pos h1,T (p:=(c.toNat:Int) >= 48) (by omega),T (p:=(c.toNat:Int)<=57) (by omega)];simp only [cond_true,Aq];rw [wi ((n:Int) * 16+c.toNat - 48) (by omega) (by omega),<- ih (c.toNat - 48) (by omega)];congr 1;omega;rw [if_neg h1];by_cases h2:97<=c.toNat/\c.toNat<=102;rw [if_pos h2,T (p:=(c.toNat:Int) >= 48) (by omega),F (p:=(c.toNat:Int)<=57) (by omega),T (p:=(c.toNat:Int) >= 97) (by omega),T (p:=(c.toNat:Int)<=102) (by omega)];simp only [cond_true,cond_false,Aq];rw [wi ((n:Int) * 16+c.toNat - 97) (by omega) (by omega),wi ((n:Int) * 16+c.toNat - 97+10) (by omega) (by omega),<- ih (c.toNat - 87) (by omega)];congr 1;omega;rw [if_neg h2];by_cases h3:65<=c.toNat/\c.toNat<=70;rw [if_pos h3,T (p:=(c.toNat:Int) >= 48) (by omega),F (p:=(c.toNat:Int)<=57) (by omega),F (p:=(c.toNat:Int) >= 97) (by omega),T (p:=(c.toNat:Int) >= 65) (by omega),T (p:=(c.toNat:Int)<=70) (by omega)];simp only [cond_true,cond_false,Aq];rw [wi ((n:Int) * 16+c.toNat - 65) (by omega) (by omega),wi ((n:Int) * 16+c.toNat - 65+10) (by omega) (by omega),<- ih (c.toNat - 55) (by omega)];congr 1;omega;rw [if_neg h3];have hq:c.toNat < 48\/(57 < c.toNat/\c.toNat < 65)\/(70 < c.toNat/\c.toNat < 97)\/102 < c.toNat:=by omega
   rcases hq with h | h | h | h;rw [F (p:=(c.toNat:Int) >= 48) (by omega),F (p:=(c.toNat:Int) >= 97) (by omega),F (p:=(c.toNat:Int) >= 65) (by omega)];rfl;rw [T (p:=(c.toNat:Int) >= 48) (by omega),F (p:=(c.toNat:Int)<=57) (by omega),F (p:=(c.toNat:Int) >= 97) (by omega),F (p:=(c.toNat:Int) >= 65) (by omega)];rfl;rw [T (p:=(c.toNat:Int) >= 48) (by omega),F (p:=(c.toNat:Int)<=57) (by omega),F (p:=(c.toNat:Int) >= 97) (by omega),T (p:=(c.toNat:Int) >= 65) (by omega),F (p:=(c.toNat:Int)<=70) (by omega)];rfl;rw [T (p:=(c.toNat:Int) >= 48) (by omega),F (p:=(c.toNat:Int)<=57) (by omega),T (p:=(c.toNat:Int) >= 97) (by omega),F (p:=(c.toNat:Int)<=102) (by omega),T (p:=(c.toNat:Int) >= 65) (by omega),F (p:=(c.toNat:Int)<=70) (by omega)];rfl;rw [EN,if_neg (by omega),List.drop_of_length_le (by rw [BZ];omega)];simp [B_]
theorem Ald (s:Ah) (hs:s.size<=1000000) (at_ most k:Nat) (ha:at_<=1000010) (hm:most<=8) (hk:8 < k) :
  Hw.f k s (at_:Int) (most:Int)=some (((B_ most ((bs s).drop at_) 0 0).1:Int),((B_ most ((bs s).drop at_) 0 0).2:Int)):=by
 unfold Hw.f AN;exact Alg s hs at_ most ha hm most 0 0 k rfl (by omega) (by omega)
def encR (n:Nat):Ah×Int:=if Utf8.valid n then (Utf8.encode n,0) else (⟨#[]⟩,3)
theorem A3w (n:Nat) (hv:Utf8.valid (n:Int)=true):Utf8.encode (n:Int)=if n < 128 then str [UInt8.ofNat n] else if n < 2048 then str [UInt8.ofNat (192+n / 64),UInt8.ofNat (128+n % 64)] else if n < 65536 then str [UInt8.ofNat (224+n / 4096),UInt8.ofNat (128+n / 64 % 64),UInt8.ofNat (128+n % 64)] else str [UInt8.ofNat (240+n / 262144),UInt8.ofNat (128+n / 4096 % 64),UInt8.ofNat (128+n / 64 % 64),UInt8.ofNat (128+n % 64)]:=by
 unfold Utf8.encode;simp only [hv,if_true,Int.toNat_natCast];rfl
theorem encode_eq (n k:Nat) (hn:n<=4294967296) (hk:4 < k):IM.f k (n:Int)=some (encR n):=by
 unfold IM.f encR;rw [Yb];simp only [Aq];cases hv:Utf8.valid (n:Int) with
 | false=>rfl
 | true =>
  have hmax:n<=1114111:=by
   rcases Nat.lt_or_ge 1114111 n with h | h;rw [Aw4 n h] at hv;cases hv;exact h
  rw [bytes_eq,A3w n hv];obtain ⟨k,rfl⟩:∃ m,k=m+4:=⟨k - 4,by omega⟩;simp only [Bool.not_true,cond_false,Aq,Aht,if_true];unfold LJ;have hb:∀ x y:Nat,x < 256->x=y->UInt8.ofNat ((x:Int).toNat)=UInt8.ofNat y:=λx y _ h=>by subst h;simp
  by_cases h1:n < 128;rw [if_pos h1,if_pos (by decide),if_pos h1,w8 _ (by omega) (by omega)];rfl;rw [if_neg h1,if_neg h1];by_cases h2:n < 2048;rw [if_pos h2,if_pos h2,if_neg (by decide)];have e:mkd 1 (0:Int) ((2:Nat):Int)=some [0,0]:=by decide
  rw [e];simp only [Aq,AN];rw [show Au (((2:Nat):Int) - 1)=1 by decide];simp only [IM.l0,EN];rw [if_pos (by omega),show B5 [(0:Int),0] 1=some 0 by decide];simp only [Aq,FK,EN];rw [if_pos (by decide)];simp only [Aq];rw [show Au ((1:Int) - 1)=0 by decide,if_neg (by omega)];rw [show ((64:Int))=((64:Nat):Int) from rfl,tm,td,wi (128+((n % 64:Nat):Int)) (by omega) (by omega),w8 (128+((n % 64:Nat):Int)) (by omega) (by omega),wi ((n / 64:Nat):Int) (by omega) (by omega)];simp only [show ((1:Int)).toNat=1 from rfl,List.set_cons_succ,List.set_cons_zero,B5,Int.le_refl,if_true,show ((0:Int)).toNat=0 from rfl,List.getElem?_cons_zero,Aq];rw [if_neg (by decide),if_neg (by decide),if_pos (by simp)];simp only [Aq,List.set_cons_zero];rw [wi (192+((n / 64:Nat):Int)) (by omega) (by omega),w8 (192+((n / 64:Nat):Int)) (by omega) (by omega)];simp only [strOfNums,str,List.map_cons,List.map_nil];rw [show ((192+((n / 64:Nat):Int)).toNat)=192+n / 64 by omega,show ((128+((n % 64:Nat):Int)).toNat)=128+n % 64 by omega];rw [if_neg h2,if_neg h2];by_cases h3:n < 65536;rw [if_pos h3,if_pos h3,if_neg (by decide)];have e:mkd 1 (0:Int) ((3:Nat):Int)=some [0,0,0]:=by decide
  rw [e];simp only [Aq,AN];rw [show Au (((3:Nat):Int) - 1)=2 by decide];simp only [IM.l0,EN];rw [if_pos (by omega),show B5 [(0:Int),0,0] 2=some 0 by decide];simp only [Aq,FK,EN];rw [if_pos (by decide)];simp only [Aq];rw [show Au ((2:Int) - 1)=1 by decide,if_pos (by omega)];rw [show ((64:Int))=((64:Nat):Int) from rfl,tm,td,wi (128+((n % 64:Nat):Int)) (by omega) (by omega),w8 (128+((n % 64:Nat):Int)) (by omega) (by omega),wi ((n / 64:Nat):Int) (by omega) (by omega)];simp only [show ((2:Int)).toNat=2 from rfl,List.set_cons_succ,List.set_cons_zero,B5,show (0:Int)<=1 by omega,if_true,show ((1:Int)).toNat=1 from rfl,List.getElem?_cons_zero,List.getElem?_cons_succ,Aq];rw [if_pos (by simp)];simp only [Aq];rw [show Au ((1:Int) - 1)=0 by decide,if_neg (by omega)];rw [tm,td,wi (128+((n / 64 % 64:Nat):Int)) (by omega) (by omega),w8 (128+((n / 64 % 64:Nat):Int)) (by omega) (by omega),wi ((n / 64 / 64:Nat):Int) (by omega) (by omega)];simp only [Int.le_refl,if_true,show ((0:Int)).toNat=0 from rfl,List.getElem?_cons_zero,Aq];rw [if_pos (by decide),if_neg (by decide),if_pos (by simp)];simp only [Aq,List.set_cons_zero,List.set_cons_succ];rw [wi (224+((n / 64 / 64:Nat):Int)) (by omega) (by omega),w8 (224+((n / 64 / 64:Nat):Int)) (by omega) (by omega)];simp only [strOfNums,str,List.map_cons,List.map_nil];rw [show ((224+((n / 64 / 64:Nat):Int)).toNat)=224+n / 4096 by omega,show ((128+((n % 64:Nat):Int)).toNat)=128+n % 64 by omega,show ((128+((n / 64 % 64:Nat):Int)).toNat)=128+n / 64 % 64 by omega];rw [if_neg h3,if_neg h3,if_neg (by decide)];have e:mkd 1 (0:Int) ((4:Nat):Int)=some [0,0,0,0]:=by decide
  rw [e];simp only [Aq,AN];rw [show Au (((4:Nat):Int) - 1)=3 by decide];simp only [IM.l0,EN];rw [if_pos (by omega),show B5 [(0:Int),0,0,0] 3=some 0 by decide];simp only [Aq,FK,EN];rw [if_pos (by decide)];simp only [Aq];rw [show Au ((3:Int) - 1)=2 by decide,if_pos (by omega)];rw [show ((64:Int))=((64:Nat):Int) from rfl,tm,td,wi (128+((n % 64:Nat):Int)) (by omega) (by omega),w8 (128+((n % 64:Nat):Int)) (by omega) (by omega),wi ((n / 64:Nat):Int) (by omega) (by omega)];simp only [show ((3:Int)).toNat=3 from rfl,List.set_cons_succ,List.set_cons_zero,B5,show (0:Int)<=2 by omega,if_true,show ((2:Int)).toNat=2 from rfl,List.getElem?_cons_zero,List.getElem?_cons_succ,Aq];rw [if_pos (by simp)];simp only [Aq];rw [show Au ((2:Int) - 1)=1 by decide,if_pos (by omega)];rw [tm,td,wi (128+((n / 64 % 64:Nat):Int)) (by omega) (by omega),w8 (128+((n / 64 % 64:Nat):Int)) (by omega) (by omega),wi ((n / 64 / 64:Nat):Int) (by omega) (by omega)];simp only [List.set_cons_succ,List.set_cons_zero,show (0:Int)<=1 by omega,if_true,show ((1:Int)).toNat=1 from rfl,List.getElem?_cons_zero,List.getElem?_cons_succ,Aq];rw [if_pos (by simp)];simp only [Aq];rw [show Au ((1:Int) - 1)=0 by decide,if_neg (by omega)];rw [tm,td,wi (128+((n / 64 / 64 % 64:Nat):Int)) (by omega) (by omega),w8 (128+((n / 64 / 64 % 64:Nat):Int)) (by omega) (by omega),wi ((n / 64 / 64 / 64:Nat):Int) (by omega) (by omega)];simp only [Int.le_refl,if_true,show ((0:Int)).toNat=0 from rfl,List.getElem?_cons_zero,Aq];rw [if_neg (by decide),if_pos (by decide),if_pos (by simp)];simp only [Aq,List.set_cons_zero,List.set_cons_succ];rw [wi (240+((n / 64 / 64 / 64:Nat):Int)) (by omega) (by omega),w8 (240+((n / 64 / 64 / 64:Nat):Int)) (by omega) (by omega)];simp only [strOfNums,str,List.map_cons,List.map_nil];rw [show ((240+((n / 64 / 64 / 64:Nat):Int)).toNat)=240+n / 262144 by omega,show ((128+((n % 64:Nat):Int)).toNat)=128+n % 64 by omega,show ((128+((n / 64 % 64:Nat):Int)).toNat)=128+n / 64 % 64 by omega,show ((128+((n / 64 / 64 % 64:Nat):Int)).toNat)=128+n / 4096 % 64 by omega]
end
end Go.Proofs.YteccladehmaglaaGreatDoor
