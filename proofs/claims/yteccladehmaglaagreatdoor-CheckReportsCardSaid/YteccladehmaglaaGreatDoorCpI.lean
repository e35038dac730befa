/- Texts of mine for checkReports_card, part 9. -/
import Derived.Lib.Strings
import Derived.Test.YteccladehmaglaaGreatDoorCpH
set_option linter.unusedSimpArgs false
set_option linter.unusedVariables false
set_option linter.unusedSectionVars false
namespace Go.Proofs.YteccladehmaglaaGreatDoor
set_option maxRecDepth 100000
section
open Go Go.RowKit Lx
theorem Rs.mono {w w1:RW} {x:PC Bo} {f:Bo->Bo} (h:Rs w x w1) (hf:∀ s,(f s).sl=s.sl/\(f s).cs=s.cs/\(f s).gl=s.gl):Rs w (x.th λs=>.ok (f s)) w1:=by
 cases x with
 | bad e=>exact h
 | ok s =>
  have h:w1=w.put s:=h;show w1=w.put (f s);rw [h];unfold RW.put;rw [(hf s).1,(hf s).2.1,(hf s).2.2]
theorem Oi {d:Nat} {w:RW} {lo:List Ah} {b:Tree} {lp:Bool} (h:w.er.1≠0):rB d w lo b lp=w:=by
 cases d with
 | zero=>rfl
 | succ d=>unfold rB;exact Aa3 h
section
variable {w:RW} {d:Nat} {ab:List Ah}
def SR (w:RW) (d:Nat) (ab:List Ah) (lp:Bool) (lp0:Int) (x:Tree):Prop:=∀ s:Bo,s.lp=lp0 ->
 Rs w (Bq d ab s x false) (C9 d (w.put s) s.lo x lp).1/\∀ s',Bq d ab s x false=.ok s'->(C9 d (w.put s) s.lo x lp).2=s'.lo/\s'.fs=s.fs/\s'.lp=s.lp
theorem Afx {lp:Bool} {lp0:Int}:∀ {l:List Tree} {s:Bo},s.lp=lp0->(∀ x ∈ l,SR w d ab lp lp0 x)->w.er.1=0 ->
  Rs w (CZ (λs x=>Bq d ab s x false) s l) (Hq (λw lo x=>C9 d w lo x lp) (w.put s) s.lo l)/\∀ s',CZ (λs x=>Bq d ab s x false) s l=.ok s'->s'.fs=s.fs/\s'.lp=s.lp
 | [],s,_,_,_=>⟨rfl,λs' e=>by cases e;exact ⟨rfl,rfl⟩⟩
 | x :: l,s,hs,hx,h=>by
  obtain ⟨h1,h2⟩:=hx x (DN ..) s hs;have ht:=λ(s':Bo) (hs':s'.lp=lp0)=>Afx (l:=l) hs' (λy hy=>hx y (EI _ hy)) h;unfold CZ Hq;rw [if_neg (by rw [RW.Bq0,h];simp)];refine ⟨h1.th (λs' e e'=>?_) λhe=>by rw [Aa3 he],λs' e=>?_⟩;obtain ⟨e1,e2,e3⟩:=h2 _ e;rw [e',e1];exact (ht s' (e3.trans hs)).1;obtain ⟨s1,e1,e2⟩:=Cu e;obtain ⟨_,e3,e4⟩:=h2 _ e1;obtain ⟨e5,e6⟩:=(ht s1 (e4.trans hs)).2 _ e2;exact ⟨e5.trans e3,e6.trans e4⟩
def BR (w:RW) (d:Nat) (ab:List Ah) (lp:Bool) (lp0:Int) (b:Tree):Prop:=∀ s:Bo,s.lp=lp0 ->
 Rs w (Bq d ab s b false) (rB d (w.put s) s.lo b lp)/\∀ s',Bq d ab s b false=.ok s'->Kp s s.lo s'
theorem Ay3 {lp:Bool} {lp0:Int} {t:Ah} {n a:Int} {l:List Tree} (h:w.er.1=0) (hg:MC l) (hx:∀ x ∈ l,SR w d ab lp lp0 x):BR w (d+1) ab lp lp0 (.mk 20 t n a l):=λs hs=>by
 obtain ⟨h1,h2⟩:=Afx hs hx h;have e:Bq (d+1) ab s (.mk 20 t n a l) false=(CZ (λs x=>Bq d ab s x false) s l).th λs'=>.ok { s' with lo:=s'.lo.take s.lo.length }:=by
  conv=>lhs;unfold Bq
  rw [if_pos rfl]
 rw [e];unfold rB;refine ⟨h1.mono (f:=λs'=>{ s' with lo:=s'.lo.take s.lo.length }) λ_=>⟨rfl,rfl,rfl⟩,λs' e=>?_⟩;obtain ⟨s1,e1,e2⟩:=Cu e;cases e2;obtain ⟨h3,h4⟩:=h2 _ e1;have hp:=VQ (λs x s' hx h=>Jx ((JV.1 hg) x hx) h) e1;exact ⟨Ab1 hp.pre,h3,h4⟩
theorem Ao5 {s:Bo} {a:Int} {names:List Tree} {b:Tree} (h:w.er.1=0) (h0:0<=s.lp) (hg:gw b) (hB:BR w d ab true (s.lp+1) b) :
  Rs w (Gm (λs x=>Bq d ab s x false) a s names b 3) (rB d ((w.put s).brings a s.lo names 3).1 ((w.put s).brings a s.lo names 3).2 b true) /\
   ∀ s',Gm (λs x=>Bq d ab s x false) a s names b 3=.ok s'->s'.lo=s.lo/\s'.fs=s.fs/\s'.lp=s.lp:=by
 obtain ⟨h1,h2⟩:=Af7 (s:=s) (a:=a) (l:=names) (n:=3) h;unfold Gm;rw [if_pos (by decide)];have e3:List.replicate 3 (⟨#[]⟩:Ah)=List.replicate 3 noB:=rfl;rw [e3];cases hb:Fv a s.sl (s.lo++List.replicate 3 noB) names with
 | bad e =>
  obtain ⟨ha,hc⟩:=h2 _ hb;refine ⟨?_,λs' e=>(by cases e)⟩;rw [Oi (by rw [ha];exact hc)];exact ⟨ha,hc⟩
 | ok r =>
  rw [h1 _ hb];obtain ⟨q1,q2⟩:=hB { s with sl:=r.1,lo:=r.2,lp:=s.lp+1 } rfl;have e:(w.put { s with sl:=r.1 })=w.put { s with sl:=r.1,lo:=r.2,lp:=s.lp+1 }:=rfl;refine ⟨?_,λs' e=>?_⟩;show Rs w (PR.th (Bq d ab { s with sl:=r.1,lo:=r.2,lp:=s.lp+1 } b false) _) (rB d (w.put { s with sl:=r.1 }) r.2 b true);rw [e];exact q1.mono (f:=λs'=>{ s' with lo:=s'.lo.take s.lo.length,lp:=s'.lp - 1 }) λ_=>⟨rfl,rfl,rfl⟩;obtain ⟨s1,e1,e2⟩:=Cu (show PR.th (Bq d ab { s with sl:=r.1,lo:=r.2,lp:=s.lp+1 } b false) _=.ok s' from e);cases e2;obtain ⟨k1,k2,k3⟩:=q2 _ e1;have hr:=(Qz hb).1;refine ⟨?_,k2,by show s1.lp - 1=s.lp;rw [k3];show s.lp+1 - 1=s.lp;omega⟩;show s1.lo.take s.lo.length=s.lo;rw [k1];show r.2.take s.lo.length=s.lo;rw [hr,C7];simp
theorem Awb {s:Bo} {a:Int} {b:Tree} (h0:0<=s.lp) (hB:BR w d ab true (s.lp+1) b) :
  Rs w (Gm (λs x=>Bq d ab s x false) a s [] b 0) (rB d (w.put s) s.lo b true) /\
   ∀ s',Gm (λs x=>Bq d ab s x false) a s [] b 0=.ok s'->s'.lo=s.lo/\s'.fs=s.fs/\s'.lp=s.lp:=by
 unfold Gm;rw [if_neg (by decide)];obtain ⟨q1,q2⟩:=hB { s with lp:=s.lp+1 } rfl;refine ⟨?_,λs' e=>?_⟩;exact q1.mono (f:=λs'=>{ s' with lo:=s'.lo.take s.lo.length,lp:=s'.lp - 1 }) λ_=>⟨rfl,rfl,rfl⟩;obtain ⟨s1,e1,e2⟩:=Cu (show PR.th (Bq d ab { s with lp:=s.lp+1 } b false) _=.ok s' from e);cases e2;obtain ⟨k1,k2,k3⟩:=q2 _ e1;refine ⟨?_,k2,by show s1.lp - 1=s.lp;rw [k3];show s.lp+1 - 1=s.lp;omega⟩;show s1.lo.take s.lo.length=s.lo;rw [k1];simp
theorem Akv {lp:Bool} {lp0:Int} (h:w.er.1=0):∀ {l:List Tree} {s:Bo} {lo:List Ah},s.lo=lo->s.lp=lp0 ->
  (∀ x ∈ l,(x.kind=20/\BR w d ab lp lp0 x)\/(x.kind≠20/\∀ s:Bo,s.lo=lo->Rs w (Bq d ab s x false) (Cn d lo (w.put s) x false)/\∀ s',Bq d ab s x false=.ok s'->Kp s lo s')) ->
  Rs w (CZ (λs x=>Bq d ab s x false) s l) (l.foldl (λw x=>if x.kind=20 then rB d w lo x lp else Cn d lo w x false) (w.put s))/\∀ s',CZ (λs x=>Bq d ab s x false) s l=.ok s'->Kp s lo s'
 | [],s,lo,hs,_,_=>⟨rfl,λs' e=>by cases e;exact ⟨hs,rfl,rfl⟩⟩
 | x :: l,s,lo,hs,hp,hx=>by
  have hid:∀ {l:List Tree} {w:RW},w.er.1≠0->l.foldl (λw x=>if x.kind=20 then rB d w lo x lp else Cn d lo w x false) w=w:=by
   intro l;induction l with
   | nil=>intro w _;rfl
   | cons y l ih =>
    intro w hw;rw [List.foldl_cons,Oi hw,Aa4 hw,ite_self];exact ih hw
  have ht:=λ(s':Bo) (hs':s'.lo=lo) (hp':s'.lp=lp0)=>Akv h (l:=l) hs' hp' λy hy=>hx y (EI _ hy);unfold CZ;rw [List.foldl_cons];have hd:Rs w (Bq d ab s x false) (if x.kind=20 then rB d (w.put s) lo x lp else Cn d lo (w.put s) x false)/\∀ s',Bq d ab s x false=.ok s'->Kp s lo s':=by
   rcases hx x (DN ..) with ⟨h1,h2⟩ | ⟨h1,h2⟩;rw [if_pos h1,<- hs];exact h2 s hp;rw [if_neg h1];exact h2 s hs
  refine ⟨hd.1.th (λs' e e'=>?_) λhe=>by rw [hid he],λs' e=>?_⟩;rw [e'];exact (ht s' (hd.2 _ e).1 ((hd.2 _ e).2.2.trans hp)).1;obtain ⟨s1,e1,e2⟩:=Cu e;exact (hd.2 _ e1).trans ((ht s1 (hd.2 _ e1).1 ((hd.2 _ e1).2.2.trans hp)).2 _ e2)
end
theorem IsR.kinds:∀ {l:List Tree},IsR l->∀ x ∈ l,FD x\/IsE x
 | [],_,_,hx=>nomatch hx
 | [b],h,x,hx=>by
  cases h with
  | last hb=>obtain rfl:=EZ.1 hx;exact .inl hb
 | e :: b :: l,h,x,hx=>by
  cases h with
  | more h1 h2 h3 =>
   rcases List.mem_cons.1 hx with rfl | hx;exact .inr h1;rcases List.mem_cons.1 hx with rfl | hx;exact .inl h2;exact IsR.kinds h3 x hx
theorem FD.kind {b:Tree} (h:FD b):b.kind=20:=by cases h;rfl
theorem IsE.kind {x:Tree} (h:IsE x):x.kind≠20:=by
 cases x with
 | mk k t n a l=>have:=(IsX.kids (.inl h)).2.1;show k≠20;omega
theorem VB {l:List Tree} {b:Tree}:Cb (l++[b]) ((l++[b]).length - 1)=b:=by unfold Cb;simp
theorem Tc {l:List Tree} {b:Tree}:Cb (l++[b]) l.length=b:=by unfold Cb;simp
section
variable {w:RW} {ab:List Ah} {d:Nat} {s:Bo} {t:Ah} {n a:Int} {l:List Tree} {tg:Bool}
theorem X9 {c m:Int} {f:PC Bo} {g:RW->RW} (h:w.er.1=0) (h1:Rs w f (g (w.put s))) (h2:∀ w':RW,w'.er.1≠0->(g w').er=w'.er):Rs w ((Du a c m).th λ_=>f) (g ((w.put s).few a c m)) :=
 Ah2 h (λe=>by rw [e];exact h1) (h2 _)
theorem XA {c m c' m':Int} {f:PC Bo} {g:RW->RW} (h:w.er.1=0) (h1:Rs w f (g (w.put s))) (h2:∀ w':RW,w'.er.1≠0->(g w').er=w'.er) :
  Rs w ((Du a c m).th λ_=>(Du a c' m').th λ_=>f) (g (((w.put s).few a c m).few a c' m')) :=
 X9 (g:=λw=>g (w.few a c' m')) h (X9 h h1 h2) λw' hw=>(h2 _ (RW.A3t hw)).trans (RW.S3 hw)
theorem Xs {x:List Tree} (h:w.er.1=0) :
  (∀ r,Fv a s.sl s.lo x=.ok r->(w.put s).brings a s.lo x 0=(w.put { s with sl:=r.1 },r.2)) /\
   (∀ e,Fv a s.sl s.lo x=.bad e->((w.put s).brings a s.lo x 0).1.er=e/\e.1≠0):=by
 have:=Af7 (s:=s) (a:=a) (l:=x) (n:=0) h;rw [List.replicate_zero,List.append_nil] at this;exact this
theorem Bjq:Bq (d+1) ab s (.mk 21 t n a l) tg=(Du a n 50).th λ_=>(Du a (l.length - n) 50).th λ_=>(CZ (λs x=>Bq d ab s x false) s (l.drop n.toNat)).th λs =>
  (Fv a s.sl s.lo (l.take n.toNat)).th λr=>.ok { s with sl:=r.1,lo:=r.2 }:=rfl
theorem Bjr:Bq (d+1) ab s (.mk 22 t n a l) tg=(Du a n 50).th λ_=>(Du a (l.length - n) 50).th λ_=>K8 (λs x b=>Bq d ab s x b) n 0 s l:=rfl
theorem Bjs:Bq (d+1) ab s (.mk 25 t n a l) tg=(Bq d ab s (Cb l 0) false).th λs=>Gm (λs x=>Bq d ab s x false) a s [] (Cb l 1) 0:=rfl
theorem Bjt:Bq (d+1) ab s (.mk 26 t n a l) tg=(CZ (λs x=>Bq d ab s x false) s ((l.drop 1).take (l.length - 2))).th λs=>Gm (λs x=>Bq d ab s x false) a s (l.take 1) (Cb l (l.length - 1)) 3:=rfl
theorem Bjv:Bq (d+1) ab s (.mk 27 t n a l) tg=(Du a n 50).th λ_=>(Du a (l.length - 1 - n) 50).th λ_=>(CZ (λs x=>Bq d ab s x false) s ((l.drop n.toNat).take (l.length - 1 - n.toNat))).th λs =>
  Gm (λs x=>Bq d ab s x false) a s (l.take n.toNat) (Cb l (l.length - 1)) 3:=rfl
theorem Bjw:Bq (d+1) ab s (.mk 29 t n a l) tg=if s.lp=0 then .bad (5,a) else .ok s:=rfl
theorem Bjx:Bq (d+1) ab s (.mk 30 t n a l) tg=(Du a (l.length:Nat) 50).th λ_=>CZ (λs x=>Bq d ab s x false) s l:=rfl
theorem ZI {k:Int} (h:k=23\/k=24\/k=28):Bq (d+1) ab s (.mk k t n a l) tg=CZ (λs x=>Bq d ab s x false) s l:=by
 rcases h with rfl | rfl | rfl <;> rfl
end
section
variable {w:RW} {ab:List Ah}
theorem Bi9 {d:Nat} {s:Bo} {a:Int} {x y:List Tree} (h:w.er.1=0)
  (hy:Rs w (CZ (λs x=>Bq d ab s x false) s y) (y.foldl (λw x=>Cn d s.lo w x false) (w.put s))/\∀ s',CZ (λs x=>Bq d ab s x false) s y=.ok s'->Kp s s.lo s') :
  let f:=(CZ (λs x=>Bq d ab s x false) s y).th λs=>(Fv a s.sl s.lo x).th λr=>PR.ok { s with sl:=r.1,lo:=r.2 }
  Rs w f ((y.foldl (λw x=>Cn d s.lo w x false) (w.put s)).brings a s.lo x 0).1 /\
   ∀ s',f=.ok s'->((y.foldl (λw x=>Cn d s.lo w x false) (w.put s)).brings a s.lo x 0).2=s'.lo/\s'.fs=s.fs/\s'.lp=s.lp:=by
 intro f;obtain ⟨h1,h2⟩:=hy;have key:∀ s1,CZ (λs x=>Bq d ab s x false) s y=.ok s1->y.foldl (λw x=>Cn d s.lo w x false) (w.put s)=w.put s1/\s1.lo=s.lo:=λs1 e=>⟨by rw [e] at h1;exact h1,(h2 _ e).1⟩;refine ⟨h1.th (λs1 e e'=>?_) λhe=>RW.OH he,λs' e=>?_⟩;obtain ⟨b1,b2⟩:=Xs (w:=w) (s:=s1) (a:=a) (x:=x) h;rw [e',<- (key _ e).2];cases hb:Fv a s1.sl s1.lo x with
 | bad e=>exact b2 _ hb
 | ok r=>rw [b1 _ hb];rfl
 obtain ⟨s1,e1,e2⟩:=Cu e;obtain ⟨r,e3,e4⟩:=Cu e2;cases e4;obtain ⟨b1,_⟩:=Xs (w:=w) (s:=s1) (a:=a) (x:=x) h;obtain ⟨k1,k2,k3⟩:=h2 _ e1;rw [(key _ e1).1,<- k1,b1 _ e3];exact ⟨rfl,k2,k3⟩
theorem Ail {d:Nat} {s:Bo} {a:Int} {x y:List Tree} {b:Tree} (h:w.er.1=0) (h0:0<=s.lp) (hg:gw b) (hB:BR w d ab true (s.lp+1) b)
  (hy:Rs w (CZ (λs x=>Bq d ab s x false) s y) (y.foldl (λw x=>Cn d s.lo w x false) (w.put s))/\∀ s',CZ (λs x=>Bq d ab s x false) s y=.ok s'->Kp s s.lo s') :
  let f:=(CZ (λs x=>Bq d ab s x false) s y).th λs=>Gm (λs x=>Bq d ab s x false) a s x b 3;let r:=(y.foldl (λw x=>Cn d s.lo w x false) (w.put s)).brings a s.lo x 3
  Rs w f (rB d r.1 r.2 b true)/\∀ s',f=.ok s'->Kp s s.lo s':=by
 intro f r;obtain ⟨h1,h2⟩:=hy;refine ⟨h1.th (λs1 e e'=>?_) λhe=>?_,λs' e=>?_⟩;obtain ⟨k1,k2,k3⟩:=h2 _ e;have:=(Ao5 (a:=a) (names:=x) h (s:=s1) (by rw [k3];exact h0) hg (by rw [k3];exact hB)).1;show Rs w _ (rB d ((y.foldl (λw x=>Cn d s.lo w x false) (w.put s)).brings a s.lo x 3).1 ((y.foldl (λw x=>Cn d s.lo w x false) (w.put s)).brings a s.lo x 3).2 b true);rw [e',<- k1];exact this;rw [Oi (by rw [RW.OH he];exact he)];exact RW.OH he;obtain ⟨s1,e1,e2⟩:=Cu e;obtain ⟨k1,k2,k3⟩:=h2 _ e1;obtain ⟨q1,q2,q3⟩:=(Ao5 (a:=a) (names:=x) h (s:=s1) (by rw [k3];exact h0) hg (by rw [k3];exact hB)).2 _ e2;exact ⟨q1.trans k1,q2.trans k2,q3.trans k3⟩
theorem Abu (h:w.er.1=0) (hF:w.F < w.fs.length) (hab:w.ab=ab):∀ (d:Nat),
  (∀ (lp:Bool) (lp0:Int) (x:Tree),0<=lp0->(lp=true ↔ lp0≠0)->IsS x->gw x->sz x<=d->SR w d ab lp lp0 x) /\
  (∀ (lp:Bool) (lp0:Int) (x:Tree),0<=lp0->(lp=true ↔ lp0≠0)->FD x->gw x->sz x<=d->BR w d ab lp lp0 x)
 | 0=>⟨λ_ _ x _ _ _ _ hd=>by have:=Mu x;omega,λ_ _ x _ _ _ _ hd=>by have:=Mu x;omega⟩
 | d+1=>by
  obtain ⟨ihS,L0⟩:=Abu h hF hab d;constructor
  ·intro lp lp0 x h0 hlp hx hw hd s hs
   have X:=λ{lo:List Ah} {x:Tree} {s:Bo} {tg:Bool}=>Ahl h hF hab d (lo:=lo) (x:=x) (s:=s) (tg:=tg);have XS:∀ {l:List Tree} {s:Bo} {lo:Av},s.lo=lo->K7 l->A_ l<=d->Rs w (CZ (λs x=>Bq d ab s x false) s l) (l.foldl (λw x=>Cn d lo w x false) (w.put s))/\∀ s',CZ (λs x=>Bq d ab s x false) s l=.ok s'->Kp s lo s':=λ{l s lo} hs hl hd =>
    X6 h hs λy hy s hs=>X hs (.inl (hl y hy)) (by have:=IJ hy;omega)
   have hL:∀ b,FD b->gw b->sz b<=d->BR w d ab true (s.lp+1) b:=λb hb hg hd=>L0 true (s.lp+1) b (by omega) ⟨λ_=>by omega,λ_=>rfl⟩ hb hg hd;have h0':0<=s.lp:=by omega
   cases x with
   | mk k t n a l =>
   simp only [sz] at hd;obtain ⟨_,hgl⟩:=hw;have hgl:=JV.1 hgl;cases hx with
   | @loc a t l m hl hm =>
    rw [DY] at hd;have q:=Bi9 (w:=w) (ab:=ab) (a:=a) (x:=l) (y:=m) h (XS (s:=s) rfl hm (by omega));have e:C9 (d+1) (w.put s) s.lo (.mk 21 t (l.length:Nat) a (l++m)) lp=((m.foldl (λw x=>Cn d s.lo w x false) (((w.put s).few a (l.length:Nat) 50).few a ((l++m).length - (l.length:Nat)) 50)).brings a s.lo l 0):=by
     unfold C9;rw [if_neg (by decide),if_pos rfl];simp only [Int.toNat_natCast,List.drop_left,List.take_left]
    rw [e,Bjq];simp only [Int.toNat_natCast,List.drop_left,List.take_left];refine ⟨XA (g:=λw=>((m.foldl (λw x=>Cn d s.lo w x false) w).brings a s.lo l 0).1) h q.1 λw' hw=>?_,λs' e=>?_⟩;rw [RW.OH (by rw [Mc hw];exact hw),Mc hw];obtain ⟨_,f1,e⟩:=Cu e;obtain ⟨_,f2,e⟩:=Cu e;have g1:∀ {c m:Int} {w:RW},Du a c m=.ok ()->w.few a c m=w:=λ{c m w} e=>by unfold Du at e;unfold RW.few;split at e;cases e;rename_i hc;rw [if_neg hc]
    rw [g1 f1,g1 f2];exact q.2 _ e
   | @asg a t l m hl hl2 hm hm2 =>
    have q:=Afi (d:=d) (ab:=ab) (n:=(l.length:Nat)) h (l:=l++m) (i:=0) (s:=s) rfl λx hx s b hs=>X hs (.inl (by
     rcases EH.1 hx with hx | hx;exact (hl2 x hx).1;exact hm2 x hx)) (by have:=IJ hx;omega)
    rw [Bjr];refine ⟨XA (g:=λw=>IG (λw x b=>Cn d s.lo w x b) (l.length:Nat) 0 w (l++m)) h q.1 λw' hw=>by rw [Aa0 hw],λs' e=>?_⟩;obtain ⟨_,_,e⟩:=Cu e;obtain ⟨_,_,e⟩:=Cu e;obtain ⟨k1,k2,k3⟩:=q.2 _ e;exact ⟨k1.symm,k2,k3⟩
   | @run n a t x hx hk =>
    have q:=XS (l:=[x]) (s:=s) rfl (λy hy=>by obtain rfl:=EZ.1 hy;exact hx) (by omega);rw [ZI (.inl rfl)];exact ⟨q.1,λs' e=>by obtain ⟨k1,k2,k3⟩:=q.2 _ e;exact ⟨k1.symm,k2,k3⟩⟩
   | @if_ n a t l hl =>
    have q:=Akv (d:=d) (ab:=ab) (lp:=lp) (lp0:=lp0) h (l:=l) (s:=s) rfl hs λx hx=>by
     rcases IsR.kinds hl x hx with hb | he;exact .inl ⟨hb.kind,L0 lp lp0 x h0 hlp hb (hgl x hx) (by have:=IJ hx;omega)⟩;exact .inr ⟨he.kind,λs hs=>X hs (.inl he) (by have:=IJ hx;omega)⟩
    rw [ZI (.inr (.inl rfl))];exact ⟨q.1,λs' e=>by obtain ⟨k1,k2,k3⟩:=q.2 _ e;exact ⟨k1.symm,k2,k3⟩⟩
   | @while_ n a t x b hx hb =>
    simp only [A_] at hd;have q1:=X (s:=s) (tg:=false) rfl (.inl hx) (by omega);have gb:gw b:=hgl b (by simp);rw [Bjs];show Rs w ((Bq d ab s x false).th λs=>Gm (λs x=>Bq d ab s x false) a s [] b 0) (rB d (Cn d s.lo (w.put s) x false) s.lo b true)/\∀ s',((Bq d ab s x false).th λs=>Gm (λs x=>Bq d ab s x false) a s [] b 0)=.ok s'->s.lo=s'.lo/\_;refine ⟨q1.1.th (λs1 e e'=>?_) λhe=>by rw [Oi he],λs' e=>?_⟩;obtain ⟨k1,k2,k3⟩:=q1.2 _ e;rw [e',<- k1];exact (Awb (a:=a) (by rw [k3];exact h0') (by rw [k3];exact hL b hb gb (by omega))).1;obtain ⟨s1,e1,e2⟩:=Cu e;obtain ⟨k1,k2,k3⟩:=q1.2 _ e1;obtain ⟨q1,q2,q3⟩:=(Awb (w:=w) (a:=a) (by rw [k3];exact h0') (by rw [k3];exact hL b hb gb (by omega))).2 _ e2;exact ⟨(q1.trans k1).symm,q2.trans k2,q3.trans k3⟩
   | @for_ n a t x b l hl he hb =>
    have gb:gw b:=hgl b (by simp);rw [DY] at hd;simp only [A_] at hd;have q:=Ail (w:=w) (ab:=ab) (a:=a) (x:=[x]) (y:=l) h h0' gb (hL b hb gb (by omega)) (XS (s:=s) rfl he (by omega));have e1:((x :: l++[b]).drop 1).take ((x :: l++[b]).length - 2)=l:=by simp
    have e2:(x :: l++[b]).take 1=[x]:=by simp
    have e3:Cb (x :: l++[b]) ((x :: l++[b]).length - 1)=b:=VB;have e:C9 (d+1) (w.put s) s.lo (.mk 26 t n a (x :: l++[b])) lp=(rB d ((l.foldl (λw x=>Cn d s.lo w x false) (w.put s)).brings a s.lo [x] 3).1 ((l.foldl (λw x=>Cn d s.lo w x false) (w.put s)).brings a s.lo [x] 3).2 b true,s.lo):=by
     unfold C9;rw [if_neg (by decide),if_neg (by decide),if_neg (by decide),if_neg (by decide),if_neg (by decide),if_neg (by decide),if_pos rfl];simp only [e1,e2,e3]
    rw [e,Bjt,e1,e2,e3];exact ⟨q.1,λs' e=>by obtain ⟨k1,k2,k3⟩:=q.2 _ e;exact ⟨k1.symm,k2,k3⟩⟩
   | @forIn a t b l m hl hm hm2 hb =>
    have gb:gw b:=hgl b (by simp);rw [DY,DY] at hd;simp only [A_] at hd;have q:=Ail (w:=w) (ab:=ab) (a:=a) (x:=l) (y:=m) h h0' gb (hL b hb gb (by omega)) (XS (s:=s) rfl hm2 (by omega));have e1:((l++m++[b]).drop l.length).take ((l++m++[b]).length - 1 - l.length)=m:=by
     rw [C7,List.drop_left,show (l++(m++[b])).length - 1 - l.length=m.length by simp,List.take_left]
    have e2:(l++m++[b]).take l.length=l:=by rw [C7,List.take_left]
    have e3:Cb (l++m++[b]) ((l++m++[b]).length - 1)=b:=VB;have e:C9 (d+1) (w.put s) s.lo (.mk 27 t (l.length:Nat) a (l++m++[b])) lp=(let r:=(m.foldl (λw x=>Cn d s.lo w x false) (((w.put s).few a (l.length:Nat) 50).few a ((l++m++[b]).length - 1 - (l.length:Nat)) 50)).brings a s.lo l 3;(rB d r.1 r.2 b true,s.lo)):=by
     unfold C9;rw [if_neg (by decide),if_neg (by decide),if_neg (by decide),if_neg (by decide),if_neg (by decide),if_neg (by decide),if_neg (by decide),if_pos rfl];simp only [Int.toNat_natCast,e1,e2,e3]
    rw [e,Bjv];simp only [Int.toNat_natCast,e1,e2,e3];refine ⟨XA (g:=λw=>let r:=(m.foldl (λw x=>Cn d s.lo w x false) w).brings a s.lo l 3;rB d r.1 r.2 b true) h q.1 λw' hw=>?_,λs' e=>?_⟩;have h1:((m.foldl (λw x=>Cn d s.lo w x false) w').brings a s.lo l 3).1.er=w'.er:=by rw [RW.OH (by rw [Mc hw];exact hw),Mc hw]
    show (rB d _ _ b true).er=w'.er;rw [Oi (by rw [h1];exact hw),h1];obtain ⟨_,_,e⟩:=Cu e;obtain ⟨_,_,e⟩:=Cu e;obtain ⟨k1,k2,k3⟩:=q.2 _ e;exact ⟨k1.symm,k2,k3⟩
   | @do_ n a t b hb =>
    simp only [A_] at hd;have q:=L0 lp lp0 b h0 hlp hb (hgl b (by simp)) (by omega) s hs;rw [ZI (.inr (.inr rfl))];have e:CZ (λs x=>Bq d ab s x false) s [b]=Bq d ab s b false:=by unfold CZ CZ;cases Bq d ab s b false <;> rfl
    rw [e];exact ⟨q.1,λs' e=>by obtain ⟨k1,k2,k3⟩:=q.2 _ e;exact ⟨k1.symm,k2,k3⟩⟩
   | @break_ n a t =>
    rw [Bjw];show Rs w _ (if lp then w.put s else (w.put s).bad 5 a)/\∀ s':Bo,(if s.lp=0 then PR.bad (5,a) else PR.ok s)=.ok s'->s.lo=s'.lo/\s'.fs=s.fs/\s'.lp=s.lp;by_cases hz:s.lp=0;rw [if_pos hz];have hf:lp=false:=by cases lp with | false=>rfl | true=>exact absurd (hs ▸ hz) (hlp.1 rfl)
    rw [hf];exact ⟨⟨OG h (by decide),ne5⟩,λs' e=>(by cases e)⟩;rw [if_neg hz];have hf:lp=true:=hlp.2 (hs ▸ hz);rw [hf];exact ⟨rfl,λs' e=>by cases e;exact ⟨rfl,rfl,rfl⟩⟩
   | @ret n a t l hl =>
    have q:=XS (l:=l) (s:=s) rfl hl (by omega);rw [Bjx];refine ⟨X9 (g:=λw=>l.foldl (λw x=>Cn d s.lo w x false) w) h q.1 λw' hw=>by rw [Mc hw],λs' e=>?_⟩;obtain ⟨_,_,e⟩:=Cu e;obtain ⟨k1,k2,k3⟩:=q.2 _ e;exact ⟨k1.symm,k2,k3⟩
  intro lp lp0 x h0 hlp hx hw hd;cases hx with
  | @block n a t l hl =>
   simp only [sz] at hd;obtain ⟨_,hgl⟩:=hw;exact Ay3 h hgl λx hx=>ihS lp lp0 x h0 hlp (hl x hx) (JV.1 hgl x hx) (by have:=IJ hx;omega)
end
def tc:List E5->Nat
 | []=>0
 | r :: l=>r.2.2.2.2.length+tc l
theorem Ab4:∀ (l m:List E5),tc (l++m)=tc l+tc m
 | [],m=>by simp [tc]
 | r :: l,m=>by simp only [List.cons_append,tc,Ab4 l m];omega
theorem Ab5 {r:E5}:∀ {l:List E5},r ∈ l->r.2.2.2.2.length<=tc l
 | x :: l,h=>by
  simp only [tc];rcases List.mem_cons.1 h with rfl | h;omega;have:=Ab5 h;omega
theorem Aun {f:Int×List V3->Int×List V3} {n:Nat} (hf:∀ p,(f p).2.length<=p.2.length+n):∀ (l:List E5) (i:Nat),tc (l.modify i λr=>(r.1,r.2.1,r.2.2.1,f r.2.2.2))<=tc l+n
 | [],i=>by simp [tc]
 | r :: l,0=>by
  show (f r.2.2.2).2.length+tc l<=r.2.2.2.2.length+tc l+n;have:=hf r.2.2.2;omega
 | r :: l,i+1=>by
  show r.2.2.2.2.length+tc (l.modify i _)<=r.2.2.2.2.length+tc l+n;have:=Aun hf l i;omega
def pw (w:RW):Nat:=w.fs.length+w.gl.length+tc w.fs
structure Gr (w w':RW) (n:Nat):Prop where
 pw:pw w'<=pw w+n
 len:w.fs.length<=w'.fs.length
 F:w'.F=w.F
 ab:w'.ab=w.ab
theorem Gr.refl (w:RW):Gr w w 0:=⟨Nat.le_refl _,Nat.le_refl _,rfl,rfl⟩
theorem Gr.trans {w w1 w2:RW} {n m:Nat} (h:Gr w w1 n) (h':Gr w1 w2 m):Gr w w2 (n+m):=⟨by have:=h.pw;have:=h'.pw;omega,Nat.le_trans h.len h'.len,h'.F.trans h.F,h'.ab.trans h.ab⟩
theorem Gr.weak {w w':RW} {n m:Nat} (h:Gr w w' n) (hm:n<=m):Gr w w' m:=⟨by have:=h.pw;omega,h.len,h.F,h.ab⟩
theorem Q8 {w:RW} {e a:Int}:Gr w (w.bad e a) 0:=by unfold RW.bad;split <;> exact ⟨Nat.le_refl _,Nat.le_refl _,rfl,rfl⟩
theorem Me {w:RW} {a c m:Int}:Gr w (w.few a c m) 0:=by unfold RW.few;split;exact Q8;exact Gr.refl w
theorem OR {w:RW} {a c m c' m':Int}:Gr w ((w.few a c m).few a c' m') 0:=Me.trans Me
theorem Aiw {w:RW} {f:Int×List V3->Int×List V3} {n:Nat} (hf:∀ p,(f p).2.length<=p.2.length+n):Gr w (w.mod f) n:=by
 refine ⟨?_,by simp [RW.mod],rfl,rfl⟩;have:=Aun hf w.fs w.F;simp only [Go.Proofs.YteccladehmaglaaGreatDoor.pw,RW.mod,List.length_modify];omega
theorem Aiv {w:RW} {t:Ah}:Gr w (w.EV t) 1:=⟨by have:=Qw w.gl t;simp only [Go.Proofs.YteccladehmaglaaGreatDoor.pw,RW.EV];omega,Nat.le_refl _,rfl,rfl⟩
theorem XF {w:RW} {a:Int} {v:V3}:Gr w (w.const a v) 1:=by
 unfold RW.const;split;exact (Gr.refl w).weak (Nat.zero_le _);exact (Aiw (n:=1) λp=>by simp).trans Me
theorem A4x {w:RW} {a:Int} {t:Ah} {lo:List Ah}:Gr w (w.name a t lo) 1:=by
 unfold RW.name;split;exact Q8.weak (Nat.zero_le _);split;exact Aiv;exact (Gr.refl w).weak (Nat.zero_le _)
theorem XG:∀ {l:List Tree} {w:RW},Gr w (Ga w l) 0
 | [],w=>Gr.refl w
 | x :: l,w=>by
  unfold Ga;split;exact Q8.trans XG;exact XG
theorem MA {w:RW} {a:Int} {lo:List Ah} {l:List Tree} {n:Nat}:Gr w (w.brings a lo l n).1 0/\(w.brings a lo l n).2.length=lo.length+n+l.length :=
 ⟨XG.trans (Me.trans (Aiw (f:=λp=>RW.slots p ((lo++List.replicate n noB++l.map Tree.text).length:Nat)) (n:=0) λp=>Nat.le_refl _)),by simp [RW.brings,Nat.add_assoc]⟩
theorem Vi {f:RW->Tree->RW}:∀ {l:List Tree} {w:RW},(∀ x ∈ l,∀ w,Gr w (f w x) (sz x))->Gr w (l.foldl f w) (A_ l)
 | [],w,_=>Gr.refl w
 | x :: l,w,h=>by
  rw [List.foldl_cons];simp only [A_];exact (h x (DN ..) w).trans (Vi λy hy=>h y (EI _ hy))
theorem MB:∀ {d:Nat} {lo:List Ah} {w:RW} {x:Tree} {tg:Bool},Gr w (Cn d lo w x tg) (sz x)
 | 0,_,w,_,_=>(Gr.refl w).weak (Nat.zero_le _)
 | d+1,lo,w,.mk k t n a l,tg=>by
  have all:∀ {w w':RW},Gr w w' 1->Gr w (l.foldl (λw x=>Cn d lo w x false) w') (A_ l+1):=λh=>(h.trans (Vi λx _ w=>MB)).weak (by omega);unfold Cn;simp only [sz];have z:Gr w w (A_ l+1):=(Gr.refl w).weak (Nat.zero_le _);split;exact z;split;exact all (Me.weak (Nat.zero_le _));split;exact all (Me.weak (Nat.zero_le _));split;exact all XF;split;exact all XF;split;exact all A4x;split;split;exact Q8.weak (Nat.zero_le _);exact z;exact all ((Gr.refl w).weak (Nat.zero_le _))
theorem Md {d:Nat} {lo:List Ah} {w:RW} {l:List Tree}:Gr w (l.foldl (λw x=>Cn d lo w x false) w) (A_ l):=Vi λ_ _ _=>MB
theorem XD {d:Nat} {lo:List Ah} {n:Int}:∀ {l:List Tree} {i:Nat} {w:RW},Gr w (IG (λw x b=>Cn d lo w x b) n i w l) (A_ l)
 | [],_,w=>Gr.refl w
 | x :: l,i,w=>by unfold IG;simp only [A_];exact MB.trans XD
section
variable {d:Nat} {w:RW} {lo:List Ah} {t:Ah} {n a:Int} {l m:List Tree} {b x:Tree} {lp:Bool}
theorem Arx:C9 (d+1) w lo (.mk 21 t (l.length:Nat) a (l++m)) lp=(m.foldl (λw x=>Cn d lo w x false) ((w.few a (l.length:Nat) 50).few a ((l++m).length - (l.length:Nat)) 50)).brings a lo l 0:=by
 unfold C9;rw [if_neg (by decide),if_pos rfl];simp only [Int.toNat_natCast,List.drop_left,List.take_left]
theorem Ary:C9 (d+1) w lo (.mk 22 t n a l) lp=(IG (λw x b=>Cn d lo w x b) n 0 ((w.few a n 50).few a (l.length - n) 50) l,lo):=rfl
theorem Arz:C9 (d+1) w lo (.mk 23 t n a l) lp=(l.foldl (λw x=>Cn d lo w x false) w,lo):=rfl
theorem Ar0:C9 (d+1) w lo (.mk 24 t n a l) lp=(l.foldl (λw x=>if x.kind=20 then rB d w lo x lp else Cn d lo w x false) w,lo):=rfl
theorem Ar1:C9 (d+1) w lo (.mk 25 t n a [x,b]) lp=(rB d (Cn d lo w x false) lo b true,lo):=rfl
theorem Ar2:C9 (d+1) w lo (.mk 26 t n a (x :: l++[b])) lp=(let r:=(l.foldl (λw x=>Cn d lo w x false) w).brings a lo [x] 3;(rB d r.1 r.2 b true,lo)):=by
 unfold C9;rw [if_neg (by decide),if_neg (by decide),if_neg (by decide),if_neg (by decide),if_neg (by decide),if_neg (by decide),if_pos rfl];simp only [show ((x :: l++[b]).drop 1).take ((x :: l++[b]).length - 2)=l by simp,show (x :: l++[b]).take 1=[x] by simp,show Cb (x :: l++[b]) ((x :: l++[b]).length - 1)=b from VB]
theorem Ar5:C9 (d+1) w lo (.mk 27 t (l.length:Nat) a (l++m++[b])) lp=(let r:=(m.foldl (λw x=>Cn d lo w x false) ((w.few a (l.length:Nat) 50).few a ((l++m++[b]).length - 1 - (l.length:Nat)) 50)).brings a lo l 3;(rB d r.1 r.2 b true,lo)):=by
 have e1:((l++m++[b]).drop l.length).take ((l++m++[b]).length - 1 - l.length)=m:=by
  rw [C7,List.drop_left,show (l++(m++[b])).length - 1 - l.length=m.length by simp,List.take_left]
 have e2:(l++m++[b]).take l.length=l:=by rw [C7,List.take_left]
 have e3:Cb (l++m++[b]) ((l++m++[b]).length - 1)=b:=VB;unfold C9;rw [if_neg (by decide),if_neg (by decide),if_neg (by decide),if_neg (by decide),if_neg (by decide),if_neg (by decide),if_neg (by decide),if_pos rfl];simp only [Int.toNat_natCast,e1,e2,e3]
theorem Ar7:C9 (d+1) w lo (.mk 28 t n a [b]) lp=(rB d w lo b lp,lo):=rfl
theorem Ar8:C9 (d+1) w lo (.mk 29 t n a l) lp=(if lp then w else w.bad 5 a,lo):=rfl
theorem Ar9:C9 (d+1) w lo (.mk 30 t n a l) lp=(l.foldl (λw x=>Cn d lo w x false) (w.few a (l.length:Nat) 50),lo):=rfl
theorem Wz:C9 (d+1) w lo (.mk 31 t (l.length:Nat) a (l++[b])) lp =
    (let w:=w.few a (w.fs.length:Nat) 100
     let w:=if Ef t then w.bad 5 a else w
     let w:=(w.few a (l.length:Nat) 50).EV t;let w:RW:={ w with ab:=lo,F:=w.fs.length,fs:=w.fs++[(t,a,((l.length:Nat):Int),0,[])] };let r:=w.brings a [] l 0
     ({ rB d r.1 r.2 b false with F:=0,ab:=[] },lo)):=by
  unfold C9;rw [if_pos rfl];simp only [Int.toNat_natCast,List.take_left,Tc]
end
def GS (d:Nat) (x:Tree):Prop:=∀ (w:RW) (lo:List Ah) (lp:Bool),Gr w (C9 d w lo x lp).1 (sz x)/\(C9 d w lo x lp).2.length<=lo.length+sz x
def GB (d:Nat) (x:Tree):Prop:=∀ (w:RW) (lo:List Ah) (lp:Bool),Gr w (rB d w lo x lp) (sz x)
theorem Aiu {d:Nat} {lp:Bool}:∀ {l:List Tree} {w:RW} {lo:List Ah},(∀ x ∈ l,GS d x)->Gr w (Hq (λw lo x=>C9 d w lo x lp) w lo l) (A_ l)
 | [],w,_,_=>Gr.refl w
 | x :: l,w,lo,h=>by
  unfold Hq;simp only [A_];split;exact (Gr.refl w).weak (Nat.zero_le _);exact (h x (DN ..) w lo lp).1.trans (Aiu λy hy=>h y (EI _ hy))
theorem Q9:∀ (d:Nat),(∀ x,IsS x->GS d x)/\(∀ x,FD x->GB d x)
 | 0=>⟨λx _ w lo lp=>⟨(Gr.refl w).weak (Nat.zero_le _),by show lo.length<=_;omega⟩,λx _ w lo lp=>(Gr.refl w).weak (Nat.zero_le _)⟩
 | d+1=>by
  obtain ⟨ihS,L0⟩:=Q9 d;constructor;intro x hx w lo lp;cases hx with
  | @loc a t l m hl hm =>
   rw [Arx];obtain ⟨h1,h2⟩:=MA (w:=m.foldl (λw x=>Cn d lo w x false) ((w.few a (l.length:Nat) 50).few a ((l++m).length - (l.length:Nat)) 50)) (a:=a) (lo:=lo) (l:=l) (n:=0);simp only [sz];have:=Fr l;rw [DY];exact ⟨((OR.trans Md).trans h1).weak (by omega),by omega⟩
  | @asg a t l m hl hl2 hm hm2 =>
   rw [Ary];simp only [sz];exact ⟨(OR.trans XD).weak (by omega),by omega⟩
  | @run n a t x hx hk=>rw [Arz];simp only [sz];exact ⟨Md.weak (by omega),by omega⟩
  | @if_ n a t l hl =>
   rw [Ar0];simp only [sz];refine ⟨(Vi λx hx w=>?_).weak (by omega),by omega⟩;rcases IsR.kinds hl x hx with hb | he;rw [if_pos hb.kind];exact L0 x hb w lo lp;rw [if_neg he.kind];exact MB
  | @while_ n a t x b hx hb=>rw [Ar1];simp only [sz,A_];exact ⟨(MB.trans (L0 b hb _ _ _)).weak (by omega),by omega⟩
  | @for_ n a t x b l hl he hb =>
   rw [Ar2];simp only [sz];rw [DY];simp only [A_];exact ⟨((Md.trans MA.1).trans (L0 b hb _ _ _)).weak (by omega),by omega⟩
  | @forIn a t b l m hl hm hm2 hb =>
   rw [Ar5];simp only [sz];rw [DY,DY];simp only [A_];exact ⟨(((OR.trans Md).trans MA.1).trans (L0 b hb _ _ _)).weak (by omega),by omega⟩
  | @do_ n a t b hb=>rw [Ar7];simp only [sz,A_];exact ⟨(L0 b hb _ _ _).weak (by omega),by omega⟩
  | @break_ n a t =>
   rw [Ar8];refine ⟨?_,by show lo.length<=_;omega⟩;show Gr w (if lp then w else w.bad 5 a) _;split;exact (Gr.refl w).weak (Nat.zero_le _);exact Q8.weak (Nat.zero_le _)
  | @ret n a t l hl=>rw [Ar9];simp only [sz];exact ⟨(Me.trans Md).weak (by omega),by omega⟩
  intro x hx w lo lp;cases hx with
  | @block n a t l hl=>unfold rB;simp only [sz];exact (Aiu λx hx=>ihS x (hl x hx)).weak (by omega)
section
variable {w:RW} {e a c m:Int} {t:Ah} {f:Int×List V3->Int×List V3}
theorem Jm:(w.bad e a).fs=w.fs/\(w.bad e a).gl=w.gl/\(w.bad e a).F=w.F/\(w.bad e a).ab=w.ab:=by unfold RW.bad;split <;> exact ⟨rfl,rfl,rfl,rfl⟩
theorem El:(w.few a c m).fs=w.fs/\(w.few a c m).gl=w.gl/\(w.few a c m).F=w.F/\(w.few a c m).ab=w.ab:=by unfold RW.few;split;exact Jm;exact ⟨rfl,rfl,rfl,rfl⟩
theorem Ay5 {w':RW} (h:w'.er=w.er):(w'.bad e a).er=(w.bad e a).er:=by
 unfold RW.bad;rw [h];split;rfl;exact h
theorem A3u {w':RW} (h:w'.er=w.er):(w'.few a c m).er=(w.few a c m).er:=by unfold RW.few;split;exact Ay5 h;exact h
theorem P6:∀ {l:List Tree} {w:RW},(Ga w l).fs=w.fs/\(Ga w l).gl=w.gl/\(Ga w l).F=w.F/\(Ga w l).ab=w.ab
 | [],w=>⟨rfl,rfl,rfl,rfl⟩
 | x :: l,w=>by
  unfold Ga;split;obtain ⟨h1,h2,h3,h4⟩:=P6 (l:=l) (w:=w.bad 5 x.at_);obtain ⟨g1,g2,g3,g4⟩:=Jm (w:=w) (e:=5) (a:=x.at_);exact ⟨h1.trans g1,h2.trans g2,h3.trans g3,h4.trans g4⟩;exact P6
theorem ZD {α:Type} {f:α->α}:∀ {l:List α} {i:Nat} (h:i < l.length),l.modify i f=l.set i (f l[i])
 | x :: l,0,h=>rfl
 | x :: l,i+1,h=>by
  show x :: l.modify i f=x :: l.set i (f (l[i]'(by simpa using h)));rw [ZD (l:=l) (i:=i) (by simpa using h)]
theorem Akr {α:Type} {l:List α} {i:Nat} (h:i < l.length):B7 l (i:Int)=some l[i]:=VL h
theorem As6 {α:Type} {l:List α} {i:Nat} {x:α} (h:i < l.length):Hh l (i:Int) x=some (l.set i x):=by
 unfold Hh;rw [decide_eq_true (by omega)];rfl
theorem N7 (k:Nat):G6.f k w.er.1 w.er.2 e a=some (w.bad e a).er:=by
 unfold G6.f RW.bad;by_cases h:w.er.1=0;rw [eqC h,if_pos h];rfl;rw [Cf h,if_neg h];rfl
theorem KF (k:Nat) (x0:Int) (x1:Ah) (x2:Int) (x4:List Tree):Ez.f k w.er.1 w.er.2 x0 x1 x2 a x4 c m=some (w.few a c m).er:=by
 unfold Ez.f RW.few;by_cases h:c > m;rw [decide_eq_true h,if_pos h,N7];rfl;rw [decide_eq_false h,if_neg h];rfl
theorem V9 (k:Nat) (t:Ah):Ki.f k t=some (Ef t):=by
 unfold Ki.f Ef;cases t.toList == Xj.toList <;> rfl
theorem Xl {α:Type} [BEq α] [LawfulBEq α] (x y:α):(x == y)=(y == x):=by rw [Bool.eq_iff_iff,beq_iff_eq,beq_iff_eq];exact eq_comm
theorem Afn (x y:Ah):(x.toList == y.toList)=(y.toList == x.toList):=Xl _ _
theorem Ajz:∀ (t pre:List Ah) (a:Ah) (m:Nat),pre.length+t.length<=1000000->t.length+1<=m->Gt.l0 m (pre++t) a (λ_=>some false) (pre.length:Int)=some (G1 t a)
 | [],pre,a,m,hl,hm=>by
  obtain ⟨m,rfl⟩:∃ m',m=m'+1:=⟨m - 1,by omega⟩;simp only [Gt.l0];rw [ltF (by simp)];rfl
 | x :: t,pre,a,m,hl,hm=>by
  obtain ⟨m,rfl⟩:∃ m',m=m'+1:=⟨m - 1,by omega⟩;simp only [AW] at hl hm;simp only [Gt.l0];rw [Hj (by simp;omega),HZ];simp only [cond_true,Aq];unfold G1;rw [List.any_cons,Afn];cases hq:a.toList == x.toList with
  | true=>rfl
  | false =>
   rw [cond_false,Bool.false_or,wiC _ (by omega) (by omega)];have ih:=Ajz t (pre++[x]) a m (by simp;omega) (by omega);rw [C7,BQ] at ih;exact ih
theorem XY (k:Nat) (l:List Ah) (a:Ah) (hl:l.length<=1000000) (hk:l.length+1<=k):Gt.f k l a=some (G1 l a):=Ajz l [] a k (by simpa using hl) hk
theorem Air {k:Nat} {gl:List Ah} (t:Ah) (hg:gl.length<=400000) (hk:500000<=k):Mn.f k gl t=some (EU gl t):=by
 unfold Mn.f EU;rw [XY k gl t (by omega) (by omega),Aq];cases G1 gl t with
 | true=>rfl
 | false=>rw [Bool.not_false,cond_true,Lm (by simp;omega)];rfl
theorem Bum (k:Nat) (x0:Int) (x1:Ah) (x2:Int) (x4:List Tree) (lo:List Ah) (hF:w.F < w.fs.length) :
  Nk.f k w.fs (w.F:Int) w.er.1 w.er.2 x0 x1 x2 a x4 lo=some ((w.there a (lo.length:Nat)).fs,(w.there a (lo.length:Nat)).er.1,(w.there a (lo.length:Nat)).er.2):=by
 have key:∀ e:Int×Int,(B7 w.fs (w.F:Int)).bind (λx5=>cond (decide (((lo.length:Nat):Int) > x5.2.2.2.1)) ((B7 w.fs (w.F:Int)).bind λx18=>(Hh w.fs (w.F:Int) (x18.1,x18.2.1,x18.2.2.1,((lo.length:Nat):Int),x18.2.2.2.2)).bind λF_=>some (F_,e.1,e.2)) (some (w.fs,e.1,e.2)))
  =some (w.fs.modify w.F (λr=>(r.1,r.2.1,r.2.2.1,RW.slots r.2.2.2 ((lo.length:Nat):Int))),e.1,e.2):=λe=>by
  rw [Akr hF,ZD hF];simp only [Aq];unfold RW.slots;by_cases h:((lo.length:Nat):Int) > w.fs[w.F].2.2.2.1;rw [decide_eq_true h,if_pos h,cond_true,As6 hF];rfl;rw [decide_eq_false h,if_neg h,cond_false];congr 2;exact (List.set_getElem_self hF).symm
 unfold Nk.f AM;have ew:(w.there a (lo.length:Nat)).fs=w.fs.modify w.F (λr=>(r.1,r.2.1,r.2.2.1,RW.slots r.2.2.2 ((lo.length:Nat):Int))):=by
  show ((w.few a (lo.length:Nat) 60).fs).modify (w.few a (lo.length:Nat) 60).F _=_;rw [El.1,El.2.2.1]
 have ee:(w.there a (lo.length:Nat)).er=(w.few a (lo.length:Nat) 60).er:=rfl;rw [ew,ee];unfold RW.few;dsimp only;by_cases h:((lo.length:Nat):Int) > 60;rw [decide_eq_true h,if_pos h,cond_true,N7,Aq];exact key _;rw [decide_eq_false h,if_neg h,cond_false];exact key w.er
theorem Awd (J:Av->Option (Av×List E5×Int×Int)):∀ (d:Nat) (i:Nat) (l:Av) (h m:Nat),h=i+d->l.length+d<=500000->h<=100->d+1<=m->Ei.l1 m (h:Int) J l (i:Int)=J (l++List.replicate d noB)
 | 0,i,l,h,m,e,hl,hh,hm=>by
  obtain ⟨m,rfl⟩:∃ m',m=m'+1:=⟨m - 1,by omega⟩;simp only [Ei.l1];rw [ltF (by omega)];simp
 | d+1,i,l,h,m,e,hl,hh,hm=>by
  obtain ⟨m,rfl⟩:∃ m',m=m'+1:=⟨m - 1,by omega⟩;simp only [Ei.l1];rw [Hj (by omega),cond_true,Lm (by simp;omega),Aq,wiC _ (by omega) (by omega)];have ih:=Awd J d (i+1) (l++[noB]) h m (by omega) (by simp;omega) hh (by omega);rw [C7] at ih;exact ih
theorem Awg (J:List Ah->Int->Int->Option (List Ah×List E5×Int×Int)):∀ (t pre:List Tree) (l:List Ah) (w:RW) (m:Nat),pre.length+t.length<=400000->l.length+t.length<=900000->t.length+1<=m ->
  Ei.l0 m (pre++t) J l (pre.length:Int) w.er.1 w.er.2=J (l++t.map Tree.text) (Ga w t).er.1 (Ga w t).er.2
 | [],pre,l,w,m,hl,ho,hm=>by
  obtain ⟨m,rfl⟩:∃ m',m=m'+1:=⟨m - 1,by omega⟩;simp only [Ei.l0];rw [ltF (by simp)];simp [Ga]
 | x :: t,pre,l,w,m,hl,ho,hm=>by
  obtain ⟨m,rfl⟩:∃ m',m=m'+1:=⟨m - 1,by omega⟩;simp only [AW] at hl ho hm;simp only [Ei.l0];rw [Hj (by simp;omega),HZ];simp only [cond_true,Aq,AM,V9];have ih:=λw=>Awg J t (pre++[x]) (l++[x.text]) w m (by simp;omega) (by simp;omega) (by omega);simp only [C7,BQ] at ih;unfold Ga;cases hq:Ef x.text with
  | true =>
   rw [cond_true,N7,Aq,Lm (by simp;omega),Aq,wiC _ (by omega) (by omega),if_pos rfl];exact ih _
  | false =>
   rw [cond_false,Lm (by simp;omega),Aq,wiC _ (by omega) (by omega),if_neg (by decide)];exact ih _
def o4w (r:RW×List Ah):List Ah×List E5×Int×Int:=(r.2,r.1.fs,r.1.er.1,r.1.er.2)
theorem WF {k:Nat} (x0:Int) (x1:Ah) (x2:Int) (x4:List Tree) (lo:List Ah) (l:List Tree) (h:Nat) (hF:w.F < w.fs.length) (hl:l.length<=400000) (ho:lo.length<=400000) (hh:h<=100) (hk:500000<=k) :
  Ei.f k w.fs (w.F:Int) w.er.1 w.er.2 x0 x1 x2 a x4 lo l (h:Int)=some (o4w (w.brings a lo l h)):=by
 unfold Ei.f AM;rw [Lm (by simp;omega),Aq,List.nil_append];have e1:=Awd (λl8=>Ei.l0 k l (λGk x19 x20=>(Nk.f k w.fs (w.F:Int) x19 x20 x0 x1 x2 a x4 Gk).bind λr22=>some (Gk,r22.1,r22.2.1,r22.2.2)) l8 (0:Int) w.er.1 w.er.2) h 0 lo h k (by omega) (by omega) hh (by omega);refine Eq.trans e1 ?_;have e2:=Awg (λGk x19 x20=>(Nk.f k w.fs (w.F:Int) x19 x20 x0 x1 x2 a x4 Gk).bind λr22=>some (Gk,r22.1,r22.2.1,r22.2.2)) l [] (lo++List.replicate h noB) w k (by simpa using hl) (by simp;omega) (by omega);refine Eq.trans e2 ?_;have e3:=Bum (w:=Ga w l) (a:=a) k x0 x1 x2 x4 (lo++List.replicate h noB++l.map Tree.text) (by rw [P6.2.2.1,P6.1];exact hF);rw [P6.1,P6.2.2.1] at e3;rw [e3];rfl
theorem Agp (fs:List E5) (e0 e1 v0 v1:Int) (v2:Ah) (r:E5) (J:Unit->Option (List E5×Int×Int)):∀ (t pre:List V3) (m:Nat),r.2.2.2.2=pre++t->pre.length+t.length<=1000000->t.length+1<=m ->
  GV.l0 m fs e0 e1 v0 v1 v2 r J (pre.length:Int)=if ME t (v0,v1,v2) then some (fs,e0,e1) else J ()
 | [],pre,m,e,hl,hm=>by
  obtain ⟨m,rfl⟩:∃ m',m=m'+1:=⟨m - 1,by omega⟩;simp only [GV.l0,e];rw [ltF (by simp)];rfl
 | x :: t,pre,m,e,hl,hm=>by
  obtain ⟨m,rfl⟩:∃ m',m=m'+1:=⟨m - 1,by omega⟩;simp only [AW] at hl hm;simp only [GV.l0];rw [e,Hj (by simp;omega),HZ];simp only [cond_true,Aq];unfold ME;rw [List.any_cons];have es:((x.1 == v0) && ((x.2.1 == v1) && ((x.2.2.toList == v2.toList) && true)))=((v0 == x.1) && ((v1 == x.2.1) && ((v2.toList == x.2.2.toList) && true))):=by rw [Xl x.1,Xl x.2.1,Afn x.2.2]
  rw [es];cases hq:(v0 == x.1) && ((v1 == x.2.1) && ((v2.toList == x.2.2.toList) && true)) with
  | true=>rfl
  | false =>
   rw [cond_false,Bool.false_or,wiC _ (by omega) (by omega)];have ih:=Agp fs e0 e1 v0 v1 v2 r J t (pre++[x]) m (by rw [e,C7];rfl) (by simp;omega) (by omega);rw [BQ] at ih;exact ih
theorem Az8 {k:Nat} (x0:Int) (x1:Ah) (x2:Int) (x4:List Tree) (v0 v1:Int) (v2:Ah) (hF:w.F < w.fs.length) (hc:tc w.fs<=400000) (hk:500000<=k) :
  GV.f k w.fs (w.F:Int) w.er.1 w.er.2 x0 x1 x2 a x4 v0 v1 v2=some ((w.const a (v0,v1,v2)).fs,(w.const a (v0,v1,v2)).er.1,(w.const a (v0,v1,v2)).er.2):=by
 have hcs:w.cs=w.fs[w.F].2.2.2.2:=by unfold RW.cs;rw [List.getElem?_eq_getElem hF]
 have hlen:=Ab5 (List.getElem_mem hF);unfold GV.f AM;rw [Akr hF,Aq];have e1:=Agp w.fs w.er.1 w.er.2 v0 v1 v2 w.fs[w.F] (λ_=>(apd 32 w.fs[w.F].2.2.2.2 [(v0,v1,v2)]).bind λHJ=>(Hh w.fs (w.F:Int) (w.fs[w.F].1,w.fs[w.F].2.1,w.fs[w.F].2.2.1,w.fs[w.F].2.2.2.1,HJ)).bind λl34 =>
  (Ez.f k w.er.1 w.er.2 x0 x1 x2 a x4 ((HJ.length:Nat):Int) (250:Int)).bind λr47=>some (l34,r47.1,r47.2)) w.fs[w.F].2.2.2.2 [] k rfl (by simp only [Bp];omega) (by omega)
 refine Eq.trans e1 ?_;unfold RW.const;rw [hcs];by_cases h:ME w.fs[w.F].2.2.2.2 (v0,v1,v2)=true;rw [if_pos h,if_pos h];rw [if_neg h,if_neg h,Lm (by simp;omega),Aq,As6 hF,Aq,KF,Aq,El.1];have e2:((w.mod λp=>(p.1,p.2++[(v0,v1,v2)])).few a (w.fs[w.F].2.2.2.2.length+1:Nat) 250).er=(w.few a ((w.fs[w.F].2.2.2.2++[(v0,v1,v2)]).length:Nat) 250).er:=by
  rw [BQ];exact A3u rfl
 rw [e2];have e3:(w.mod λp=>(p.1,p.2++[(v0,v1,v2)])).fs=w.fs.set w.F (w.fs[w.F].1,w.fs[w.F].2.1,w.fs[w.F].2.2.1,w.fs[w.F].2.2.2.1,w.fs[w.F].2.2.2.2++[(v0,v1,v2)]):=by
  show w.fs.modify w.F _=_;rw [ZD hF]
 rw [e3]
end
structure Fh (w:RW) (lo:List Ah) (n:Nat):Prop where
 F:w.F < w.fs.length
 pw:pw w+2 * n<=400000
 lo:lo.length+2 * n<=400000
 ab:w.ab.length<=400000
theorem Fh.weak {w:RW} {lo:List Ah} {n m:Nat} (h:Fh w lo n) (hm:m<=n):Fh w lo m:=⟨h.F,by have:=h.pw;omega,by have:=h.lo;omega,h.ab⟩
theorem Fh.step {w w':RW} {lo:Av} {n m k:Nat} (h:Fh w lo (n+m)) (hg:Gr w w' k) (hk:k<=2 * n):Fh w' lo m:=⟨by rw [hg.F];exact Nat.lt_of_lt_of_le h.F hg.len,by have:=h.pw;have:=hg.pw;omega,by have:=h.lo;omega,by rw [hg.ab];exact h.ab⟩
theorem Fh.tc {w:RW} {lo:List Ah} {n:Nat} (h:Fh w lo n):tc w.fs<=400000/\w.fs.length<=400000/\w.gl.length<=400000:=by have:=h.pw;unfold Go.Proofs.YteccladehmaglaaGreatDoor.pw at this;omega
def o4 (w:RW):List E5×List Ah×Int×Int:=(w.fs,w.gl,w.er.1,w.er.2)
def o6 (w:RW):List E5×List Ah×Int×List Ah×Int×Int:=(w.fs,w.gl,(w.F:Int),w.ab,w.er.1,w.er.2)
abbrev exF (d:Nat) (lo:List Ah) (w:RW) (l:List Tree):RW:=l.foldl (λw x=>Cn d lo w x false) w
def O9 (R:RC) (d:Nat):Prop:=∀ (w:RW) (lo:List Ah) (x:Tree) (tg:Bool),IsX x->gw x->sz x<=d->Fh w lo (sz x) ->
 R.FT w.fs w.gl (w.F:Int) w.ab w.er.1 w.er.2 x.kind x.text x.n x.at_ x.kids lo tg=some (o4 (Cn d lo w x tg))
def RxL (R:RC) (d:Nat):Prop:=∀ (w:RW) (lo:List Ah) (l:List Tree),(∀ x ∈ l,IsX x/\gw x/\sz x<=d)->Fh w lo (A_ l) ->
 R.DA w.fs w.gl (w.F:Int) w.ab w.er.1 w.er.2 l lo=some (o4 (exF d lo w l))
theorem Ahu {R:RC} {d:Nat} (hR:O9 R d):∀ (t pre:List Tree) (w:RW) (lo:List Ah) (m:Nat),pre.length+t.length<=400000->t.length+1<=m->(∀ x ∈ t,IsX x/\gw x/\sz x<=d)->Fh w lo (A_ t) ->
  DA.l0 m R (w.F:Int) w.ab (pre++t) lo (pre.length:Int) w.fs w.gl w.er.1 w.er.2=some (o4 (exF d lo w t))
 | [],pre,w,lo,m,hl,hm,hw,hb=>by
  obtain ⟨m,rfl⟩:∃ m',m=m'+1:=⟨m - 1,by omega⟩;simp only [DA.l0];rw [ltF (by simp)];rfl
 | x :: t,pre,w,lo,m,hl,hm,hw,hb=>by
  obtain ⟨m,rfl⟩:∃ m',m=m'+1:=⟨m - 1,by omega⟩;simp only [AW] at hl hm;simp only [A_] at hb;obtain ⟨h1,h2,h3⟩:=hw x (DN ..);have hg:Gr w (Cn d lo w x false) (sz x):=MB;have ih:=Ahu hR t (pre++[x]) (Cn d lo w x false) lo m (by simp;omega) (by omega) (λy hy=>hw y (EI _ hy)) (hb.step hg (by omega));rw [C7,BQ,hg.F,hg.ab] at ih;simp only [DA.l0];rw [Hj (by simp;omega),HZ];simp only [cond_true,Aq];rw [hR w lo x false h1 h2 h3 (hb.weak (by omega)),Aq,wiC _ (by omega) (by omega)];exact ih
theorem Ahv {k d:Nat} (hk:500000<=k) (hR:O9 (RC.at k) d):RxL (RC.at (k+1)) d:=λw lo l hw hb=>by
 have:=Fr l;have:=hb.pw;exact Ahu hR l [] w lo k (by simp only [Bp];omega) (by omega) hw hb
theorem A3f {k d:Nat} (hk:500000<=k) (hR:RxL (RC.at k) d):O9 (RC.at (k+1)) (d+1):=λw lo x tg hx hg hd hb=>by
 cases x with
 | mk k0 t n a l =>
 obtain ⟨c1,c2,X_⟩:=hx.kids;obtain ⟨hsh,hgl⟩:=hg;have hgl:=JV.1 hgl;simp only [sz] at hd hb;have hlen:=Fr l;have hp:=hb.pw;obtain ⟨b1,b2,b3⟩:=hb.tc;have hlo:=hb.lo;show FT.g (RC.at k) k w.fs w.gl (w.F:Int) w.ab w.er.1 w.er.2 k0 t n a l lo tg=_;unfold FT.g Cn;dsimp only;by_cases he:w.er.1=0
 case neg =>
  rw [if_pos he,show (w.er.1 != 0)=true from bne_iff_ne.2 he];rfl
 rw [if_neg (λh=>h he),show (w.er.1 != 0)=false by rw [he];rfl,cond_false];have all:∀ w':RW,Gr w w' 1->((RC.at k).DA w'.fs w'.gl (w.F:Int) w.ab w'.er.1 w'.er.2 l lo).bind (λr16=>some (r16.1,r16.2.1,r16.2.2.1,r16.2.2.2))=some (o4 (exF d lo w' l)):=λw' hg=>by
  have:=hR w' lo l (λy hy=>⟨X_ y hy,hgl y hy,by have:=IJ hy;omega⟩) ((hb.weak (m:=1+A_ l) (by omega)).step hg (by omega));rw [hg.F,hg.ab] at this;rw [this];rfl
 have self:Gr w w 1:=(Gr.refl w).weak (Nat.zero_le _);have fw:∀ c m:Int,Gr w (w.few a c m) 1:=λc m=>Me.weak (Nat.zero_le _);have few:∀ c m:Int,((RC.at k).DA w.fs w.gl (w.F:Int) w.ab (w.few a c m).er.1 (w.few a c m).er.2 l lo).bind (λr16=>some (r16.1,r16.2.1,r16.2.2.1,r16.2.2.2))=some (o4 (exF d lo (w.few a c m) l)):=λc m=>by
  have:=all (w.few a c m) (fw c m);rw [El.1,El.2.1] at this;exact this
 have bd:∀ e:Int,((RC.at k).DA w.fs w.gl (w.F:Int) w.ab (w.bad e a).er.1 (w.bad e a).er.2 l lo).bind (λr16=>some (r16.1,r16.2.1,r16.2.2.1,r16.2.2.2))=some (o4 (exF d lo (w.bad e a) l)):=λe=>by
  have:=all (w.bad e a) (Q8.weak (Nat.zero_le _));rw [Jm.1,Jm.2.1] at this;exact this
 have cst:∀ v0 v1 v2,(GV.f k w.fs (w.F:Int) w.er.1 w.er.2 k0 t n a l v0 v1 v2).bind (λDQ=>((RC.at k).DA DQ.1 w.gl (w.F:Int) w.ab DQ.2.1 DQ.2.2 l lo).bind (λr16=>some (r16.1,r16.2.1,r16.2.2.1,r16.2.2.2)))=some (o4 (exF d lo (w.const a (v0,v1,v2)) l)):=λv0 v1 v2=>by
  rw [Az8 _ _ _ _ _ _ _ hb.F b1 hk,Aq];have:=all (w.const a (v0,v1,v2)) XF;have eg:(w.const a (v0,v1,v2)).gl=w.gl:=by unfold RW.const;split;rfl;exact El.2.1
  rw [eg] at this;exact this
 unfold AM;dsimp only;by_cases h8:k0=8
 ·rw [if_pos h8,eqC h8,cond_true,wiC _ (by omega) (by omega),KF,Aq];exact few _ _
 rw [if_neg h8,Cf h8,cond_false];by_cases h12:k0=12
 ·rw [if_pos h12,eqC h12,cond_true,KF,Aq];exact few _ _
 rw [if_neg h12,Cf h12,cond_false];by_cases h4:k0=4
 ·rw [if_pos h4,eqC h4,cond_true];exact cst _ _ _
 rw [if_neg h4,Cf h4,cond_false];by_cases h5:k0=5
 ·rw [if_pos h5,eqC h5,cond_true];exact cst _ _ _
 rw [if_neg h5,Cf h5,cond_false];by_cases h6:k0=6
 ·rw [if_pos h6,eqC h6,cond_true]
  have hab:=hb.ab;rw [V9,XY k lo t (by omega) (by omega),XY k w.ab t (by omega) (by omega),Air t (by omega) hk];simp only [Aq];unfold RW.name;cases Ef t with
  | true=>rw [cond_true,Aq,cond_true,N7,Aq];exact bd 5
  | false =>
   cases G1 lo t with
   | true=>exact all w self
   | false =>
    cases G1 w.ab t with
    | true=>simp only [Bool.not_false,cond_true,cond_false,Aq,Bool.false_or,Bool.and_self,if_true];rw [N7,Aq];exact bd 5
    | false=>exact all (w.EV t) Aiv
 rw [if_neg h6,Cf h6,cond_false];by_cases h7:k0=7
 ·rw [eqC h7,cond_true]
  have h2:=hsh.2.1 h7;rw [KI 0 (by omega) (by omega)];simp only [Aq];by_cases hk6:(Cb l 0).kind=6
  ·rw [eqC hk6,cond_true,V9]
   simp only [Aq];cases hq:Ef (Cb l 0).text with
   | false =>
    rw [cond_false,if_neg (λe=>by cases e.2.2)];exact all w self
   | true =>
    rw [cond_true,if_pos ⟨h7,hk6,rfl⟩,KI 1 (by omega) (by omega)];simp only [Aq];unfold UR;have fin:∀ q:Bool,cond q ((G6.f k w.er.1 w.er.2 5 a).bind λr73=>some (w.fs,w.gl,r73.1,r73.2)) (some (w.fs,w.gl,w.er.1,w.er.2))=some (o4 (if q then w.bad 5 a else w)):=λq=>by
     cases q with
     | true =>
      rw [cond_true,N7,Aq,if_pos rfl];unfold o4;rw [Jm.1,Jm.2.1]
     | false=>rfl
    cases tg with
    | true=>exact fin true
    | false =>
     simp only [cond_false,Bool.false_or];by_cases h5:(Cb l 1).kind=5
     ·have e5:((Cb l 1).kind != 5)=false:=by simp [h5]
      have w0:=hgl _ (I2 (l:=l) (i:=0) (by omega)).2;have w1:=hgl _ (I2 (l:=l) (i:=1) (by omega)).2;have z0:(Cb l 0).text.size<=30000:=by
       cases hx:Cb l 0 with
       | mk k1 t1 n1 a1 l1=>rw [hx] at w0;exact w0.1.1
      have z1:(Cb l 1).text.size<=30000:=by
       cases hx:Cb l 1 with
       | mk k1 t1 n1 a1 l1=>rw [hx] at w1;exact w1.1.1
      have zd:(⟨#[46]⟩:Ah).size=1:=rfl;rw [e5,UX (by omega)];simp only [cond_false,Bool.false_or,Aq];rw [UX (by rw [ByteArray.size_append];omega)];simp only [Aq];rw [Br9 k (by omega)];simp only [Aq];exact fin _
     ·have e5:((Cb l 1).kind != 5)=true:=by simp [h5]
      rw [e5];exact fin true
  ·rw [Cf hk6,if_neg (λe=>hk6 e.2.1)]
   exact all w self
 rw [if_neg (λe=>h7 e.1),Cf h7,cond_false];exact all w self
theorem X5:∀ (d k:Nat),500001+2 * d<=k->O9 (RC.at k) d
 | 0,k,_=>λw lo x tg _ _ h=>by have:=Mu x;omega
 | d+1,k,hk=>by
  obtain ⟨k,rfl⟩:∃ m,k=m+2:=⟨k - 2,by omega⟩;exact A3f (by omega) (Ahv (by omega) (X5 d k (by omega)))
def RxS (R:RC) (d:Nat) (lp:Bool) (P:RW->Prop) (x:Tree):Prop:=∀ (w:RW) (lo:List Ah),P w->Fh w lo (sz x) ->
 R.Df w.fs w.gl (w.F:Int) w.ab w.er.1 w.er.2 x.kind x.text x.n x.at_ x.kids lo lp=some ((C9 d w lo x lp).2,o6 (C9 d w lo x lp).1) /\
  Gr w (C9 d w lo x lp).1 (2 * sz x)/\(C9 d w lo x lp).2.length<=lo.length+sz x/\P (C9 d w lo x lp).1
def RxB (R:RC) (d:Nat) (b:Tree):Prop:=∀ (w:RW) (lo:List Ah) (lp:Bool),Fh w lo (sz b) ->
 R.De w.fs w.gl (w.F:Int) w.ab w.er.1 w.er.2 b.kind b.text b.n b.at_ b.kids lo lp=some (o6 (rB d w lo b lp))
theorem Afv {R:RC} {d:Nat} {lp:Bool} {P:RW->Prop}:∀ (t pre:List Tree) (w:RW) (lo:List Ah) (m:Nat),pre.length+t.length<=400000->t.length+1<=m->(∀ x ∈ t,RxS R d lp P x)->P w->Fh w lo (A_ t) ->
  De.l0 m R (pre++t) lp lo (pre.length:Int) w.fs w.gl (w.F:Int) w.ab w.er.1 w.er.2=some (o6 (Hq (λw lo x=>C9 d w lo x lp) w lo t))
 | [],pre,w,lo,m,hl,hm,hw,hP,hb=>by
  obtain ⟨m,rfl⟩:∃ m',m=m'+1:=⟨m - 1,by omega⟩;simp only [De.l0];rw [ltF (by simp)];rfl
 | x :: t,pre,w,lo,m,hl,hm,hw,hP,hb=>by
  obtain ⟨m,rfl⟩:∃ m',m=m'+1:=⟨m - 1,by omega⟩;simp only [AW] at hl hm;simp only [A_] at hb;simp only [De.l0];rw [Hj (by simp;omega),cond_true,Aq];unfold Hq;by_cases he:w.er.1=0
  case neg=>rw [Cf he,if_pos he];rfl
  rw [eqC he,cond_true,if_neg (λh=>h he),HZ,Aq];obtain ⟨h1,h2,h3,h4⟩:=hw x (DN ..) w lo hP (hb.weak (by omega));rw [h1,Aq,wiC _ (by omega) (by omega)];have hlo:=hb.lo;have hb':Fh (C9 d w lo x lp).1 (C9 d w lo x lp).2 (A_ t):=by
   have:=hb.step h2 (by omega);exact ⟨this.F,this.pw,by omega,this.ab⟩
  have ih:=Afv t (pre++[x]) (C9 d w lo x lp).1 (C9 d w lo x lp).2 m (by simp;omega) (by omega) (λy hy=>hw y (EI _ hy)) h4 hb';rw [C7,BQ] at ih;exact ih
theorem Afw {k d:Nat} {lp:Bool} {P:RW->Prop} (hk:500000<=k) {t:Ah} {n a:Int} {l:List Tree} {w:RW} {lo:List Ah} (hw:∀ x ∈ l,RxS (RC.at k) d lp P x) (hP:P w) (hb:Fh w lo (A_ l)) :
  (RC.at (k+1)).De w.fs w.gl (w.F:Int) w.ab w.er.1 w.er.2 20 t n a l lo lp=some (o6 (rB (d+1) w lo (.mk 20 t n a l) lp)):=by
 have:=Fr l;have:=hb.pw;show De.l0 k (RC.at k) l lp lo 0 w.fs w.gl (w.F:Int) w.ab w.er.1 w.er.2=_;unfold rB;exact Afv l [] w lo k (by simp only [Bp];omega) (by omega) hw hP hb
theorem Afg {R:RC} {d:Nat} (hR:O9 R d) (n:Int) (J:List E5->Av->Int->Av->Int->Int->Option (Av×List E5×Av×Int×Av×Int×Int)):∀ (t pre:List Tree) (w:RW) (lo:Av) (m:Nat),pre.length+t.length<=400000->t.length+1<=m->(∀ x ∈ t,IsX x/\gw x/\sz x<=d)->Fh w lo (A_ t) ->
  Df.l0 m R (w.F:Int) w.ab n (pre++t) lo J (pre.length:Int) w.fs w.gl w.er.1 w.er.2=J (IG (λw x b=>Cn d lo w x b) n pre.length w t).fs (IG (λw x b=>Cn d lo w x b) n pre.length w t).gl (w.F:Int) w.ab (IG (λw x b=>Cn d lo w x b) n pre.length w t).er.1 (IG (λw x b=>Cn d lo w x b) n pre.length w t).er.2
 | [],pre,w,lo,m,hl,hm,hw,hb=>by
  obtain ⟨m,rfl⟩:∃ m',m=m'+1:=⟨m - 1,by omega⟩;simp only [Df.l0];rw [ltF (by simp)];rfl
 | x :: t,pre,w,lo,m,hl,hm,hw,hb=>by
  obtain ⟨m,rfl⟩:∃ m',m=m'+1:=⟨m - 1,by omega⟩;simp only [AW] at hl hm;simp only [A_] at hb;obtain ⟨h1,h2,h3⟩:=hw x (DN ..);have hg:Gr w (Cn d lo w x (decide ((pre.length:Int) < n))) (sz x):=MB;have ih:=Afg hR n J t (pre++[x]) (Cn d lo w x (decide ((pre.length:Int) < n))) lo m (by simp;omega) (by omega) (λy hy=>hw y (EI _ hy)) (hb.step hg (by omega));rw [C7,BQ,hg.F,hg.ab] at ih;simp only [Df.l0];rw [Hj (by simp;omega),HZ];simp only [cond_true,Aq];rw [hR w lo x _ h1 h2 h3 (hb.weak (by omega)),Aq,wiC _ (by omega) (by omega)];unfold IG;exact ih
def Jt (d:Nat) (lo:List Ah) (lp:Bool) (w:RW) (l:List Tree):RW:=l.foldl (λw x=>if x.kind=20 then rB d w lo x lp else Cn d lo w x false) w
theorem Aku {R:RC} {d:Nat} {lp:Bool} (hR:O9 R d) (J:List E5->Av->Int->Av->Int->Int->Option (Av×List E5×Av×Int×Av×Int×Int)):∀ (t pre:List Tree) (w:RW) (lo:Av) (m:Nat),pre.length+t.length<=400000->t.length+1<=m ->
  (∀ x ∈ t,(FD x/\RxB R d x)\/(IsE x/\gw x/\sz x<=d))->Fh w lo (A_ t) ->
  Df.l1 m R (pre++t) lo lp J (pre.length:Int) w.fs w.gl (w.F:Int) w.ab w.er.1 w.er.2=J (Jt d lo lp w t).fs (Jt d lo lp w t).gl ((Jt d lo lp w t).F:Int) (Jt d lo lp w t).ab (Jt d lo lp w t).er.1 (Jt d lo lp w t).er.2
 | [],pre,w,lo,m,hl,hm,hw,hb=>by
  obtain ⟨m,rfl⟩:∃ m',m=m'+1:=⟨m - 1,by omega⟩;simp only [Df.l1];rw [ltF (by simp)];rfl
 | x :: t,pre,w,lo,m,hl,hm,hw,hb=>by
  obtain ⟨m,rfl⟩:∃ m',m=m'+1:=⟨m - 1,by omega⟩;simp only [AW] at hl hm;simp only [A_] at hb;simp only [Df.l1,AM];rw [Hj (by simp;omega),HZ];simp only [cond_true,Aq];rw [wiC _ (by omega) (by omega)];have go:∀ w':RW,Gr w w' (sz x)->Df.l1 m R (pre++x :: t) lo lp J ((pre.length:Int)+1) w'.fs w'.gl (w'.F:Int) w'.ab w'.er.1 w'.er.2=J (Jt d lo lp w' t).fs (Jt d lo lp w' t).gl ((Jt d lo lp w' t).F:Int) (Jt d lo lp w' t).ab (Jt d lo lp w' t).er.1 (Jt d lo lp w' t).er.2:=λw' hg=>by
   have ih:=Aku (lp:=lp) hR J t (pre++[x]) w' lo m (by simp;omega) (by omega) (λy hy=>hw y (EI _ hy)) (hb.step hg (by omega));rw [C7,BQ] at ih;exact ih
  have e:Jt d lo lp w (x :: t)=Jt d lo lp (if x.kind=20 then rB d w lo x lp else Cn d lo w x false) t:=rfl;rw [e];rcases hw x (DN ..) with ⟨h1,h2⟩ | ⟨h1,h2,h3⟩;rw [eqC h1.kind,cond_true,h2 w lo lp (hb.weak (by omega)),Aq,if_pos h1.kind];exact go _ ((Q9 d).2 x h1 w lo lp);rw [Cf h1.kind,cond_false,hR w lo x false (.inl h1) h2 h3 (hb.weak (by omega)),Aq,if_neg h1.kind];have hg:Gr w (Cn d lo w x false) (sz x):=MB;have:=go _ hg;rw [hg.F,hg.ab] at this;exact this
theorem KA {w:RW} {a:Int} {lo:List Ah} {l:List Tree} {n:Nat}:(w.brings a lo l n).1.gl=w.gl/\(w.brings a lo l n).1.F=w.F/\(w.brings a lo l n).1.ab=w.ab:=by
 refine ⟨?_,MA.1.F,MA.1.ab⟩;show ((Ga w l).few a _ 60).gl=w.gl;rw [El.2.1,P6.2.1]
theorem KE {w:RW} {a c m c' m':Int}:((w.few a c m).few a c' m').fs=w.fs/\((w.few a c m).few a c' m').gl=w.gl/\((w.few a c m).few a c' m').F=w.F/\((w.few a c m).few a c' m').ab=w.ab :=
 ⟨El.1.trans El.1,El.2.1.trans El.2.1,El.2.2.1.trans El.2.2.1,El.2.2.2.trans El.2.2.2⟩
theorem Bt3 {k d:Nat} (hk:500000<=k) (hE:O9 (RC.at k) d) (hL:RxL (RC.at k) d) (hB:∀ b,FD b->gw b->sz b<=d->RxB (RC.at k) d b):∀ x,IsS x->gw x->sz x<=d+1->∀ (w:RW) (lo:List Ah) (lp:Bool),Fh w lo (sz x) ->
  (RC.at (k+1)).Df w.fs w.gl (w.F:Int) w.ab w.er.1 w.er.2 x.kind x.text x.n x.at_ x.kids lo lp=some ((C9 (d+1) w lo x lp).2,o6 (C9 (d+1) w lo x lp).1):=λx hx hw hd w lo lp hb=>by
 cases x with
 | mk k0 t n a l0 =>
 obtain ⟨_,hgl⟩:=hw;have hgl:=JV.1 hgl;simp only [sz] at hd hb;have hlen:=Fr l0;have hp:=hb.pw;have hlo:=hb.lo;show Df.g (RC.at k) k w.fs w.gl (w.F:Int) w.ab w.er.1 w.er.2 k0 t n a l0 lo lp=_;have XS:∀ {l:List Tree},(∀ x ∈ l,IsE x/\x ∈ l0)->∀ {w':RW},Fh w' lo (A_ l)->(RC.at k).DA w'.fs w'.gl (w'.F:Int) w'.ab w'.er.1 w'.er.2 l lo=some (o4 (exF d lo w' l)):=λ{l} hl {w'} hb=>hL w' lo _ (λx hx=>⟨.inl (hl x hx).1,hgl x (hl x hx).2,by have:=IJ (hl x hx).2;omega⟩) hb;have Q5:∀ {c c':Int} {n:Nat},n<=A_ l0+1->Fh ((w.few a c 50).few a c' 50) lo n:=λhn=>(hb.weak (m:=0+_) (by omega)).step OR (Nat.le_refl _);cases hx with
 | @loc a t l m hl hm =>
  rw [Arx];unfold Df.g AM;dsimp only;rw [DY] at hb Q5;have hml:(l++m).length=l.length+m.length:=BQ;have hl1:=Fr l;rw [Cf (by decide),cond_false,eqC rfl,cond_true,KF,Aq,KF (w:=w.few a (l.length:Nat) 50),Aq,wiC _ (by omega) (by omega)];rw [Jh l.length (l++m).length (by omega) (by omega) (by omega) (Nat.le_refl _),Aq,List.drop_left,hml,Nat.add_sub_cancel_left,List.take_of_length_le (Nat.le_refl _)];have h1:=XS (l:=m) (λx hx=>⟨hm x hx,by simp [hx]⟩) (Q5 (c:=(l.length:Nat)) (c':=((l++m).length - (l.length:Nat):Int)) (n:=A_ m) (by omega));rw [KE.1,KE.2.1,KE.2.2.1,KE.2.2.2] at h1;rw [hml] at h1;rw [h1,Aq,Jh 0 l.length (by omega) (by omega) (Nat.zero_le _) (by rw [hml];omega),Aq];simp only [List.drop_zero,Nat.sub_zero,List.take_left];have hg:Gr w (exF d lo ((w.few a (l.length:Nat) 50).few a ((l.length+m.length:Nat) - (l.length:Nat):Int) 50) m) (0+A_ m):=OR.trans Md;have h2:=WF (w:=exF d lo ((w.few a (l.length:Nat) 50).few a ((l.length+m.length:Nat) - (l.length:Nat):Int) 50) m) (a:=a) (k:=k) 21 t (l.length:Nat) (l++m) lo l 0 ((hb.weak (m:=A_ m+0) (by omega)).step hg (by omega)).F (by omega) (by omega) (by omega) hk;rw [hg.F] at h2;unfold o4;dsimp only;rw [show ((0:Nat):Int)=0 from rfl] at h2;rw [h2,Aq];unfold o4w o6;rw [KA.1,KA.2.1,KA.2.2,hg.F,hg.ab]
 | @asg a t l m hl hl2 hm hm2 =>
  rw [Ary];have hml:(l++m).length=l.length+m.length:=BQ;unfold Df.g AM;dsimp only;rw [Cf (by decide),cond_false,Cf (by decide),cond_false,eqC rfl,cond_true,KF,Aq,KF (w:=w.few a (l.length:Nat) 50),Aq,wiC _ (by omega) (by omega)];have h1:=Afg hE (l.length:Nat) (λl4 l9 x14 l15 x20 x21=>some (lo,l4,l9,x14,l15,x20,x21)) (l++m) [] ((w.few a (l.length:Nat) 50).few a ((l++m).length - (l.length:Nat)) 50) lo k (by simp only [Bp];omega) (by omega) (λx hx=>⟨.inl (by
   rcases EH.1 hx with hx | hx;exact (hl2 x hx).1;exact hm2 x hx),hgl x hx,by have:=IJ hx;omega⟩) (Q5 (by omega))
  rw [KE.1,KE.2.1,KE.2.2.1,KE.2.2.2] at h1;refine Eq.trans h1 ?_;have hg:Gr w (IG (λw x b=>Cn d lo w x b) (l.length:Nat) 0 ((w.few a (l.length:Nat) 50).few a ((l++m).length - (l.length:Nat)) 50) (l++m)) _:=OR.trans XD;unfold o6;rw [hg.F,hg.ab];rfl
 | @run n a t x hx hq =>
  rw [Arz];unfold Df.g AM;dsimp only;rw [Cf (by decide),cond_false,Cf (by decide),cond_false,Cf (by decide),cond_false,eqC rfl,cond_true];rw [XS (l:=[x]) (λy hy=>by obtain rfl:=EZ.1 hy;exact ⟨hx,by simp⟩) (hb.weak (by omega)),Aq];have hg:Gr w (exF d lo w [x]) _:=Md;unfold o6 o4;rw [hg.F,hg.ab]
 | @if_ n a t l hl =>
  rw [Ar0];unfold Df.g AM;dsimp only;rw [Cf (by decide),cond_false,Cf (by decide),cond_false,Cf (by decide),cond_false,Cf (by decide),cond_false,eqC rfl,cond_true];have h1:=Aku (lp:=lp) hE (λl4 l9 x14 l15 x20 x21=>some (lo,l4,l9,x14,l15,x20,x21)) l0 [] w lo k (by simp only [Bp];omega) (by omega) (λx hx=>by
   have:=IJ hx;rcases IsR.kinds hl x hx with h | h;exact .inl ⟨h,hB x h (hgl x hx) (by omega)⟩;exact .inr ⟨h,hgl x hx,by omega⟩) (hb.weak (by omega))
  exact h1
 | @while_ n a t x b hx hq =>
  rw [Ar1];simp only [A_] at hb hd;unfold Df.g AM;dsimp only;rw [Cf (by decide),cond_false,Cf (by decide),cond_false,Cf (by decide),cond_false,Cf (by decide),cond_false,Cf (by decide),cond_false,eqC rfl,cond_true];rw [show B7 [x,b] (0:Int)=some x from rfl,Aq,hE w lo x false (.inl hx) (hgl x (by simp)) (by omega) (hb.weak (by omega)),Aq,show B7 [x,b] (1:Int)=some b from rfl,Aq];have hg:Gr w (Cn d lo w x false) (sz x):=MB;have h2:=hB b hq (hgl b (by simp)) (by omega) (Cn d lo w x false) lo true ((hb.weak (m:=sz x+sz b) (by omega)).step hg (by omega));rw [hg.F,hg.ab] at h2;unfold o4;dsimp only;rw [h2,Aq]
 | @for_ n a t x b l hl he hq =>
  rw [Ar2];rw [DY] at hb hd;simp only [A_] at hb hd;have hl1:=Fr l;have hml:(x :: l++[b]).length=l.length+2:=by simp
  unfold Df.g AM;dsimp only;rw [Cf (by decide),cond_false,Cf (by decide),cond_false,Cf (by decide),cond_false,Cf (by decide),cond_false,Cf (by decide),cond_false,Cf (by decide),cond_false,eqC rfl,cond_true,wiC _ (by omega) (by omega)];rw [Jh 1 (l.length+1) (by omega) (by rw [hml];omega) (by omega) (by rw [hml];omega),Aq,show ((x :: l++[b]).drop 1).take (l.length+1 - 1)=l by simp];rw [XS (l:=l) (λy hy=>⟨he y hy,by simp [hy]⟩) (hb.weak (by omega)),Aq,KI (l.length+1) (by rw [hml];omega) (by rw [hml];omega),show Cb (x :: l++[b]) (l.length+1)=b from Tc (l:=x :: l),Aq];rw [Jh 0 1 (by omega) (by omega) (by omega) (by rw [hml];omega),Aq,show ((x :: l++[b]).drop 0).take (1 - 0)=[x] by simp];have hg:Gr w (exF d lo w l) (A_ l):=Md;have hb2:=(hb.weak (m:=A_ l+sz b) (by omega)).step hg (by omega);have hx1:=Mu x;have h2:=WF (w:=exF d lo w l) (a:=a) (k:=k) 26 t n (x :: l++[b]) lo [x] 3 hb2.F (by simp) (by omega) (by omega) hk;rw [hg.F] at h2;unfold o4;dsimp only;rw [show ((3:Nat):Int)=3 from rfl] at h2;rw [h2,Aq];obtain ⟨g1,g2⟩:=MA (w:=exF d lo w l) (a:=a) (lo:=lo) (l:=[x]) (n:=3);simp only [AW,Bp] at g2;have hb3:Fh ((exF d lo w l).brings a lo [x] 3).1 ((exF d lo w l).brings a lo [x] 3).2 (sz b):=by
   have:=(hb2.weak (m:=0+(sz b)) (by omega)).step g1 (by omega);exact ⟨this.F,this.pw,by have:=hb.lo;omega,this.ab⟩
  have h3:=hB b hq (hgl b (by simp)) (by omega) _ _ true hb3;rw [KA.1,KA.2.1,KA.2.2,hg.F,hg.ab] at h3;unfold o4w;dsimp only;rw [h3,Aq]
 | @forIn a t b l m hl hm hm2 hq =>
  rw [Ar5];rw [DY,DY] at hb hd Q5;simp only [A_] at hb hd Q5;have hl1:=Fr l;have hm1:=Fr m;have hml:(l++m++[b]).length=l.length+m.length+1:=by simp [Nat.add_assoc]
  unfold Df.g AM;dsimp only;rw [Cf (by decide),cond_false,Cf (by decide),cond_false,Cf (by decide),cond_false,Cf (by decide),cond_false,Cf (by decide),cond_false,Cf (by decide),cond_false,Cf (by decide),cond_false,eqC rfl,cond_true,KF,Aq,wiC (((l++m++[b]).length:Int) - 1) (by omega) (by omega),wiC _ (by omega) (by omega),KF (w:=w.few a (l.length:Nat) 50),Aq];rw [Jh l.length (l.length+m.length) (by omega) (by rw [hml];omega) (by omega) (by rw [hml];omega),Aq,show ((l++m++[b]).drop l.length).take (l.length+m.length - l.length)=m by rw [C7,List.drop_left,Nat.add_sub_cancel_left,List.take_left]];have h1:=XS (l:=m) (λx hx=>⟨hm2 x hx,by simp [hx]⟩) (Q5 (c:=(l.length:Nat)) (c':=((l++m++[b]).length - 1 - (l.length:Nat):Int)) (n:=A_ m) (by omega));rw [KE.1,KE.2.1,KE.2.2.1,KE.2.2.2] at h1;rw [h1,Aq,KI (l.length+m.length) (by rw [hml];omega) (by rw [hml];omega),show Cb (l++m++[b]) (l.length+m.length)=b by rw [<- BQ];exact Tc,Aq];rw [Jh 0 l.length (by omega) (by omega) (Nat.zero_le _) (by rw [hml];omega),Aq,show ((l++m++[b]).drop 0).take (l.length - 0)=l by rw [List.drop_zero,Nat.sub_zero,C7,List.take_left]];have hg:Gr w (exF d lo ((w.few a (l.length:Nat) 50).few a ((l++m++[b]).length - 1 - (l.length:Nat):Int) 50) m) (0+A_ m):=OR.trans Md;have hb2:=(hb.weak (m:=A_ m+(sz b+l.length)) (by omega)).step hg (by omega);have hb4:lo.length+(sz b+l.length+3)<=500000:=by have:=hb.lo;omega
  have h2:=WF (w:=exF d lo ((w.few a (l.length:Nat) 50).few a ((l++m++[b]).length - 1 - (l.length:Nat):Int) 50) m) (a:=a) (k:=k) 27 t (l.length:Nat) (l++m++[b]) lo l 3 hb2.F (by omega) (by omega) (by omega) hk;rw [hg.F] at h2;unfold o4;dsimp only;rw [show ((3:Nat):Int)=3 from rfl] at h2;rw [h2,Aq];obtain ⟨g1,g2⟩:=MA (w:=exF d lo ((w.few a (l.length:Nat) 50).few a ((l++m++[b]).length - 1 - (l.length:Nat):Int) 50) m) (a:=a) (lo:=lo) (l:=l) (n:=3);have hne:1<=m.length:=by cases m with | nil=>exact absurd rfl hm | cons _ _=>simp
  have hb3:Fh ((exF d lo ((w.few a (l.length:Nat) 50).few a ((l++m++[b]).length - 1 - (l.length:Nat):Int) 50) m).brings a lo l 3).1 ((exF d lo ((w.few a (l.length:Nat) 50).few a ((l++m++[b]).length - 1 - (l.length:Nat):Int) 50) m).brings a lo l 3).2 (sz b):=by
   have:=(hb2.weak (m:=0+(sz b)) (by omega)).step g1 (by omega);exact ⟨this.F,this.pw,by have:=hb.lo;omega,this.ab⟩
  have h3:=hB b hq (hgl b (by simp)) (by omega) _ _ true hb3;rw [KA.1,KA.2.1,KA.2.2,hg.F,hg.ab] at h3;unfold o4w;dsimp only;rw [h3,Aq]
 | @do_ n a t b hq =>
  rw [Ar7];simp only [A_] at hb hd;unfold Df.g AM;dsimp only;rw [Cf (by decide),cond_false,Cf (by decide),cond_false,Cf (by decide),cond_false,Cf (by decide),cond_false,Cf (by decide),cond_false,Cf (by decide),cond_false,Cf (by decide),cond_false,Cf (by decide),cond_false,eqC rfl,cond_true];rw [show B7 [b] (0:Int)=some b from rfl,Aq,hB b hq (hgl b (by simp)) (by omega) w lo lp (hb.weak (by omega)),Aq]
 | @break_ n a t =>
  rw [Ar8];unfold Df.g AM;dsimp only;rw [Cf (by decide),cond_false,Cf (by decide),cond_false,Cf (by decide),cond_false,Cf (by decide),cond_false,Cf (by decide),cond_false,Cf (by decide),cond_false,Cf (by decide),cond_false,Cf (by decide),cond_false,Cf (by decide),cond_false,eqC rfl,cond_true];cases lp with
  | true=>rfl
  | false =>
   rw [Bool.not_false,cond_true,N7,Aq];show _=some (lo,o6 (w.bad 5 a));unfold o6;rw [Jm.1,Jm.2.1,Jm.2.2.1,Jm.2.2.2]
 | @ret n a t l hl =>
  rw [Ar9];unfold Df.g AM;dsimp only;rw [Cf (by decide),cond_false,Cf (by decide),cond_false,Cf (by decide),cond_false,Cf (by decide),cond_false,Cf (by decide),cond_false,Cf (by decide),cond_false,Cf (by decide),cond_false,Cf (by decide),cond_false,Cf (by decide),cond_false,Cf (by decide),cond_false,eqC rfl,cond_true,KF,Aq];have h1:=XS (l:=l0) (w':=w.few a (l0.length:Nat) 50) (λx hx=>⟨hl x hx,hx⟩) ((hb.weak (m:=0+A_ l0) (by omega)).step Me (Nat.le_refl _));rw [El.1,El.2.1,El.2.2.1,El.2.2.2] at h1;rw [h1,Aq];have hg:Gr w (exF d lo (w.few a (l0.length:Nat) 50) l0) _:=Me.trans Md;unfold o6 o4;rw [hg.F,hg.ab]
def Dh (a0:Int) (s:Bo):RW:=⟨(noB,a0,0,s.sl,s.cs) :: s.fs.tail,s.gl,0,[],(0,0)⟩
theorem Aus {a0:Int} {s s':Bo} (h:s'.fs=s.fs):(Dh a0 s).put s'=Dh a0 s':=by
 unfold Dh RW.put RW.mod;rw [h];rfl
def Rt (a0:Int) (x:PC Bo) (w':RW):Prop:=match x with | .ok s=>w'=Dh a0 s | .bad e=>w'.er=e/\e.1≠0
theorem modify_last {α:Type} (x:α) (f:α->α):∀ l:List α,(l++[x]).modify l.length f=l++[f x]
 | []=>rfl
 | y :: l=>by
  show y :: (l++[x]).modify l.length f=y :: (l++[f x]);rw [modify_last x f l]
def fnR (d:Nat) (t:Ah) (a n:Int) (lo:List Ah) (ps:List Tree) (b:Tree) (w:RW):RW :=
 let w:=(w.few a n 50).EV t;let w:RW:={ w with ab:=lo,F:=w.fs.length,fs:=w.fs++[(t,a,n,0,[])] };let r:=w.brings a [] ps 0
 { rB d r.1 r.2 b false with F:=0,ab:=[] }
theorem Aie {d:Nat} {t:Ah} {a n:Int} {lo:List Ah} {ps:List Tree} {b:Tree} {w:RW} (h:w.er.1≠0):(fnR d t a n lo ps b w).er=w.er:=by
 have e1:(w.few a n 50).er=w.er:=RW.S3 h;have e2:=RW.OH (w:={ (w.few a n 50).EV t with ab:=lo,F:=((w.few a n 50).EV t).fs.length,fs:=((w.few a n 50).EV t).fs++[(t,a,n,0,[])] }) (a:=a) (lo:=[]) (l:=ps) (n:=0) (by show (w.few a n 50).er.1≠0;rw [e1];exact h);have e2:_=(w.few a n 50).er:=e2;show (rB d _ _ b false).er=w.er;rw [Oi (by rw [e2,e1];exact h),e2,e1]
theorem Bjy {d:Nat} {ab:List Ah} {s:Bo} {t:Ah} {n a:Int} {l:List Tree} {tg:Bool}:Bq (d+1) ab s (.mk 31 t n a l) tg =
  (Du a (s.fs.length:Nat) 100).th λ_=>if Ef t then .bad (5,a) else (Du a n 50).th λ_=>(Fv a 0 [] (l.take n.toNat)).th λr =>
   (Bq d s.lo ⟨s.fs,EU s.gl t,r.1,[],r.2,0⟩ (Cb l n.toNat) false).th λs'=>.ok { s with fs:=s'.fs++[(t,a,n,s'.sl,s'.cs)],gl:=s'.gl }:=rfl
theorem A4l {d:Nat} {a0 a:Int} {s:Bo} {t:Ah} {l:List Tree} {b:Tree} (hb:FD b) (gb:gw b) (hd:sz b<=d) (hf:s.fs≠[]) :
  Rt a0 (Bq (d+1) [] s (.mk 31 t (l.length:Nat) a (l++[b])) false) (C9 (d+1) (Dh a0 s) s.lo (.mk 31 t (l.length:Nat) a (l++[b])) false).1 /\
   ∀ s',Bq (d+1) [] s (.mk 31 t (l.length:Nat) a (l++[b])) false=.ok s'->s'.lo=s.lo/\s'.lp=s.lp/\s'.fs≠[]:=by
 have e0:C9 (d+1) (Dh a0 s) s.lo (.mk 31 t (l.length:Nat) a (l++[b])) false =
   (fnR d t a (l.length:Nat) s.lo ((l++[b]).take ((l.length:Nat):Int).toNat) (Cb (l++[b]) ((l.length:Nat):Int).toNat) (if Ef t then ((Dh a0 s).few a ((Dh a0 s).fs.length:Nat) 100).bad 5 a else (Dh a0 s).few a ((Dh a0 s).fs.length:Nat) 100),s.lo):=rfl
 rw [e0,Bjy];simp only [Int.toNat_natCast,List.take_left,Tc];have A1s:(Dh a0 s).fs.length=s.fs.length:=by
  cases hq:s.fs with
  | nil=>exact absurd hq hf
  | cons x r=>unfold Dh;simp [hq]
 rw [A1s];unfold Du;by_cases h1:((s.fs.length:Nat):Int) > 100;rw [if_pos h1];have er1:((Dh a0 s).few a (s.fs.length:Nat) 100).er=(6,a):=by unfold RW.few;rw [if_pos h1];rfl
 have er2:(if Ef t then ((Dh a0 s).few a (s.fs.length:Nat) 100).bad 5 a else (Dh a0 s).few a (s.fs.length:Nat) 100).er=(6,a):=by
  split;rw [RW.US (by rw [er1];exact MV),er1];exact er1
 exact ⟨⟨by rw [Aie (by rw [er2];exact MV),er2],MV⟩,λs' e=>(by cases e)⟩;rw [if_neg h1];have e1:(Dh a0 s).few a (s.fs.length:Nat) 100=Dh a0 s:=by unfold RW.few;rw [if_neg h1]
 rw [e1];show Rt a0 (if Ef t then _ else _) _/\∀ s',(if Ef t then _ else _)=_->_;cases hk:Ef t with
 | true=>exact ⟨⟨Aie (w:=(Dh a0 s).bad 5 a) ne5,ne5⟩,λs' e=>(by cases e)⟩
 | false =>
 simp only [Bool.false_eq_true,if_false];by_cases h2:((l.length:Nat):Int) > 50;rw [if_pos h2];refine ⟨?_,λs' e=>(by cases e)⟩;have er1:((Dh a0 s).few a (l.length:Nat) 50).er=(6,a):=by unfold RW.few;rw [if_pos h2];rfl
 have e2:=RW.OH (w:={ ((Dh a0 s).few a (l.length:Nat) 50).EV t with ab:=s.lo,F:=(((Dh a0 s).few a (l.length:Nat) 50).EV t).fs.length,fs:=(((Dh a0 s).few a (l.length:Nat) 50).EV t).fs++[(t,a,((l.length:Nat):Int),0,[])] }) (a:=a) (lo:=[]) (l:=l) (n:=0) (by show ((Dh a0 s).few a (l.length:Nat) 50).er.1≠0;rw [er1];exact MV);have e2:_=((Dh a0 s).few a (l.length:Nat) 50).er:=e2;refine ⟨?_,MV⟩;show (rB d _ _ b false).er=(6,a);rw [Oi (by rw [e2,er1];exact MV),e2,er1];rw [if_neg h2];have e2:(Dh a0 s).few a (l.length:Nat) 50=Dh a0 s:=by unfold RW.few;rw [if_neg h2]
 obtain ⟨w,hw⟩:∃ w:RW,w={ (Dh a0 s).EV t with ab:=s.lo,F:=((Dh a0 s).EV t).fs.length,fs:=((Dh a0 s).EV t).fs++[(t,a,((l.length:Nat):Int),0,[])] }:=⟨_,rfl⟩;have key:fnR d t a (l.length:Nat) s.lo l b (Dh a0 s)={ rB d (w.brings a [] l 0).1 (w.brings a [] l 0).2 b false with F:=0,ab:=[] }:=by
  subst hw;unfold fnR;rw [e2]
 rw [key];have her:w.er.1=0:=by subst hw;rfl
 have hF:w.F < w.fs.length:=by subst hw;simp
 have hab:w.ab=s.lo:=by subst hw;rfl
 have hput:∀ s':Bo,w.put s'={ w with fs:=((noB,a0,0,s.sl,s.cs) :: s.fs.tail)++[(t,a,((l.length:Nat):Int),s'.sl,s'.cs)],gl:=s'.gl }:=λs'=>by
  subst hw;show RW.mk (List.modify _ _ _) _ _ _ _=RW.mk _ _ _ _ _;rw [show ((Dh a0 s).EV t).fs.length=((noB,a0,0,s.sl,s.cs) :: s.fs.tail:List E5).length from rfl];show RW.mk (List.modify (((noB,a0,0,s.sl,s.cs) :: s.fs.tail)++[(t,a,((l.length:Nat):Int),0,[])]) _ _) _ _ _ _=RW.mk _ _ _ _ _;rw [modify_last];rfl
 have hw1:w.put ⟨s.fs,EU s.gl t,0,[],[],0⟩=w:=by
  rw [hput];subst hw;rfl
 obtain ⟨b1,b2⟩:=Xs (w:=w) (s:=⟨s.fs,EU s.gl t,0,[],[],0⟩) (a:=a) (x:=l) her;simp only [hw1] at b1 b2;let g2:Bo->PC Bo:=λs'=>.ok { s with fs:=s'.fs++[(t,a,((l.length:Nat):Int),s'.sl,s'.cs)],gl:=s'.gl };let g1:Int×List Ah->PC Bo:=λr=>(Bq d s.lo ⟨s.fs,EU s.gl t,r.1,[],r.2,0⟩ b false).th g2;show Rt a0 (PR.th (Fv a 0 [] l) g1) { rB d (w.brings a [] l 0).1 (w.brings a [] l 0).2 b false with F:=0,ab:=[] }/\∀ s',PR.th (Fv a 0 [] l) g1=.ok s'->s'.lo=s.lo/\s'.lp=s.lp/\s'.fs≠[];cases hr:Fv a 0 [] l with
 | bad e =>
  obtain ⟨c1,c2⟩:=b2 _ hr;refine ⟨⟨?_,c2⟩,λs' e=>(by cases e)⟩;show (rB d (w.brings a [] l 0).1 _ b false).er=e;rw [Oi (by rw [c1];exact c2),c1]
 | ok r =>
  rw [b1 _ hr];obtain ⟨q1,q2⟩:=((Abu her hF hab d).2 false 0 b (Int.le_refl _) ⟨λh=>by (cases h),λh=>absurd rfl h⟩ hb gb hd) ⟨s.fs,EU s.gl t,r.1,[],r.2,0⟩ rfl;have ep:w.put { (⟨s.fs,EU s.gl t,0,[],[],0⟩:Bo) with sl:=r.1 }=w.put ⟨s.fs,EU s.gl t,r.1,[],r.2,0⟩:=rfl;show Rt a0 (PR.th (Bq d s.lo ⟨s.fs,EU s.gl t,r.1,[],r.2,0⟩ b false) g2) { rB d (w.put { (⟨s.fs,EU s.gl t,0,[],[],0⟩:Bo) with sl:=r.1 }) r.2 b false with F:=0,ab:=[] }/\∀ s',PR.th (Bq d s.lo ⟨s.fs,EU s.gl t,r.1,[],r.2,0⟩ b false) g2=.ok s'->s'.lo=s.lo/\s'.lp=s.lp/\s'.fs≠[];rw [ep];cases hn:Bq d s.lo ⟨s.fs,EU s.gl t,r.1,[],r.2,0⟩ b false with
  | bad e =>
   rw [hn] at q1;exact ⟨⟨q1.1,q1.2⟩,λs' e=>(by cases e)⟩
  | ok s' =>
   rw [hn] at q1;have q1:rB d (w.put ⟨s.fs,EU s.gl t,r.1,[],r.2,0⟩) r.2 b false=w.put s':=q1;obtain ⟨_,k2,_⟩:=q2 _ hn;have k2:s'.fs=s.fs:=k2;refine ⟨?_,λs2 e=>by cases e;exact ⟨rfl,rfl,by simp⟩⟩;show ({ rB d (w.put ⟨s.fs,EU s.gl t,r.1,[],r.2,0⟩) r.2 b false with F:=0,ab:=[] }:RW)=Dh a0 { s with fs:=s'.fs++[(t,a,((l.length:Nat):Int),s'.sl,s'.cs)],gl:=s'.gl };rw [q1,hput,k2];unfold Dh;have et:(s.fs++[(t,a,((l.length:Nat):Int),s'.sl,s'.cs)]).tail=s.fs.tail++[(t,a,((l.length:Nat):Int),s'.sl,s'.cs)]:=by
    cases hq:s.fs with
    | nil=>exact absurd hq hf
    | cons x r=>rfl
   simp only [et];subst hw;rfl
theorem Agh {d:Nat} {a0:Int}:∀ {l:List Tree} {s:Bo},s.lp=0->s.fs≠[]->(∀ x ∈ l,IsS x\/O4 x)->MC l->A_ l<=d+1 ->
  Rt a0 (CZ (λs x=>Bq (d+1) [] s x false) s l) (Hq (λw lo x=>C9 (d+1) w lo x false) (Dh a0 s) s.lo l)
 | [],s,_,_,_,_,_=>rfl
 | x :: l,s,hp,hf,hx,hg,hd=>by
  simp only [A_] at hd;have ht:=λ(s':Bo) (hp:s'.lp=0) (hf:s'.fs≠[])=>Agh (d:=d) (a0:=a0) (l:=l) hp hf (λy hy=>hx y (EI _ hy)) hg.2 (by omega);have H:Rt a0 (Bq (d+1) [] s x false) (C9 (d+1) (Dh a0 s) s.lo x false).1/\∀ s',Bq (d+1) [] s x false=.ok s'->(C9 (d+1) (Dh a0 s) s.lo x false).2=s'.lo/\s'.lp=0/\s'.fs≠[]:=by
   rcases hx x (DN ..) with h | h;obtain ⟨q1,q2⟩:=(Abu (w:=Dh a0 s) (ab:=[]) rfl (Nat.zero_lt_succ _) rfl (d+1)).1 false 0 x (Int.le_refl _) ⟨λh=>by (cases h),λh=>absurd rfl h⟩ h hg.1 (by omega) s hp;rw [Aus rfl] at q1 q2;refine ⟨?_,λs' e=>?_⟩;cases hn:Bq (d+1) [] s x false with
   | bad e=>rw [hn] at q1;exact q1
   | ok s' =>
    rw [hn] at q1;have q1:(C9 (d+1) (Dh a0 s) s.lo x false).1=(Dh a0 s).put s':=q1;show (C9 (d+1) (Dh a0 s) s.lo x false).1=Dh a0 s';rw [q1,Aus (q2 _ hn).2.1]
   obtain ⟨k1,k2,k3⟩:=q2 _ e;exact ⟨k1,k3.trans hp,by rw [k2];exact hf⟩;cases h with
   | @fn a t l' b hb =>
    simp only [sz] at hd;rw [DY] at hd;simp only [A_] at hd;obtain ⟨_,hgl⟩:=hg.1;obtain ⟨q1,q2⟩:=A4l (d:=d) (a0:=a0) (a:=a) (s:=s) (t:=t) (l:=l') hb (JV.1 hgl b (by simp)) (by omega) hf;refine ⟨q1,λs' e=>?_⟩;obtain ⟨k1,k2,k3⟩:=q2 _ e;exact ⟨k1.symm,k2.trans hp,k3⟩
  obtain ⟨h1,h2⟩:=H;unfold CZ Hq;rw [if_neg (show ¬ (Dh a0 s).er.1≠0 from λh=>h rfl)];cases hn:Bq (d+1) [] s x false with
  | bad e =>
   rw [hn] at h1;obtain ⟨c1,c2⟩:=h1;show Rt a0 (.bad e) (Hq _ (C9 (d+1) (Dh a0 s) s.lo x false).1 _ l);rw [Aa3 (by rw [c1];exact c2)];exact ⟨c1,c2⟩
  | ok s' =>
   rw [hn] at h1;have h1:(C9 (d+1) (Dh a0 s) s.lo x false).1=Dh a0 s':=h1;obtain ⟨k1,k2,k3⟩:=h2 _ hn;rw [h1,k1];exact ht s' k2 k3
theorem Auv {d:Nat} {n:Tree} (hn:IsC n) (hg:gw n) (hd:sz n<=d+2):Ua (d+2) n=Arv n.at_ (W9 (d+2) n):=by
 unfold Ua W9;by_cases hh:htT n > 100
 ·rw [if_pos hh,if_pos hh];rfl
 rw [if_neg hh,if_neg hh];cases hn with
 | @chunk n a t l hl =>
  obtain ⟨_,hg⟩:=hg;simp only [sz] at hd;have q:=Agh (d:=d) (a0:=a) (l:=l) (s:=st0) rfl (by simp [st0]) hl hg (by omega);have e:Bq (d+2) [] st0 (.mk 20 t n a l) false=(CZ (λs x=>Bq (d+1) [] s x false) st0 l).th λs'=>.ok { s' with lo:=s'.lo.take st0.lo.length }:=by
   conv=>lhs;unfold Bq
   rw [if_pos rfl]
  rw [e];show (let w:=Hq (λw lo x=>C9 (d+1) w lo x false) (Dh a st0) st0.lo l;if w.er.1≠0 then ([],[],w.er.1,w.er.2) else (w.fs,w.gl,0,0))=_;simp only;cases hr:CZ (λs x=>Bq (d+1) [] s x false) st0 l with
  | bad e =>
   rw [hr] at q;obtain ⟨c1,c2⟩:=q;rw [c1,if_pos c2];rfl
  | ok s' =>
   rw [hr] at q;have q:Hq (λw lo x=>C9 (d+1) w lo x false) (Dh a st0) st0.lo l=Dh a s':=q;rw [q,if_neg (λh=>h rfl)];rfl
end
section
open Go Go.RowKit
def eT3 (n:Tree) (i f:Int):Int×Ah×Int×Int×List Tree×Int×Int:=(n.kind,n.text,n.n,n.at_,n.kids,i,f)
def H5 (n:List Tree) (i f:Int):List Tree×Int×Int:=(n,i,f)
def FF (_:Unit) (i f:Int):Int×Int:=(i,f)
def EE (l:List Tk):Int:=(l.length:Int) - 1
def Rel {α β:Type} (l:List Tk) (Af:α->Prop) (e:α->Int->Int->β) (x:Option β):PV α->Prop
 | .ok a r=>x=some (e a (ix l r) (-1))
 | .bad b=>0<=b/\∃ a,Af a/\x=some (e a (EE l) b)
def GT (_:Tree):Prop:=True
def GU (_:Unit):Prop:=True
def GL (a:List Tree):Prop:=a.length<=3000000
theorem CL {α β α' β':Type} {l ts:List Tk} {n:Nat} {Af:α->Prop} {G':α'->Prop} {e:α->Int->Int->β} {e':α'->Int->Int->β'} {x:Option β} {v:PV α} {F:β->Option β'} {g:α->List Tk->PV α'} (hx:Rel l Af e x v) (hw:Fwd n ts v)
  (h1:∀ a r,v=.ok a r->Good r->r <:+ ts->r.length+n<=ts.length->Rel l G' e' (F (e a (ix l r) (-1))) (g a r)) (h2:∀ a b,0<=b->Af a->∃ a',G' a'/\F (e a (EE l) b)=some (e' a' (EE l) b)):Rel l G' e' (x.bind F) (v.then g):=by
 cases v with
 | bad b =>
  obtain ⟨hb,a,ha,rfl⟩:=hx;obtain ⟨a',ha',h⟩:=h2 a b hb ha;exact ⟨hb,a',ha',h⟩
 | ok a r =>
  have hx:x=_:=hx;subst hx;exact h1 a r rfl hw.1 hw.2.2 hw.2.1
theorem FJ {α β:Type} {l:List Tk} {Af:α->Prop} {e:α->Int->Int->β} {c:Prop} [Decidable c] {b:Bool} {x y:Option β} {v w:PV α} (hb:b=decide c) (h1:c->Rel l Af e x v) (h2:¬ c->Rel l Af e y w):Rel l Af e (cond b x y) (if c then v else w):=by
 subst hb;by_cases h:c;rw [if_pos h,decide_eq_true h];exact h1 h;rw [if_neg h,decide_eq_false h];exact h2 h
def K5 (ts:List Tk):Prop:=∀ t ∈ ts,0<=t.2.2.2
theorem K5.hd {ts:List Tk} (h:K5 ts):0<=(hd ts).2.2.2:=by
 cases ts with
 | nil=>exact Int.le_refl _
 | cons t ts=>exact h t (DN ..)
theorem K5.suf {ts r:List Tk} (h:K5 ts) (hs:r <:+ ts):K5 r:=λt ht=>h t (hs.subset ht)
theorem Ak3 {w:Ah} {ts:List Tk} (h:AB w ts=true) (w':Ah):AB w' ts=(w.toList == w'.toList):=by
 unfold AB isT at *;simp only [Bool.and_eq_true] at h;rw [h.1,Bool.true_and,eq_of_beq h.2]
theorem Bfy {w:Ah} {ts:List Tk} (h:AB w ts=true):(hd ts).2.1=w:=by
 unfold AB isT at h;simp only [Bool.and_eq_true] at h;have:=eq_of_beq h.2;rw [Lib.toList_data,Lib.toList_data] at this;have e:∀ a b:Ah,a.data.toList=b.data.toList->a=b:=λa b h=>by
  cases a;cases b;simp only [ByteArray.mk.injEq];exact Array.toList_inj.1 h
 exact e _ _ this
section
variable {l:List Tk} (hl:l.length<=1000000) (h0:l≠[]) (k:Nat)
include hl h0
theorem Z9:1<=l.length:=by cases l with | nil=>exact absurd rfl h0 | cons=>simp
theorem Za:∃ t,B7 l (EE l)=some t:=by
 have:=Z9 hl h0;unfold B7 EE;rw [if_pos (by omega),show ((l.length:Int) - 1).toNat=l.length - 1 by omega];exact ⟨l[l.length - 1],List.getElem?_eq_getElem (by omega)⟩
theorem Su (i at_:Int):Ik.f k l i (-1) at_=some (EE l,at_):=by
 have:=Z9 hl h0;unfold Ik.f EE;simp only [AM];rw [wrapM _ (by omega) (by omega)];rfl
variable {b:Int} (hb:0<=b)
include hb
theorem Xk (i at_:Int):Ik.f k l i b at_=some (EE l,b):=by
 have:=Z9 hl h0;unfold Ik.f EE;simp only [AM];rw [wrapM _ (by omega) (by omega),decide_eq_false (by omega)];rfl
theorem UL:∃ t,Gs.f k l (EE l) b=some t:=by
 obtain ⟨t,ht⟩:=Za hl h0;unfold Gs.f;rw [ht];exact ⟨_,rfl⟩
theorem Uh (w:Ah):DF.f k l (EE l) b w=some false:=by
 obtain ⟨t,ht⟩:=Za hl h0;unfold DF.f;rw [ht,decide_eq_false (by omega)];rfl
theorem IK (w:Ah):Cv.f k l (EE l) b w=some (false,EE l):=by
 unfold Cv.f;rw [Uh hl h0 k hb];rfl
theorem G3 (w:Ah):CS.f k l (EE l) b w=some (EE l,b):=by
 unfold CS.f;rw [IK hl h0 k hb];obtain ⟨t,ht⟩:=UL hl h0 k hb;simp only [Aq,Bool.not_false,cond_true,ht,Xk hl h0 k hb]
theorem Ao9 (kd:Int):FH.f k l (EE l) b kd=some (0,⟨#[]⟩,0,0,[],EE l,b):=by
 obtain ⟨t,ht⟩:=Za hl h0;unfold FH.f;rw [ht,decide_eq_true (by omega)];simp only [Aq,cond_true,Xk hl h0 k hb]
theorem A2j:LJ.f k l (EE l) b=some true:=by
 unfold LJ.f;rw [decide_eq_true (by omega)];rfl
theorem Aos (L:List Ah) (J:Unit->Option Ah):∀ (m:Nat) (j:Nat),L.length < m+j->j<=L.length->L.length<=100->F9.l0 m l (EE l) b L J (j:Int)=J ()
 | 0,j,h,h',_=>by omega
 | m+1,j,h,h',h2=>by
  rw [F9.l0];by_cases hj:j < L.length;rw [decide_eq_true (by omega),show B7 L (j:Int)=some L[j] by unfold B7;rw [if_pos (by omega),Int.toNat_natCast];exact List.getElem?_eq_getElem hj];simp only [cond_true,Aq,Uh hl h0 m hb,cond_false];rw [wrapM _ (by omega) (by omega),show (j:Int)+1=((j+1:Nat):Int) by omega];exact Aos L J m (j+1) (by omega) (by omega) h2;rw [decide_eq_false (by omega)];rfl
theorem Aot (hk:10<=k) (lev:Int):F9.f k l (EE l) b lev=some ⟨#[]⟩:=by
 have key:∀ L:List Ah,L.length<=6->F9.l0 k l (EE l) b L (λ_=>some ⟨#[]⟩) (0:Int)=some ⟨#[]⟩:=λL hL=>Aos hl h0 hb L _ k 0 (by omega) (by omega) (by omega);unfold F9.f;simp only [AM];cases lev == (2:Int) with
 | true=>exact key _ (by simp)
 | false =>
 cases lev == (3:Int) with
 | true=>exact key _ (by simp)
 | false =>
 cases lev == (4:Int) with
 | true=>exact key _ (by simp)
 | false =>
 cases lev == (5:Int) with
 | true=>exact key _ (by simp)
 | false =>
 cases lev == (6:Int) with
 | true=>exact key _ (by simp)
 | false=>exact key _ (by simp)
def Rr:Tree:=.mk 0 ⟨#[]⟩ 0 0 []
theorem ZE (J:List Tree->Int->Int->Option (List Tree×Int×Int)) (acc:List Tree) (m:Nat) (hm:0 < m):Gd.l0 m l J acc (EE l) b=J acc (EE l) b:=by
 obtain ⟨m,rfl⟩:∃ n,m=n+1:=⟨m - 1,by omega⟩;rw [Gd.l0,IK hl h0 m hb];rfl
theorem Aph (hk:0 < k):Gd.f k l (EE l) b=some ([Rr],EE l,b):=by
 unfold Gd.f;rw [Ao9 hl h0 k hb];simp only [Aq,AM];exact ZE hl h0 hb _ _ k hk
end
section
variable {l ts:List Tk} (hl:l.length<=1000000) (ha:K5 l) (k:Nat) (hg:Good ts) (hs:ts <:+ l)
include hg hs
theorem At1:l≠[]:=λh=>by
 subst h;have:=hs.length_le;cases ts with
 | nil=>exact hg
 | cons=>simp at this
theorem OF:Gs.f k l (ix l ts) (-1)=some (hd ts).2.2.2:=by
 unfold Gs.f;rw [Lz hg hs];rfl
theorem Mr (w:Ah):DF.f k l (ix l ts) (-1) w=some (AB w ts):=by
 unfold DF.f;rw [Lz hg hs];simp only [Aq,AB,isT,show decide ((-1:Int) < 0)=true from rfl,cond_true];cases (hd ts).1 == (2:Int) <;> cases (hd ts).1 == (5:Int) <;> rfl
theorem Ag7:LJ.f k l (ix l ts) (-1)=some (JS ts):=by
 unfold LJ.f JS;rw [Lz hg hs];simp only [Mr k hg hs,Aq,GI,NL,Pv,show decide ((-1:Int) >= 0)=false from rfl,cond_false];generalize ((hd ts).1 == (6:Int))=b1;generalize AB (⟨#[101,110,100]⟩:Ah) ts=b2;generalize AB (⟨#[101,108,115,101]⟩:Ah) ts=b3;generalize AB (⟨#[101,108,115,101,105,102]⟩:Ah) ts=b4;cases b1 <;> cases b2 <;> cases b3 <;> cases b4 <;> rfl
include hl
theorem E1 (w:Ah):Cv.f k l (ix l ts) (-1) w=some (AB w ts,ix l (if AB w ts then ts.tail else ts)):=by
 unfold Cv.f;rw [Mr k hg hs];simp only [Aq];cases h:AB w ts with
 | true=>simp only [cond_true,if_true,I1 hl hg hs (AT h)]
 | false=>rfl
include ha
theorem Hk (w:Ah):Rel l GU FF (CS.f k l (ix l ts) (-1) w) (Db w ts):=by
 unfold CS.f Db;rw [E1 hl k hg hs];simp only [Aq];cases h:AB w ts with
 | true=>rfl
 | false =>
  simp only [Bool.not_false,cond_true,Bool.false_eq_true,if_false];rw [OF k hg hs];simp only [Aq,Su hl (At1 hg hs) k];exact ⟨(ha.suf hs).hd,(),Aj,rfl⟩
theorem N_ (kd:Int):Rel l GT eT3 (FH.f k l (ix l ts) (-1) kd) (G9 kd ts):=by
 unfold FH.f G9;rw [Lz hg hs];simp only [Aq,show decide ((-1:Int) >= 0)=false from rfl,cond_false];by_cases h:(hd ts).1=1;rw [if_pos h,h,I1 hl hg hs (by omega)];rfl;rw [if_neg h,show ((hd ts).1 != 1)=true by rw [bne_iff_ne];exact h];simp only [cond_true,Su hl (At1 hg hs) k,Aq];exact ⟨(ha.suf hs).hd,.mk _ _ _ _ _,Aj,rfl⟩
omit ha
theorem Bi6 (J:Unit->Option Ah) (suf:Av):∀ (m:Nat) (pre:Av),suf.length < m->pre.length+suf.length<=100->F9.l0 m l (ix l ts) (-1) (pre++suf) J (pre.length:Int)=match suf.find? (λw=>AB w ts) with | some w=>some w | none=>J ():=by
 induction suf with
 | nil =>
  intro m pre hm hp;obtain ⟨m,rfl⟩:∃ n,m=n+1:=⟨m - 1,by omega⟩;rw [F9.l0,decide_eq_false (by simp)];rfl
 | cons w suf ih =>
  intro m pre hm hp;obtain ⟨m,rfl⟩:∃ n,m=n+1:=⟨m - 1,by omega⟩;simp only [AW] at hm hp;have hx:B7 (pre++w :: suf) (pre.length:Int)=some w:=by
   unfold B7;rw [if_pos (by omega),Int.toNat_natCast];simp
  rw [F9.l0,decide_eq_true (by simp;omega),hx];simp only [cond_true,Aq,Mr m hg hs,List.find?_cons];cases AB w ts with
  | true=>rfl
  | false =>
   simp only [cond_false];rw [wrapM _ (by omega) (by omega),show (pre.length:Int)+1=((pre++[w]).length:Nat) by simp];have:=ih m (pre++[w]) (by omega) (by simp;omega);simp only [C7,List.cons_append,List.nil_append] at this;exact this
end
theorem Azc {w:Ah} {ts:List Tk} (h:AB w ts=true):CQ ts=(if w.toList == kOr.toList then 1 else if w.toList == QN.toList then 2
 else if w.toList == QQ.toList || w.toList == kGt.toList || w.toList == kLe.toList || w.toList == kGe.toList || w.toList == QR.toList || w.toList == QP.toList then 3
 else if w.toList == QO.toList then 4 else if w.toList == QT.toList || w.toList == Kc.toList then 5 else if w.toList == QV.toList || w.toList == QU.toList || w.toList == QS.toList then 6 else 0):=by
 unfold CQ;simp only [Ak3 h]
theorem Aov {l ts:List Tk} (hl:l.length<=1000000) (k:Nat) (hk:10<=k) (hg:Good ts) (hs:ts <:+ l) (lev:Int) (h1:1<=lev) (h6:lev<=6):F9.f k l (ix l ts) (-1) lev=some (if CQ ts=lev then (hd ts).2.1 else ⟨#[]⟩):=by
 have key:∀ L:Av,L.length<=6->(∀ w ∈ L,AB w ts=true->CQ ts=lev)->((∀ w ∈ L,AB w ts=false)->CQ ts≠lev)->F9.l0 k l (ix l ts) (-1) L (λ_=>some ⟨#[]⟩) (0:Int)=some (if CQ ts=lev then (hd ts).2.1 else ⟨#[]⟩):=λL hL hA hB=>by
  have:=Bi6 hl hg hs (λ_=>some ⟨#[]⟩) L k [] (by omega) (by simp;omega);rw [List.nil_append] at this;refine Eq.trans this ?_;cases hf:L.find? (λw=>AB w ts) with
  | none =>
   have hall:=List.find?_eq_none.1 hf;rw [if_neg (hB λw hw=>by simpa using hall w hw)]
  | some w =>
   have hw:=List.find?_some hf;rw [if_pos (hA w (List.mem_of_find?_eq_some hf) hw),Bfy hw]
 unfold F9.f;simp only [AM];have hc:lev=1\/lev=2\/lev=3\/lev=4\/lev=5\/lev=6:=by omega
 have lit:∀ {w:Ah},AB w ts=true->∀ n,(if w.data.toList == kOr.data.toList then (1:Int) else if w.data.toList == QN.data.toList then 2
   else if w.data.toList == QQ.data.toList || w.data.toList == kGt.data.toList || w.data.toList == kLe.data.toList || w.data.toList == kGe.data.toList || w.data.toList == QR.data.toList || w.data.toList == QP.data.toList then 3
   else if w.data.toList == QO.data.toList then 4 else if w.data.toList == QT.data.toList || w.data.toList == Kc.data.toList then 5 else if w.data.toList == QV.data.toList || w.data.toList == QU.data.toList || w.data.toList == QS.data.toList then 6 else 0)=n->CQ ts=n:=λh n hn=>by
  rw [Azc h];simp only [Lib.toList_data];exact hn
 rcases hc with rfl | rfl | rfl | rfl | rfl | rfl
 ·refine key [⟨#[111,114]⟩] (by simp) (λw hw h=>?_) λh=>?_
  ·simp only [EZ] at hw;subst hw;exact lit h _ rfl
  ·have h1:=h _ (.head _)
   unfold CQ;rw [show AB kOr ts=false from h1];simp only [Bool.false_eq_true,if_false]
   repeat' split
   all_goals omega
 ·refine key [⟨#[97,110,100]⟩] (by simp) (λw hw h=>?_) λh=>?_
  ·simp only [EZ] at hw;subst hw;exact lit h _ rfl
  ·have h1:=h _ (.head _)
   unfold CQ;rw [show AB QN ts=false from h1];simp only [Bool.false_eq_true,if_false]
   repeat' split
   all_goals omega
 ·refine key [⟨#[60]⟩,⟨#[62]⟩,⟨#[60,61]⟩,⟨#[62,61]⟩,⟨#[126,61]⟩,⟨#[61,61]⟩] (by simp) (λw hw h=>?_) λh=>?_
  ·simp only [List.mem_cons,List.not_mem_nil,or_false] at hw
   rcases hw with rfl | rfl | rfl | rfl | rfl | rfl <;> exact lit h _ rfl
  ·have h1:=h ⟨#[60]⟩ (by simp)
   have h2:=h ⟨#[62]⟩ (by simp);have h3:=h ⟨#[60,61]⟩ (by simp);have h4:=h ⟨#[62,61]⟩ (by simp);have h5:=h ⟨#[126,61]⟩ (by simp);have h6:=h ⟨#[61,61]⟩ (by simp);unfold CQ;rw [show AB QQ ts=false from h1,show AB kGt ts=false from h2,show AB kLe ts=false from h3,show AB kGe ts=false from h4,show AB QR ts=false from h5,show AB QP ts=false from h6];simp only [Bool.or_false,Bool.false_eq_true,if_false]
   repeat' split
   all_goals omega
 ·refine key [⟨#[46,46]⟩] (by simp) (λw hw h=>?_) λh=>?_
  ·simp only [EZ] at hw;subst hw;exact lit h _ rfl
  ·have h1:=h _ (.head _)
   unfold CQ;rw [show AB QO ts=false from h1];simp only [Bool.false_eq_true,if_false]
   repeat' split
   all_goals omega
 ·refine key [⟨#[43]⟩,⟨#[45]⟩] (by simp) (λw hw h=>?_) λh=>?_
  ·simp only [List.mem_cons,List.not_mem_nil,or_false] at hw
   rcases hw with rfl | rfl <;> exact lit h _ rfl
  ·have h1:=h ⟨#[43]⟩ (by simp)
   have h2:=h ⟨#[45]⟩ (by simp);unfold CQ;rw [show AB QT ts=false from h1,show AB Kc ts=false from h2];simp only [Bool.or_false,Bool.false_eq_true,if_false]
   repeat' split
   all_goals omega
 ·refine key [⟨#[42]⟩,⟨#[47,47]⟩,⟨#[37]⟩] (by simp) (λw hw h=>?_) λh=>?_
  ·simp only [List.mem_cons,List.not_mem_nil,or_false] at hw
   rcases hw with rfl | rfl | rfl <;> exact lit h _ rfl
  ·have h1:=h ⟨#[42]⟩ (by simp)
   have h2:=h ⟨#[47,47]⟩ (by simp);have h3:=h ⟨#[37]⟩ (by simp);unfold CQ;rw [show AB QV ts=false from h1,show AB QU ts=false from h2,show AB QS ts=false from h3];simp only [Bool.or_false,Bool.false_eq_true,if_false]
   repeat' split
   all_goals omega
theorem Bul {ts:List Tk} (h:CQ ts≠0):((hd ts).2.1.toList == (⟨#[]⟩:Ah).toList)=false:=by
 cases hb:((hd ts).2.1.toList == (⟨#[]⟩:Ah).toList) with
 | false=>rfl
 | true =>
  exfalso;apply h;have hz:=eq_of_beq hb;have hf:∀ w:Ah,w.data.toList≠[]->AB w ts=false:=λw hw=>by
   unfold AB isT;rw [hz,Lib.toList_data,Lib.toList_data];cases hd':w.data.toList with
   | nil=>exact absurd hd' hw
   | cons=>simp
  simp only [CQ,hf kOr (by decide),hf QN (by decide),hf QQ (by decide),hf kGt (by decide),hf kLe (by decide),hf kGe (by decide),hf QR (by decide),hf QP (by decide),hf QO (by decide),hf QT (by decide),hf Kc (by decide),hf QV (by decide),hf QU (by decide),hf QS (by decide),Bool.or_false,Bool.false_eq_true,if_false]
structure BE (l:List Tk) (k:Nat):Prop where
 exp:∀ lev ts,1<=lev->lev<=7->Good ts->ts <:+ l->32 * (ts.length:Int)+32 - lev<=k->Rel l GT eT3 ((RE.at k).Cs l (ix l ts) (-1) lev) (DZ (lev - 1) ts)
 Ahg:∀ lev b,0<=b->1<=k->(RE.at k).Cs l (EE l) b lev=some (0,⟨#[]⟩,0,0,[],EE l,b)
 operand:∀ ts,Good ts->ts <:+ l->32 * ts.length+24<=k->Rel l GT eT3 ((RE.at k).EP l (ix l ts) (-1)) (Ky ts)
 Ec:∀ ts,Good ts->ts <:+ l->32 * ts.length+23<=k->Rel l GT eT3 ((RE.at k).Ds l (ix l ts) (-1)) (Jj ts)
 B2v:∀ b,0<=b->2<=k->(RE.at k).Ds l (EE l) b=some (0,⟨#[]⟩,0,0,[],EE l,b)
 field:∀ ts,Good ts->ts <:+ l->32 * ts.length+32<=k->Rel l GT eT3 ((RE.at k).Il l (ix l ts) (-1)) (Ou ts)
 list:∀ ts,Good ts->ts <:+ l->32 * ts.length+32<=k->Rel l GL H5 ((RE.at k).Dc l (ix l ts) (-1)) (FV ts)
 B00:∀ b,0<=b->2<=k->(RE.at k).Dc l (EE l) b=some ([Rr],EE l,b)
section
variable {l:List Tk} (hl:l.length<=1000000) (ha:K5 l) (h0:l≠[]) {k:Nat}
theorem X4 (m:Nat) (Rc:RE) (lev:Int) (r9:Int×Ah×Int×Int×List Tree×Int×Int) (J:Int->Int->Int->Ah->Int->List Tree->Option (Int×Ah×Int×Int×List Tree×Int×Int)) (i f a:Int) (t:Ah) (n:Int) (ks:List Tree) :
  Cs.l0 (m+1) Rc l lev r9 J ⟨#[]⟩ i f a t n ks=J i f a t n ks:=by
 rw [Cs.l0,show (((⟨#[]⟩:Ah).toList == (⟨#[]⟩:Ah).toList))=true by simp];rfl
include hl h0
theorem Ahk (Rc:RE) (lev b:Int) (hb:0<=b):Cs.g Rc k l (EE l) b lev=some (0,⟨#[]⟩,0,0,[],EE l,b):=by
 unfold Cs.g;rw [decide_eq_true (by omega)];rfl
theorem Bt9 (Rc:RE) (b:Int) (hb:0<=b) (hk:1<=k):Ds.g Rc k l (EE l) b=some (0,⟨#[]⟩,0,0,[],EE l,b):=by
 unfold Ds.g;obtain ⟨t,ht⟩:=UL hl h0 k hb;obtain ⟨k,rfl⟩:∃ m,k=m+1:=⟨k - 1,by omega⟩;simp only [ht,Aq,AM,IK hl h0 (k+1) hb,cond_false,Ao9 hl h0 (k+1) hb];rw [Ds.l0];simp only [Aq,IK hl h0 k hb,cond_false]
theorem Om (Rc:RE) (r2 b:Int) (hb:0<=b) (m:Nat) (a:Int) (t:Ah) (n p:Int) (ks:List Tree):Ds.l0 (m+1) Rc l r2 a t n p ks (EE l) b=some (a,t,n,p,ks,EE l,b):=by
 rw [Ds.l0];simp only [Aq,IK hl h0 m hb,cond_false]
theorem ZA (Rc:RE) (J:List Tree->Int->Int->Option (List Tree×Int×Int)) (acc:List Tree) (b:Int) (hb:0<=b) (m:Nat):Dc.l0 (m+1) Rc l J acc (EE l) b=J acc (EE l) b:=by
 rw [Dc.l0];simp only [Aq,IK hl h0 m hb,cond_false]
variable (ih:BE l k)
include ih
theorem Ao2 (b:Int) (hb:0<=b) (hk:1<=k):Dc.g (RE.at k) k l (EE l) b=some ([Rr],EE l,b):=by
 unfold Dc.g;rw [ih.Ahg 1 b hb hk];obtain ⟨k,rfl⟩:∃ m,k=m+1:=⟨k - 1,by omega⟩;simp only [Aq,AM];exact ZA hl h0 _ _ _ b hb k
theorem Ahi (lev:Int) (h1:1<=lev) (h6:lev<=6) (r9:Int×Ah×Int×Int×List Tree×Int×Int):∀ (m:Nat) (n:Tree) (ts:List Tk),n.at_=r9.2.2.2.1->Good ts->ts <:+ l->CQ ts<=lev->ts.length+11 < m->32 * ts.length<=k ->
  Rel l GT eT3 (Cs.l0 m (RE.at k) l lev r9 (λx16 x17 x18 x19 x20 l21=>some (x18,x19,x20,r9.2.2.2.1,l21,x16,x17)) (if CQ ts=lev then (hd ts).2.1 else ⟨#[]⟩) (ix l ts) (-1) n.kind n.text n.n n.kids) (JC (lev - 1) n ts)
 | 0,_,_,_,_,_,_,h,_=>by omega
 | m+1,n,ts,hn,hg,hs,hb,hm,hk=>by
  rw [RM n (by omega) hg];by_cases hbl:CQ ts=lev;rw [if_pos hbl,Cs.l0,Bul (by omega),if_neg (by omega),hbl];simp only [Bool.not_false,cond_true,AM];obtain ⟨g1,g2,g3⟩:=hg.tail (LZ (by omega));rw [I1 hl hg hs (LZ (by omega)),wrapM (lev+1) (by omega) (by omega)];have gs:=g3.trans hs;have key:∀ q:Int,1<=q->q<=7->32 * (ts.tail.length:Int)+32 - q<=k->q - 1=(if lev=4 then 3 else lev)->Rel l GT eT3 (((RE.at k).Cs l (ix l ts.tail) (-1) q).bind λr59=>(F9.f m l r59.2.2.2.2.2.1 r59.2.2.2.2.2.2 lev).bind λGW=>Cs.l0 m (RE.at k) l lev r9 (λx16 x17 x18 x19 x20 l21=>some (x18,x19,x20,r9.2.2.2.1,l21,x16,x17)) GW r59.2.2.2.2.2.1 r59.2.2.2.2.2.2 (11:Int) (hd ts).2.1 (0:Int) ([(Tree.mk n.kind n.text n.n r9.2.2.2.1 n.kids),(Tree.mk r59.1 r59.2.1 r59.2.2.1 r59.2.2.2.1 r59.2.2.2.2.1)])) ((DZ (if lev=4 then 3 else lev) ts.tail).then λm r=>JC (lev - 1) (.mk 11 (hd ts).2.1 0 n.at_ [n,m]) r):=by
   intro q hq1 hq7 hqk hqe;have hx:=ih.exp q _ hq1 hq7 g1 gs hqk;rw [hqe] at hx;refine CL hx (Da (by rw [<- hqe];omega) g1) (λx r hv hr hrs hrn=>?_) λa b hb0 _=>?_;have hst:=Au1 (by rw [<- hqe];omega) g1 hv;have hst2:CQ r<=lev:=by revert hst;split <;> omega
   simp only [eT3,Cc];rw [Aov hl m (by omega) hr (hrs.trans gs) lev h1 h6];simp only [Aq];rw [<- hn,Cc];have:=Ahi lev h1 h6 r9 m (.mk 11 (hd ts).2.1 0 n.at_ [n,x]) r hn hr (hrs.trans gs) hst2 (by omega) (by omega);rw [<- hn] at this;exact this;simp only [eT3];rw [Aot hl h0 m hb0 (by omega) lev];obtain ⟨m,rfl⟩:∃ q,m=q+1:=⟨m - 1,by omega⟩;simp only [Aq,X4];exact ⟨.mk _ _ _ _ _,Aj,rfl⟩
  by_cases h4:lev=4;have:=key 4 (by omega) (by omega) (by omega) (by rw [if_pos h4];rfl);rw [show (lev == (4:Int))=true by rw [beq_iff_eq];exact h4];exact this;have:=key (lev+1) (by omega) (by omega) (by omega) (by rw [if_neg h4];omega);rw [show (lev == (4:Int))=false by rw [beq_eq_false_iff_ne];exact h4];exact this;rw [if_neg hbl,if_pos (by omega),X4,<- hn];rfl
theorem Ahj (lev:Int) (h1:1<=lev) (h7:lev<=7) {ts:List Tk} (hg:Good ts) (hs:ts <:+ l) (hk:32 * (ts.length:Int)+31 - lev<=k):Rel l GT eT3 (Cs.g (RE.at k) k l (ix l ts) (-1) lev) (DZ (lev - 1) ts):=by
 unfold Cs.g;rw [show decide ((-1:Int) >= 0)=false from rfl];simp only [cond_false];by_cases h:lev=7;rw [h,Acp (by omega) hg];have hx:=ih.operand ts hg hs (by omega);simp only [show ((7:Int) == 7)=true from rfl,cond_true];cases hv:Ky ts with
 | ok n r=>rw [hv] at hx;have hx:_=_:=hx;rw [hx];rfl
 | bad b =>
  rw [hv] at hx;obtain ⟨hb,a,_,hx⟩:=hx;rw [hx];exact ⟨hb,a,Aj,rfl⟩
 rw [show (lev == (7:Int))=false by rw [beq_eq_false_iff_ne];exact h,wrapM _ (by omega) (by omega)];simp only [cond_false,AM];have hx:=ih.exp (lev+1) ts (by omega) (by omega) hg hs (by omega);rw [show lev+1 - 1=lev by omega] at hx;rw [Bu5 (by omega) hg,show lev - 1+1=lev by omega];have hle:=hs.length_le;refine CL hx (Da (by omega) hg) (λx r hv hr hrs hrn=>?_) λa b hb0 _=>?_;have hst:=Au1 (by omega) hg hv;simp only [eT3];rw [Aov hl k (by omega) hr (hrs.trans hs) lev h1 (by omega)];simp only [Aq];exact Ahi hl h0 ih lev h1 (by omega) (eT3 x (ix l r) (-1)) k x r rfl hr (hrs.trans hs) hst (by omega) (by omega);simp only [eT3];rw [Aot hl h0 k hb0 (by omega) lev];obtain ⟨k,rfl⟩:∃ q,k=q+1:=⟨k - 1,by omega⟩;simp only [Aq,X4];exact ⟨.mk _ _ _ _ _,Aj,rfl⟩
include ha
theorem Aoz:∀ (m:Nat) (acc:List Tree) (ts:List Tk),Good ts->ts <:+ l->ts.length+1 < m->acc.length+ts.length<=1000000->32 * ts.length<=k ->
  Rel l GL H5 (Dc.l0 m (RE.at k) l (λl7 x12 CV=>some (l7,x12,CV)) acc (ix l ts) (-1)) (Qf acc ts)
 | 0,_,_,_,_,h,_,_=>by omega
 | m+1,acc,ts,hg,hs,hm,hc,hk=>by
  rw [Dc.l0,E1 hl m hg hs,Acs acc hg];simp only [Aq];refine FJ (Dt _) (λhc'=>?_) λhc'=>?_;simp only [hc',if_true];obtain ⟨g1,g2,g3⟩:=hg.tail (AT hc');have gs:=g3.trans hs;refine CL (ih.exp 1 _ (by omega) (by omega) g1 gs (by omega)) (Da (by omega) g1) (λx r hv hr hrs hrn=>?_) λa b hb0 _=>?_;simp only [eT3,Cc];rw [Cm (by simp only [AW,Bp];omega)];simp only [Aq];exact Aoz m _ r hr (hrs.trans gs) (by omega) (by simp only [BQ,AW,Bp];omega) (by omega);simp only [eT3,Cc];rw [Cm (by simp only [AW,Bp];omega)];obtain ⟨m,rfl⟩:∃ q,m=q+1:=⟨m - 1,by omega⟩;simp only [Aq];rw [ZA hl h0 _ _ _ b hb0];exact ⟨acc++[a],by unfold GL;simp only [BQ,AW,Bp];omega,rfl⟩;simp only [if_neg hc'];rfl
theorem Ao1 {ts:List Tk} (hg:Good ts) (hs:ts <:+ l) (hk:32 * ts.length+31<=k):Rel l GL H5 (Dc.g (RE.at k) k l (ix l ts) (-1)) (FV ts):=by
 unfold Dc.g;rw [Acu hg];have hle:=hs.length_le;refine CL (ih.exp 1 _ (by omega) (by omega) hg hs (by omega)) (Da (by omega) hg) (λx r hv hr hrs hrn=>?_) λa b hb0 _=>?_;simp only [eT3,Cc,AM];exact Aoz hl ha h0 ih k _ r hr (hrs.trans hs) (by omega) (by simp only [AW,Bp];omega) (by omega);simp only [eT3,Cc,AM];obtain ⟨k,rfl⟩:∃ q,k=q+1:=⟨k - 1,by omega⟩;rw [ZA hl h0 _ _ _ b hb0];exact ⟨[a],by unfold GL;simp,rfl⟩
theorem Ul (r2:Int):∀ (m:Nat) (n:Tree) (ts:List Tk),Good ts->ts <:+ l->ts.length+1 < m->32 * ts.length<=k ->
  Rel l GT eT3 (Ds.l0 m (RE.at k) l r2 n.kind n.text n.n n.at_ n.kids (ix l ts) (-1)) (Kz r2 n ts)
 | 0,_,_,_,_,h,_=>by omega
 | m+1,n,ts,hg,hs,hm,hk=>by
  obtain ⟨m',rfl⟩:∃ q,m=q+1:=⟨m - 1,by omega⟩;rw [Ds.l0,E1 hl _ hg hs,Acv _ n hg];simp only [Aq,Cc];refine FJ (Dt _) (λhc=>?_) λh1=>?_;simp only [hc,if_true];obtain ⟨g1,g2,g3⟩:=hg.tail (AT hc);have gs:=g3.trans hs;refine CL (ih.exp 1 _ (by omega) (by omega) g1 gs (by omega)) (Da (by omega) g1) (λx r hv hr hrs hrn=>?_) λa b hb0 _=>?_;simp only [eT3,Cc];have hrl:=hrs.trans gs;refine CL (Hk hl ha _ hr hrl _) (CO _ hr) (λ_ r2' _ hr2 Es hn2=>?_) λ_ b hb0 _=>?_;exact Ul r2 (m'+1) (.mk 7 noB 0 r2 [n,x]) r2' hr2 (Es.trans hrl) (by omega) (by omega);simp only [FF,Om hl h0 _ _ b hb0];exact ⟨.mk _ _ _ _ _,Aj,rfl⟩;simp only [eT3,Cc,G3 hl h0 _ hb0,Aq,Om hl h0 _ _ b hb0];exact ⟨.mk _ _ _ _ _,Aj,rfl⟩;simp only [if_neg h1,E1 hl _ hg hs,Aq];refine FJ (Dt _) (λhc=>?_) λh2=>?_;simp only [hc,if_true];obtain ⟨g1,g2,g3⟩:=hg.tail (AT hc);have gs:=g3.trans hs;refine CL (N_ hl ha _ g1 gs 5) (fName 5 g1) (λx r hv hr hrs hrn=>?_) λa b hb0 _=>?_;simp only [eT3,Cc];exact Ul r2 (m'+1) (.mk 7 noB 0 r2 [n,x]) r hr (hrs.trans gs) (by omega) (by omega);simp only [eT3,Cc,Om hl h0 _ _ b hb0];exact ⟨.mk _ _ _ _ _,Aj,rfl⟩;simp only [if_neg h2,E1 hl _ hg hs,Aq];refine FJ (Dt _) (λhc=>?_) λh3=>?_;simp only [hc,if_true];obtain ⟨g1,g2,g3⟩:=hg.tail (AT hc);have gs:=g3.trans hs;have hlen:=hs.length_le;simp only [AM,Mr _ g1 gs,Aq];unfold WB;have tl:∀ (xs:List Tree) (r:List Tk),Good r->r <:+ l->r.length<=ts.tail.length->Rel l GT eT3 ((CS.f (m'+1) l (ix l r) (-1) (⟨#[41]⟩:Ah)).bind λDK=>Ds.l0 (m'+1) (RE.at k) l r2 (8:Int) (⟨#[]⟩:Ah) (0:Int) r2 (n :: xs) DK.1 DK.2) ((Db Gi r).then λ_ r=>Kz r2 (.mk 8 noB 0 r2 (n :: xs)) r):=λxs r hr hrl hn=>by
   refine CL (Hk hl ha _ hr hrl _) (CO _ hr) (λ_ r2' _ hr2 Es hn2=>?_) λ_ b hb0 _=>?_;exact Ul r2 (m'+1) (.mk 8 noB 0 r2 (n :: xs)) r2' hr2 (Es.trans hrl) (by omega) (by omega);simp only [FF,Om hl h0 _ _ b hb0];exact ⟨.mk _ _ _ _ _,Aj,rfl⟩
  by_cases hR:AB Gi ts.tail=true;rw [if_pos hR,show AB (⟨#[41]⟩:Ah) ts.tail=true from hR];exact tl [] _ g1 gs (Nat.le_refl _);rw [if_neg hR,show AB (⟨#[41]⟩:Ah) ts.tail=false from by simpa using hR];simp only [Bool.not_false,cond_true];refine CL (ih.list _ g1 gs (by omega)) (JT g1) (λxs r hv hr hrs hrn=>?_) λa b hb0 hga=>?_;have hxl:=NV g1 hv;simp only [H5];rw [Cm (by simp only [AW,Bp];omega)];exact tl xs r hr (hrs.trans gs) (by omega);simp only [H5];unfold GL at hga;rw [Cm (by simp only [AW,Bp];omega)];simp only [Aq,G3 hl h0 _ hb0,Om hl h0 _ _ b hb0];exact ⟨.mk _ _ _ _ _,Aj,rfl⟩;simp only [if_neg h3];rfl
theorem At4 {ts:List Tk} (hg:Good ts) (hs:ts <:+ l) (hk:32 * ts.length+22<=k):Rel l GT eT3 (Ds.g (RE.at k) k l (ix l ts) (-1)) (Jj ts):=by
 unfold Ds.g;obtain ⟨k',hk'⟩:∃ q,k=q+1:=⟨k - 1,by omega⟩;rw [OF k hg hs,Acx hg];simp only [Aq,AM,E1 hl k hg hs];refine FJ (Dt _) (λhc=>?_) λh1=>?_;simp only [hc,if_true];obtain ⟨g1,g2,g3⟩:=hg.tail (AT hc);have gs:=g3.trans hs;refine CL (ih.exp 1 _ (by omega) (by omega) g1 gs (by omega)) (Da (by omega) g1) (λx r hv hr hrs hrn=>?_) λa b hb0 _=>?_;simp only [eT3,Cc];have hrl:=hrs.trans gs;refine CL (Hk hl ha _ hr hrl _) (CO _ hr) (λ_ r2' _ hr2 Es hn2=>?_) λ_ b hb0 _=>?_;exact Ul hl ha h0 ih (hd ts).2.2.2 k (.mk 9 noB 0 (hd ts).2.2.2 [x]) r2' hr2 (Es.trans hrl) (by omega) (by omega);rw [hk'];simp only [FF,Om hl h0 _ _ b hb0];exact ⟨.mk _ _ _ _ _,Aj,rfl⟩;simp only [eT3,Cc,G3 hl h0 _ hb0,Aq];rw [hk'];simp only [Om hl h0 _ _ b hb0];exact ⟨.mk _ _ _ _ _,Aj,rfl⟩;simp only [if_neg h1];refine CL (N_ hl ha _ hg hs 6) (fName 6 hg) (λx r hv hr hrs hrn=>?_) λa b hb0 _=>?_;exact Ul hl ha h0 ih (hd ts).2.2.2 k x r hr (hrs.trans hs) (by omega) (by omega);simp only [eT3];rw [hk'];simp only [Om hl h0 _ _ b hb0];exact ⟨a,Aj,rfl⟩
theorem A3x {ts:List Tk} (hg:Good ts) (hs:ts <:+ l) (hk:32 * ts.length+31<=k):Rel l GT eT3 (Il.g (RE.at k) k l (ix l ts) (-1)) (Ou ts):=by
 unfold Il.g;rw [OF k hg hs,Au4 hg];simp only [Aq,AM,E1 hl k hg hs];have Z7:∀ (kd:Int) (xs:List Tree) (b:Int),0<=b->xs.length<=100->∃ a':Tree,GT a'/\(((RE.at k).Cs l (EE l) b (1:Int)).bind λr13=>(apd 64 xs [(Tree.mk r13.1 r13.2.1 r13.2.2.1 r13.2.2.2.1 r13.2.2.2.2.1)]).bind λl21=>some (kd,(⟨#[]⟩:Ah),(0:Int),(hd ts).2.2.2,l21,r13.2.2.2.2.2.1,r13.2.2.2.2.2.2))=some (eT3 a' (EE l) b):=λkd xs b hb0 hx=>by
  rw [ih.Ahg 1 b hb0 (by omega)];simp only [Aq];rw [Cm (by simp only [AW,Bp];omega)];exact ⟨.mk _ _ _ _ _,Aj,rfl⟩
 have last:∀ (kd:Int) (xs:List Tree) (r:List Tk),Good r->r <:+ l->r.length<=ts.length->xs.length<=100->Rel l GT eT3 (((RE.at k).Cs l (ix l r) (-1) (1:Int)).bind λr13=>(apd 64 xs [(Tree.mk r13.1 r13.2.1 r13.2.2.1 r13.2.2.2.1 r13.2.2.2.2.1)]).bind λl21=>some (kd,(⟨#[]⟩:Ah),(0:Int),(hd ts).2.2.2,l21,r13.2.2.2.2.2.1,r13.2.2.2.2.2.2)) ((DZ 0 r).then λv r=>.ok (.mk kd noB 0 (hd ts).2.2.2 (xs++[v])) r):=λkd xs r hr hrl hn hx=>by
  refine CL (ih.exp 1 _ (by omega) (by omega) hr hrl (by omega)) (Da (by omega) hr) (λx r hv hr hrs hrn=>?_) λa b hb0 _=>?_;simp only [eT3,Cc];rw [Cm (by simp only [AW,Bp];omega)];rfl;simp only [eT3,Cc];rw [Cm (by simp only [AW,Bp];omega)];exact ⟨.mk _ _ _ _ _,Aj,rfl⟩
 refine FJ (Dt _) (λhc=>?_) λh1=>?_;simp only [hc,if_true];obtain ⟨g1,g2,g3⟩:=hg.tail (AT hc);have gs:=g3.trans hs;refine CL (ih.exp 1 _ (by omega) (by omega) g1 gs (by omega)) (Da (by omega) g1) (λx r hv hr hrs hrn=>?_) λa b hb0 _=>?_;simp only [eT3,Cc];have hrl:=hrs.trans gs;refine CL (Hk hl ha _ hr hrl _) (CO _ hr) (λ_ r2 _ hr2 Es hn2=>?_) λ_ b hb0 _=>?_;simp only [FF];have hrl2:=Es.trans hrl;refine CL (Hk hl ha _ hr2 hrl2 _) (CO _ hr2) (λ_ r3 _ hr3 GH hn3=>?_) λ_ b hb0 _=>?_;simp only [FF];exact last 14 [x] r3 hr3 (GH.trans hrl2) (by omega) (by simp);exact Z7 14 [x] b hb0 (by simp);simp only [FF,G3 hl h0 _ hb0,Aq];exact Z7 14 [x] b hb0 (by simp);simp only [eT3,Cc,G3 hl h0 _ hb0,Aq];exact Z7 14 [a] b hb0 (by simp);simp only [if_neg h1];have hq:((B7 l (ix l ts)).bind λx49=>cond (x49.1 == (1:Int)) ((B7 l (Au (ix l ts+(1:Int)))).bind λx57=>cond (x57.1 == (5:Int)) ((B7 l (Au (ix l ts+(1:Int)))).bind λx65=>some (x65.2.1.toList == (⟨#[61]⟩:Ah).toList)) (some false)) (some false):Option Bool)=some (decide ((hd ts).1=1/\(hd ts.tail).1=5/\(hd ts.tail).2.1.toList=EK.toList)):=by
  rw [Lz hg hs];simp only [Aq];by_cases h:(hd ts).1=1;obtain ⟨g1,g2,g3⟩:=hg.tail (by omega);rw [I1 hl hg hs (by omega),Lz g1 (g3.trans hs),h];simp only [beq_self_eq_true,cond_true,Aq,true_and];by_cases h5:(hd ts.tail).1=5;rw [h5];simp only [beq_self_eq_true,cond_true,true_and];exact congrArg some (Aod _ _);rw [show ((hd ts.tail).1 == (5:Int))=false by rw [beq_eq_false_iff_ne];exact h5];simp [h5];rw [show ((hd ts).1 == (1:Int))=false by rw [beq_eq_false_iff_ne];exact h];simp [h]
 rw [hq];simp only [Aq];refine FJ rfl (λhc=>?_) λh2=>?_;obtain ⟨hk1,h5,he⟩:=hc;obtain ⟨g1,g2,g3⟩:=hg.tail (by omega);obtain ⟨g4,g5,g6⟩:=g1.tail (by omega);have gs:=g3.trans hs;have hN:=N_ hl ha k hg hs 5;unfold G9 at hN;rw [if_pos hk1] at hN;have hN:_=_:=hN;rw [hN];simp only [Aq,eT3,Tree.kind,Tree.text,Tree.n,Tree.at_,Tree.kids];have hE:AB EK ts.tail=true:=by unfold AB isT;rw [h5,he];simp
 have hW:=Hk hl ha k g1 gs EK;unfold Db at hW;rw [if_pos hE] at hW;have hW:_=_:=hW;rw [hW];simp only [Aq,FF];exact last 14 [.mk 5 (hd ts).2.1 0 (hd ts).2.2.2 []] _ g4 (g6.trans gs) (by omega) (by simp);exact last 13 [] ts hg hs (Nat.le_refl _) (by simp)
theorem Aqc (J:List Tree->Int->Int->Option (Int×Ah×Int×Int×List Tree×Int×Int)) (T:List Tree->Tree) (hJ:∀ acc r,Good r->r <:+ l->Rel l GT eT3 (J acc (ix l r) (-1)) ((Db NP r).then λ_ r=>.ok (T acc) r)) (hJF:∀ acc b,0<=b->∃ a',GT a'/\J acc (EE l) b=some (eT3 a' (EE l) b)) :
  ∀ (m:Nat) (acc:List Tree) (ts:List Tk),Good ts->ts <:+ l->ts.length+2 < m->acc.length+ts.length<=1000000->32 * ts.length+32<=k ->
  Rel l GT eT3 (EP.l0 m (RE.at k) l J true acc (ix l ts) (-1)) ((Lf acc ts).then λl r=>.ok (T l) r)
 | 0,_,_,_,_,h,_,_=>by omega
 | m+1,acc,ts,hg,hs,hm,hc,hk=>by
  rw [EP.l0,Au6 acc hg];simp only [cond_true,Mr m hg hs,Aq,show decide ((-1:Int) < 0)=true from rfl];have stop:∀ (acc:List Tree) (i f:Int) (m:Nat),EP.l0 (m+1) (RE.at k) l J false acc i f=J acc i f:=λacc i f m=>by rw [EP.l0];rfl
  by_cases hR:AB NP ts=true;rw [if_pos hR,show AB (⟨#[125]⟩:Ah) ts=true from hR];simp only [Bool.not_true,cond_false,Aq];have:=hJ acc ts hg hs;unfold Db at this;rw [if_pos hR] at this;exact this;rw [if_neg hR,show AB (⟨#[125]⟩:Ah) ts=false from by simpa using hR,then_assoc];simp only [Bool.not_false,cond_true,Aq];refine CL (ih.field ts hg hs hk) (X7 hg) (λx r hv hr hrs hrn=>?_) λa b hb0 _=>?_;simp only [eT3,Cc];rw [Cm (by simp only [AW,Bp];omega)];have hrl:=hrs.trans hs;simp only [Aq,E1 hl m hr hrl];have more:∀ {w:Ah},AB w r=true->Rel l GT eT3 (EP.l0 m (RE.at k) l J true (acc++[x]) (ix l r.tail) (-1)) ((Lf (acc++[x]) r.tail).then λl r=>.ok (T l) r):=λhc'=>by
   obtain ⟨g1,g2,g3⟩:=hr.tail (AT hc');exact Aqc J T hJ hJF m _ _ g1 (g3.trans hrl) (by omega) (by simp only [BQ,AW,Bp];omega) (by omega)
  by_cases hC:AB Et r=true;rw [if_pos hC,show AB (⟨#[44]⟩:Ah) r=true from hC];simp only [cond_true,if_true];exact more hC;rw [if_neg hC,show AB (⟨#[44]⟩:Ah) r=false from by simpa using hC];simp only [cond_false,Bool.false_eq_true,if_false,E1 hl m hr hrl,Aq];by_cases hS:AB Hg r=true;rw [if_pos hS,show AB (⟨#[59]⟩:Ah) r=true from hS];simp only [if_true];exact more hS;rw [if_neg hS,show AB (⟨#[59]⟩:Ah) r=false from by simpa using hS];obtain ⟨m,rfl⟩:∃ q,m=q+1:=⟨m - 1,by omega⟩;simp only [Bool.false_eq_true,if_false,stop,then_assoc];exact hJ _ r hr hrl;simp only [eT3,Cc];rw [Cm (by simp only [AW,Bp];omega)];obtain ⟨m,rfl⟩:∃ q,m=q+1:=⟨m - 1,by omega⟩;simp only [Aq,IK hl h0 _ hb0,cond_false,stop];exact hJF _ b hb0
theorem Bpu {ts:List Tk} (hg:Good ts) (hs:ts <:+ l) (hk:32 * ts.length+23<=k):Rel l GT eT3 (EP.g (RE.at k) k l (ix l ts) (-1)) (Ky ts):=by
 unfold EP.g;rw [Lz hg hs,Avi hg];have hle:=hs.length_le;simp only [Aq,AM,E1 hl k hg hs];refine FJ (N9 _ _) (λhc=>?_) λh3=>?_;rw [I1 hl hg hs (by omega)];rfl;refine FJ (N9 _ _) (λhc=>?_) λh4=>?_;rw [I1 hl hg hs (by omega)];rfl;refine FJ (Dt _) (λhc=>?_) λh5=>?_;simp only [hc,if_true];rfl;simp only [if_neg h5,E1 hl k hg hs,Aq];refine FJ (Dt _) (λhc=>?_) λh6=>?_;simp only [hc,if_true];rfl;simp only [if_neg h6,E1 hl k hg hs,Aq];refine FJ (Dt _) (λhc=>?_) λh7=>?_;simp only [hc,if_true];rfl;simp only [if_neg h7,Mr k hg hs,Aq];have hq:(cond (AB (⟨#[110,111,116]⟩:Ah) ts) (some true) (cond (AB (⟨#[35]⟩:Ah) ts) (some true) (some (AB (⟨#[45]⟩:Ah) ts))):Option Bool)=some (AB NO ts || AB NN ts || AB Kc ts):=by
  show (cond (AB NO ts) (some true) (cond (AB NN ts) (some true) (some (AB Kc ts))):Option Bool)=_;cases AB NO ts <;> cases AB NN ts <;> rfl
 rw [hq];simp only [Aq];refine FJ (Dt _) (λhc=>?_) λh8=>?_;obtain ⟨g1,g2,g3⟩:=hg.tail (or3 rfl rfl rfl hc);rw [I1 hl hg hs (or3 rfl rfl rfl hc)];have hx:=ih.exp 7 _ (by omega) (by omega) g1 (g3.trans hs) (by omega);have e:DZ (7 - 1) ts.tail=DZ 7 ts.tail:=by rw [Acp (by omega) g1,Acp (by omega) g1]
 rw [e] at hx;refine CL hx (Da (by omega) g1) (λx r hv hr hrs hrn=>?_) λa b hb0 _=>?_;simp only [eT3,Cc];rfl;exact ⟨.mk _ _ _ _ _,Aj,rfl⟩;simp only [E1 hl k hg hs,Aq];refine FJ (Dt _) (λhc=>?_) λh9=>?_;simp only [hc,if_true];obtain ⟨g1,g2,g3⟩:=hg.tail (AT hc);refine Aqc hl ha h0 ih _ (λl=>.mk 12 noB 0 (hd ts).2.2.2 l) (λacc r hr hrl=>?_) (λacc b hb0=>?_) k [] _ g1 (g3.trans hs) (by omega) (by simp only [Bp];omega) (by omega);exact CL (Hk hl ha _ hr hrl _) (CO _ hr) (λ_ r2 _ hr2 Es hn2=>rfl) λ_ b hb0 _=>⟨.mk _ _ _ _ _,Aj,rfl⟩;simp only [G3 hl h0 _ hb0,Aq];exact ⟨.mk _ _ _ _ _,Aj,rfl⟩;simp only [if_neg h9];have hx:=ih.Ec ts hg hs (by omega);cases hv:Jj ts with
 | ok n r=>rw [hv] at hx;have hx:_=_:=hx;rw [hx];rfl
 | bad b =>
  rw [hv] at hx;obtain ⟨hb,a,_,hx⟩:=hx;rw [hx];exact ⟨hb,a,Aj,rfl⟩
end
theorem bE {l:List Tk} (hl:l.length<=1000000) (ha:K5 l) (h0:l≠[]):∀ k,BE l k
 | 0=>by constructor <;> intros <;> omega
 | k+1=>by
  have ih:=bE hl ha h0 k;exact ⟨λlev ts h1 h7 hg hs h=>Ahj hl h0 ih lev h1 h7 hg hs (by omega),λlev b hb h=>Ahk hl h0 _ lev b hb,λts hg hs h=>Bpu hl ha h0 ih hg hs (by omega),λts hg hs h=>At4 hl ha h0 ih hg hs (by omega),λb hb h=>Bt9 hl h0 _ b hb (by omega),λts hg hs h=>A3x hl ha h0 ih hg hs (by omega),λts hg hs h=>Ao1 hl ha h0 ih hg hs (by omega),λb hb h=>Ao2 hl h0 ih b hb (by omega)⟩
theorem Abz:∀ (n:Nat) (at_:Int) (x y:Tree) (ts r:List Tk),ts.length<=n->Good ts->x.at_=at_->Kz at_ x ts=.ok y r->y.at_=at_
 | 0,_,_,_,[],_,_,hg,_,_=>hg.elim
 | n+1,at_,x,y,ts,r,hn,hg,hx,h=>by
  rw [Acv at_ x hg] at h;have more:∀ (z:Tree) (s:List Tk),Good s->s.length+1<=ts.length->z.at_=at_->Kz at_ z s=.ok y r->y.at_=at_:=λz s hs hl hz h=>Abz n at_ z y s r (by omega) hs hz h;split at h;rename_i hc;obtain ⟨g1,g2,_⟩:=hg.tail (AT hc);obtain ⟨e,s,h1,h⟩:=then_ok h;have f1:=Da (least:=0) (by omega) g1;rw [h1] at f1;obtain ⟨_,s2,h2,h⟩:=then_ok h;have f2:=CO kRb f1.1;rw [h2] at f2;exact more _ s2 f2.1 (by have:=f1.2.1;have:=f2.2.1;omega) rfl h;split at h;rename_i hc;obtain ⟨g1,g2,_⟩:=hg.tail (AT hc);obtain ⟨e,s,h1,h⟩:=then_ok h;have f1:=fName 5 g1;rw [h1] at f1;exact more _ s f1.1 (by have:=f1.2.1;omega) rfl h;split at h;rename_i hc;obtain ⟨g1,g2,_⟩:=hg.tail (AT hc);obtain ⟨e,s,h1,h⟩:=then_ok h;have f1:=fArgs g1;rw [h1] at f1;obtain ⟨_,s2,h2,h⟩:=then_ok h;have f2:=CO Gi f1.1;rw [h2] at f2;exact more _ s2 f2.1 (by have:=f1.2.1;have:=f2.2.1;omega) rfl h;cases h;exact hx
theorem Atz {ts r:List Tk} {e:Tree} (hg:Good ts) (h:Jj ts=.ok e r):e.at_=(hd ts).2.2.2:=by
 rw [Acx hg] at h;split at h;rename_i hc;obtain ⟨g1,g2,_⟩:=hg.tail (AT hc);obtain ⟨x,s,h1,h⟩:=then_ok h;have f1:=Da (least:=0) (by omega) g1;rw [h1] at f1;obtain ⟨_,s2,h2,h⟩:=then_ok h;have f2:=CO Gi f1.1;rw [h2] at f2;exact Abz _ _ _ _ s2 r (Nat.le_refl _) f2.1 rfl h;obtain ⟨x,s,h1,h⟩:=then_ok h;have f1:=fName 6 hg;rw [h1] at f1;refine Abz _ _ _ _ s r (Nat.le_refl _) f1.1 ?_ h;unfold G9 at h1;split at h1;cases h1;rfl;cases h1
theorem A2k {ts:List Tk} (h:JS ts=true):AB Hg ts=false/\AB Zp ts=false/\AB NM ts=false:=by
 unfold JS at h;simp only [Bool.or_eq_true] at h;have lit:∀ {w:Ah},AB w ts=true->∀ w',(w.data.toList == w'.data.toList)=false->AB w' ts=false:=λh w' e=>by
  rw [Ak3 h,Lib.toList_data,Lib.toList_data];exact e
 rcases h with ((h | h) | h) | h;have h6:(hd ts).1=6:=by simpa using h
 have hf:∀ w,AB w ts=false:=λw=>by
  cases hw:AB w ts with
  | false=>rfl
  | true=>exact absurd h6 (AT hw)
 exact ⟨hf _,hf _,hf _⟩;exact ⟨lit h _ rfl,lit h _ rfl,lit h _ rfl⟩;exact ⟨lit h _ rfl,lit h _ rfl,lit h _ rfl⟩;exact ⟨lit h _ rfl,lit h _ rfl,lit h _ rfl⟩
theorem OQ {ts:List Tk} (hg:Good ts):1<=ts.length:=by cases ts with | nil=>exact hg.elim | cons=>simp
structure BS (l:List Tk) (k:Nat):Prop where
 block:∀ c ts,Good ts->ts <:+ l->64 * ts.length+50<=k->Rel l GT eT3 ((RS.at k).C8 l (ix l ts) (-1) c) (FB c ts)
 Sv:∀ c b,0<=b->2<=k->∃ n,(RS.at k).C8 l (EE l) b c=some (eT3 n (EE l) b)
 stat:∀ ts,Good ts->ts <:+ l->64 * ts.length+47<=k->Rel l GT eT3 ((RS.at k).EQ l (ix l ts) (-1) (hd ts).2.2.2) (Nw ts)
 loop:∀ at_ ts,Good ts->ts <:+ l->64 * ts.length+48<=k->Rel l GT eT3 ((RS.at k).Fe l (ix l ts) (-1) at_) (Qg at_ ts)
 plain:∀ ts,Good ts->ts <:+ l->64 * ts.length+46<=k->Rel l GT eT3 ((RS.at k).Ff l (ix l ts) (-1) (hd ts).2.2.2) (Qh ts)
 body:∀ ts,Good ts->ts <:+ l->64 * ts.length+46<=k->Rel l GT eT3 ((RS.at k).En l (ix l ts) (-1)) (Ji ts)
 Af4:∀ b,0<=b->3<=k->∃ n,(RS.at k).En l (EE l) b=some (eT3 n (EE l) b)
section
variable {l:List Tk} (hl:l.length<=1000000) (ha:K5 l) (h0:l≠[])
include hl h0
theorem Ah3 (k:Nat) (lev b:Int) (hb:0<=b):Cs.f k l (EE l) b lev=some (0,⟨#[]⟩,0,0,[],EE l,b):=Ahk hl h0 _ lev b hb
theorem Afz (m:Nat) (Rc:RS) (c:Bool) (r2:Int) (J:List Tree->Int->Int->Option (Int×Ah×Int×Int×List Tree×Int×Int)) (acc:List Tree) (b:Int) (hb:0<=b):C8.l0 (m+1) Rc l c r2 J acc (EE l) b=J acc (EE l) b:=by
 rw [C8.l0,A2j hl h0 m hb];rfl
theorem Azj (k:Nat) (hk:1<=k) (Rc:RS) (c:Bool) (b:Int) (hb:0<=b):∃ n,C8.g Rc k l (EE l) b c=some (eT3 n (EE l) b):=by
 unfold C8.g;obtain ⟨t,ht⟩:=UL hl h0 k hb;obtain ⟨k,rfl⟩:∃ q,k=q+1:=⟨k - 1,by omega⟩;simp only [ht,Aq,AM,Afz hl h0 k Rc c t _ [] b hb];exact ⟨.mk _ _ _ _ _,rfl⟩
include ha
theorem S4 (k:Nat) {ts:List Tk} (hg:Good ts) (hs:ts <:+ l) (hk:32 * ts.length+30<=k):Rel l GT eT3 (Cs.f k l (ix l ts) (-1) 1) (DZ 0 ts):=Ahj hl h0 (bE hl ha h0 k) 1 (by omega) (by omega) hg hs (by omega)
theorem Ve (k:Nat) {ts:List Tk} (hg:Good ts) (hs:ts <:+ l) (hk:32 * ts.length+31<=k):Rel l GL H5 (Dc.f k l (ix l ts) (-1)) (FV ts):=Ao1 hl ha h0 (bE hl ha h0 k) hg hs hk
theorem Vd (k:Nat) (b:Int) (hb:0<=b) (hk:1<=k):Dc.f k l (EE l) b=some ([Rr],EE l,b):=Ao2 hl h0 (bE hl ha h0 k) b hb hk
theorem Aim (k:Nat) {ts:List Tk} (hg:Good ts) (hs:ts <:+ l) (hk:32 * ts.length+22<=k):Rel l GT eT3 (Ds.f k l (ix l ts) (-1)) (Jj ts):=At4 hl ha h0 (bE hl ha h0 k) hg hs hk
theorem Apb:∀ (m:Nat) (acc:List Tree) (ts:List Tk),Good ts->ts <:+ l->ts.length+1 < m->acc.length+ts.length<=1000000 ->
  Rel l GL H5 (Gd.l0 m l (λl7 x12 CV=>some (l7,x12,CV)) acc (ix l ts) (-1)) (Kx acc ts)
 | 0,_,_,_,_,h,_=>by omega
 | m+1,acc,ts,hg,hs,hm,hc=>by
  rw [Gd.l0,E1 hl m hg hs,Ov acc hg];simp only [Aq];refine FJ (Dt _) (λhc'=>?_) λhc'=>?_;simp only [hc',if_true];obtain ⟨g1,g2,g3⟩:=hg.tail (AT hc');have gs:=g3.trans hs;refine CL (N_ hl ha _ g1 gs 6) (fName 6 g1) (λx r hv hr hrs hrn=>?_) λa b hb0 _=>?_;simp only [eT3,Cc];rw [Cm (by simp only [AW,Bp];omega)];simp only [Aq];exact Apb m _ r hr (hrs.trans gs) (by omega) (by simp only [BQ,AW,Bp];omega);simp only [eT3,Cc];rw [Cm (by simp only [AW,Bp];omega)];simp only [Aq];rw [ZE hl h0 hb0 _ _ m (by omega)];exact ⟨acc++[a],by unfold GL;simp only [BQ,AW,Bp];omega,rfl⟩;simp only [if_neg hc'];rfl
theorem Apd (k:Nat) {ts:List Tk} (hg:Good ts) (hs:ts <:+ l) (hk:ts.length+1 < k):Rel l GL H5 (Gd.f k l (ix l ts) (-1)) (JD ts):=by
 unfold Gd.f JD;have hle:=hs.length_le;refine CL (N_ hl ha _ hg hs 6) (fName 6 hg) (λx r hv hr hrs hrn=>?_) λa b hb0 _=>?_;simp only [eT3,Cc,AM];exact Apb hl ha h0 k _ r hr (hrs.trans hs) (by omega) (by simp only [AW,Bp];omega);simp only [eT3,Cc,AM];rw [ZE hl h0 hb0 _ _ k (by omega)];exact ⟨[a],by unfold GL;simp,rfl⟩
variable {k:Nat} (ih:BS l k)
include ih
theorem Azk (b:Int) (hb:0<=b) (hk:2<=k):∃ n,En.g (RS.at k) k l (EE l) b=some (eT3 n (EE l) b):=by
 unfold En.g;obtain ⟨n,hn⟩:=ih.Sv false b hb hk;simp only [G3 hl h0 _ hb,Aq,hn,eT3];exact ⟨n,rfl⟩
theorem Azm {ts:List Tk} (hg:Good ts) (hs:ts <:+ l) (hk:64 * ts.length+45<=k):Rel l GT eT3 (En.g (RS.at k) k l (ix l ts) (-1)) (Ji ts):=by
 unfold En.g;rw [Acn hg];have hp:=OQ hg;refine CL (Hk hl ha _ hg hs _) (CO _ hg) (λ_ r _ hr hrs hn=>?_) λ_ b hb0 _=>?_;simp only [FF];have h1:=hrs.trans hs;refine CL (ih.block false r hr h1 (by omega)) (IS false hr) (λx r2 _ hr2 Es hn2=>?_) λa b hb0 _=>?_;simp only [eT3];exact CL (Hk hl ha _ hr2 (Es.trans h1) _) (CO _ hr2) (λ_ r3 _ _ _ _=>rfl) λ_ b hb0 _=>⟨x,Aj,rfl⟩;simp only [eT3,G3 hl h0 _ hb0,Aq];exact ⟨a,Aj,rfl⟩;obtain ⟨n,hn⟩:=ih.Sv false b hb0 (by omega);simp only [FF,hn,Aq,eT3,G3 hl h0 _ hb0];exact ⟨n,Aj,rfl⟩
theorem Xp (chunk:Bool) (r2:Int):∀ (m:Nat) (acc:List Tree) (ts:List Tk),Good ts->ts <:+ l->64 * ts.length+10 < m->acc.length+ts.length<=1000000->64 * ts.length+47<=k ->
  Rel l GT eT3 (C8.l0 m (RS.at k) l chunk r2 (λl4 x9 x10=>some ((20:Int),(⟨#[]⟩:Ah),(0:Int),r2,l4,x9,x10)) acc (ix l ts) (-1)) (Kw chunk r2 acc ts)
 | 0,_,_,_,_,h,_,_=>by omega
 | m+1,acc,ts,hg,hs,hm,hac,hk=>by
  have hp:=OQ hg;rw [C8.l0,Ag7 m hg hs,Auw chunk _ acc hg];simp only [Aq];obtain ⟨m',hm'⟩:∃ q,m=q+1:=⟨m - 1,by omega⟩;have Bt6:∀ (xs:List Tree) (b:Int),0<=b->∃ a',GT a'/\C8.l0 m (RS.at k) l chunk r2 (λl4 x9 x10=>some ((20:Int),(⟨#[]⟩:Ah),(0:Int),r2,l4,x9,x10)) xs (EE l) b=some (eT3 a' (EE l) b):=λxs b hb0=>by
   rw [hm',Afz hl h0 m' _ _ _ _ xs b hb0];exact ⟨.mk _ _ _ _ _,Aj,rfl⟩
  cases hE:JS ts with
  | true =>
   obtain ⟨e1,e2,e3⟩:=A2k hE;simp only [Bool.not_true,cond_false,e1,e2,e3,Bool.and_false,Bool.false_eq_true,if_false,if_true];rfl
  | false =>
  simp only [Bool.not_false,cond_true,OF m hg hs,Aq,E1 hl m hg hs,Bool.false_eq_true,if_false];refine FJ (Dt _) (λhc=>?_) λh1=>?_;simp only [hc,if_true];obtain ⟨g1,g2,g3⟩:=hg.tail (AT hc);exact Xp chunk r2 m acc _ g1 (g3.trans hs) (by omega) (by omega) (by omega);simp only [if_neg h1,E1 hl m hg hs,Aq];refine FJ (Dt _) (λhc=>?_) λh2=>?_;simp only [hc,if_true];obtain ⟨g1,g2,g3⟩:=hg.tail (AT hc);have gs:=g3.trans hs;have hend:∀ (xs:List Tree) (r:List Tk),Good r->r <:+ l->Rel l GT eT3 ((Cv.f m l (ix l r) (-1) (⟨#[59]⟩:Ah)).bind (λr36=>(apd 64 acc [(Tree.mk (30:Int) (⟨#[]⟩:Ah) (0:Int) (hd ts).2.2.2 xs)]).bind λRh=>some ((20:Int),(⟨#[]⟩:Ah),(0:Int),r2,Rh,r36.2,(-1:Int)))) (.ok (.mk 20 noB 0 r2 (acc++[.mk 30 noB 0 (hd ts).2.2.2 xs])) (if AB Hg r then r.tail else r)):=λxs r hr hrl=>by
   rw [E1 hl m hr hrl,Cm (by simp only [AW,Bp];omega)];rfl
  simp only [AM,Ag7 m g1 gs,Mr m g1 gs,Aq];unfold WC;cases hE2:JS ts.tail with
  | true =>
   simp only [Bool.not_true,cond_false,Aq,Bool.true_or,if_true];exact hend [] _ g1 gs
  | false =>
   simp only [Bool.not_false,cond_true,Aq,Bool.false_or];by_cases hS:AB Hg ts.tail=true;rw [if_pos hS,show AB (⟨#[59]⟩:Ah) ts.tail=true from hS];exact hend [] _ g1 gs;rw [if_neg hS,show AB (⟨#[59]⟩:Ah) ts.tail=false from by simpa using hS];simp only [Bool.not_false,cond_true];refine CL (Ve hl ha h0 m g1 gs (by omega)) (JT g1) (λxs r hv hr hrs hrn=>?_) λa b hb0 hga=>?_;exact hend xs r hr (hrs.trans gs);simp only [H5,IK hl h0 _ hb0,Aq];rw [Cm (by simp only [AW,Bp];omega)];exact ⟨.mk _ _ _ _ _,Aj,rfl⟩
  simp only [if_neg h2,AM];have more:∀ (x:Tree) (r:List Tk),Good r->r <:+ ts->r.length+1<=ts.length->Rel l GT eT3 ((apd 64 acc [x]).bind λl56=>C8.l0 m (RS.at k) l chunk r2 (λl4 x9 x10=>some ((20:Int),(⟨#[]⟩:Ah),(0:Int),r2,l4,x9,x10)) l56 (ix l r) (-1)) (Kw chunk r2 (acc++[x]) r):=λx r hr hrs hn=>by
   rw [Cm (by simp only [AW,Bp];omega)];exact Xp chunk r2 m _ r hr (hrs.trans hs) (by omega) (by simp only [BQ,AW,Bp];omega) (by omega)
  have Tv:∀ (x:Tree) (b:Int),0<=b->∃ a',GT a'/\((apd 64 acc [x]).bind λl56=>C8.l0 m (RS.at k) l chunk r2 (λl4 x9 x10=>some ((20:Int),(⟨#[]⟩:Ah),(0:Int),r2,l4,x9,x10)) l56 (EE l) b)=some (eT3 a' (EE l) b):=λx b hb0=>by
   rw [Cm (by simp only [AW,Bp];omega)];exact Bt6 _ b hb0
  have hst:Rel l GT eT3 (((RS.at k).EQ l (ix l ts) (-1) (hd ts).2.2.2).bind λEm=>(apd 64 acc [(Tree.mk Em.1 Em.2.1 Em.2.2.1 Em.2.2.2.1 Em.2.2.2.2.1)]).bind λRa=>C8.l0 m (RS.at k) l chunk r2 (λl4 x9 x10=>some ((20:Int),(⟨#[]⟩:Ah),(0:Int),r2,l4,x9,x10)) Ra Em.2.2.2.2.2.1 Em.2.2.2.2.2.2) ((Nw ts).then λx r=>Kw chunk r2 (acc++[x]) r):=by
   refine CL (ih.stat ts hg hs hk) (X8 hg) (λx r hv hr hrs hrn=>?_) λa b hb0 _=>?_;simp only [eT3,Cc];exact more x r hr hrs hrn;simp only [eT3,Cc];exact Tv a b hb0
  by_cases hF:(chunk && AB NM ts)=true;simp only [Bool.and_eq_true] at hF;obtain ⟨hc,hF⟩:=hF;subst hc;rw [if_pos (by rw [hF];rfl)];simp only [cond_true,E1 hl m hg hs,Aq,show AB (⟨#[102,117,110,99,116,105,111,110]⟩:Ah) ts=true from hF,if_true];rw [Ava (AT hF) hg];obtain ⟨g1,g2,g3⟩:=hg.tail (AT hF);have gs:=g3.trans hs;have hle:=hs.length_le
  -- behind the parameters
  have tl:∀ (nm:Ah) (ps:List Tree) (r:List Tk),Good r->r <:+ ts->r.length+1<=ts.length->ps.length<=1000000->Rel l GT eT3 ((CS.f m l (ix l r) (-1) (⟨#[41]⟩:Ah)).bind λDW=>((RS.at k).C8 l DW.1 DW.2 false).bind λCU=>(apd 64 ps [(Tree.mk CU.1 CU.2.1 CU.2.2.1 CU.2.2.2.1 CU.2.2.2.2.1)]).bind λKd=>(CS.f m l CU.2.2.2.2.2.1 CU.2.2.2.2.2.2 (⟨#[101,110,100]⟩:Ah)).bind λFU=>(apd 64 acc [(Tree.mk (31:Int) nm ((ps.length:Nat):Int) (hd ts).2.2.2 Kd)]).bind λl92=>C8.l0 m (RS.at k) l true r2 (λl4 x9 x10=>some ((20:Int),(⟨#[]⟩:Ah),(0:Int),r2,l4,x9,x10)) l92 FU.1 FU.2)
    ((Db Gi r).then λ_ r=>(FB false r).then λb r=>(Db GI r).then λ_ r=>Kw true r2 (acc++[.mk 31 nm ps.length (hd ts).2.2.2 (ps++[b])]) r):=λnm ps r hr hrs hn hps=>by
   have hrl:=hrs.trans hs;refine CL (Hk hl ha _ hr hrl _) (CO _ hr) (λ_ s _ hs1 hss hn'=>?_) λ_ b hb0 _=>?_;simp only [FF];have h3:=hss.trans hrl;refine CL (ih.block false s hs1 h3 (by omega)) (IS false hs1) (λx s2 _ hs2 Ka Bbp=>?_) λa b hb0 _=>?_;simp only [eT3,Cc];rw [Cm (by simp only [AW,Bp];omega)];simp only [Aq];have h4:=Ka.trans h3;refine CL (Hk hl ha _ hs2 h4 _) (CO _ hs2) (λ_ s3 _ hs3 Akh hn3=>?_) λ_ b hb0 _=>?_;simp only [FF];exact more _ s3 hs3 (Akh.trans (Ka.trans (hss.trans hrs))) (by omega);simp only [FF];exact Tv _ b hb0;simp only [eT3,Cc];rw [Cm (by simp only [AW,Bp];omega)];simp only [Aq,G3 hl h0 _ hb0];exact Tv _ b hb0;obtain ⟨n,hn⟩:=ih.Sv false b hb0 (by omega);simp only [FF,hn,Aq,eT3,Cc];rw [Cm (by simp only [AW,Bp];omega)];simp only [Aq,G3 hl h0 _ hb0];exact Tv _ b hb0
  have tlF:∀ (nm:Ah) (ps:List Tree) (b:Int),0<=b->ps.length<=3000000->∃ a',GT a'/\((CS.f m l (EE l) b (⟨#[41]⟩:Ah)).bind λDW=>((RS.at k).C8 l DW.1 DW.2 false).bind λCU=>(apd 64 ps [(Tree.mk CU.1 CU.2.1 CU.2.2.1 CU.2.2.2.1 CU.2.2.2.2.1)]).bind λKd=>(CS.f m l CU.2.2.2.2.2.1 CU.2.2.2.2.2.2 (⟨#[101,110,100]⟩:Ah)).bind λFU=>(apd 64 acc [(Tree.mk (31:Int) nm ((ps.length:Nat):Int) (hd ts).2.2.2 Kd)]).bind λl92=>C8.l0 m (RS.at k) l true r2 (λl4 x9 x10=>some ((20:Int),(⟨#[]⟩:Ah),(0:Int),r2,l4,x9,x10)) l92 FU.1 FU.2)=some (eT3 a' (EE l) b):=λnm ps b hb0 hps=>by
   obtain ⟨n,hn⟩:=ih.Sv false b hb0 (by omega);simp only [G3 hl h0 _ hb0,Aq,hn,eT3,Cc];rw [Cm (by simp only [AW,Bp];omega)];simp only [Aq,G3 hl h0 _ hb0];exact Tv _ b hb0
  have whole:Rel l GT eT3 ((FH.f m l (ix l ts.tail) (-1) (6:Int)).bind λr60=>(CS.f m l r60.2.2.2.2.2.1 r60.2.2.2.2.2.2 (⟨#[40]⟩:Ah)).bind λr65=>(DF.f m l r65.1 r65.2 (⟨#[41]⟩:Ah)).bind λWv=>cond (!Wv) ((Gd.f m l r65.1 r65.2).bind λKu=>(CS.f m l Ku.2.1 Ku.2.2 (⟨#[41]⟩:Ah)).bind λDW=>((RS.at k).C8 l DW.1 DW.2 false).bind λCU=>(apd 64 Ku.1 [(Tree.mk CU.1 CU.2.1 CU.2.2.1 CU.2.2.2.1 CU.2.2.2.2.1)]).bind λKd=>(CS.f m l CU.2.2.2.2.2.1 CU.2.2.2.2.2.2 (⟨#[101,110,100]⟩:Ah)).bind λFU=>(apd 64 acc [(Tree.mk (31:Int) r60.2.1 ((Ku.1.length:Nat):Int) (hd ts).2.2.2 Kd)]).bind λl92=>C8.l0 m (RS.at k) l true r2 (λl4 x9 x10=>some ((20:Int),(⟨#[]⟩:Ah),(0:Int),r2,l4,x9,x10)) l92 FU.1 FU.2) ((CS.f m l r65.1 r65.2 (⟨#[41]⟩:Ah)).bind λDW=>((RS.at k).C8 l DW.1 DW.2 false).bind λCU=>(apd 64 [] [(Tree.mk CU.1 CU.2.1 CU.2.2.1 CU.2.2.2.1 CU.2.2.2.2.1)]).bind λKd=>(CS.f m l CU.2.2.2.2.2.1 CU.2.2.2.2.2.2 (⟨#[101,110,100]⟩:Ah)).bind λFU=>(apd 64 acc [(Tree.mk (31:Int) r60.2.1 ((([]:List Tree).length:Nat):Int) (hd ts).2.2.2 Kd)]).bind λl92=>C8.l0 m (RS.at k) l true r2 (λl4 x9 x10=>some ((20:Int),(⟨#[]⟩:Ah),(0:Int),r2,l4,x9,x10)) l92 FU.1 FU.2))
    ((G9 6 ts.tail).then λnm r=>(Db Pw r).then λ_ r=>(Uu r).then λps r=>(Db Gi r).then λ_ r=>(FB false r).then λb r=>(Db GI r).then λ_ r=>Kw true r2 (acc++[.mk 31 nm.text ps.length (hd ts).2.2.2 (ps++[b])]) r):=by
   refine CL (N_ hl ha _ g1 gs 6) (fName 6 g1) (λnm r _ hr hrs hrn=>?_) λa b hb0 _=>?_;simp only [eT3];have h1':=hrs.trans gs;refine CL (Hk hl ha _ hr h1' _) (CO _ hr) (λ_ s _ hs1 hss hn'=>?_) λ_ b hb0 _=>?_;simp only [FF];have hsl:=hss.trans h1';rw [Mr m hs1 hsl];simp only [Aq];unfold Uu;by_cases hR:AB Gi s=true;rw [if_pos hR,show AB (⟨#[41]⟩:Ah) s=true from hR];exact tl nm.text [] s hs1 (hss.trans (hrs.trans g3)) (by omega) (by simp);rw [if_neg hR,show AB (⟨#[41]⟩:Ah) s=false from by simpa using hR];simp only [Bool.not_false,cond_true];refine CL (Apd hl ha h0 m hs1 hsl (by omega)) (ON hs1) (λps s2 hv hs2 Ka hn2=>?_) λa b hb0 hga=>?_;have hln:=Tm hs1 hv;exact tl nm.text ps s2 hs2 (Ka.trans (hss.trans (hrs.trans g3))) (by omega) (by omega);exact tlF nm.text a b hb0 hga;simp only [FF,Uh hl h0 _ hb0,Aq,Bool.not_false,cond_true,Aph hl h0 _ hb0 (show 0 < m by omega)];exact tlF nm.text [Rr] b hb0 (by simp);simp only [eT3,G3 hl h0 m hb0 (⟨#[40]⟩:Ah),Aq,Uh hl h0 _ hb0,Bool.not_false,cond_true,Aph hl h0 _ hb0 (show 0 < m by omega)];exact tlF a.text [Rr] b hb0 (by simp)
  simp only [then_assoc];exact whole;rw [if_neg hF];cases chunk with
  | false =>
   simp only [cond_false];exact hst
  | true =>
   simp only [cond_true,E1 hl m hg hs,Aq];have hF':AB NM ts=false:=by simpa using hF
   rw [show AB (⟨#[102,117,110,99,116,105,111,110]⟩:Ah) ts=false from hF'];simp only [cond_false,Bool.false_eq_true,if_false];exact hst
theorem Af0 (c:Bool) {ts:List Tk} (hg:Good ts) (hs:ts <:+ l) (hk:64 * ts.length+49<=k):Rel l GT eT3 (C8.g (RS.at k) k l (ix l ts) (-1) c) (FB c ts):=by
 unfold C8.g;rw [OF k hg hs,Auy c hg];simp only [Aq,AM];have:=hs.length_le;exact Xp hl ha h0 ih c (hd ts).2.2.2 k [] ts hg hs (by omega) (by simp only [Bp];omega) (by omega)
omit ih in
theorem Aul (J:List Tree->Int->Int->Option (Int×Ah×Int×Int×List Tree×Int×Int)) (g:List Tree->List Tk->PV Tree) (Ag:Nat) (hJ:∀ a r,Good r->r <:+ l->r.length<=Ag->a.length<=1000000->Rel l GT eT3 (J a (ix l r) (-1)) (g a r)) (hJF:∀ a b,0<=b->a.length<=1000001->∃ a',GT a'/\J a (EE l) b=some (eT3 a' (EE l) b)) :
  ∀ (m:Nat) (acc:List Tree) (e:Tree) (ts:List Tk),0<=e.at_->Good ts->ts <:+ l->64 * ts.length+2 < m->ts.length<=Ag->acc.length+ts.length+1<=1000000->Rel l GT eT3 (Ff.l0 m l J acc e.kind e.text e.n e.at_ e.kids (ix l ts) (-1)) ((Qi acc e ts).then g)
 | 0,_,_,_,_,_,_,h,_,_=>by omega
 | m+1,acc,e,ts,he,hg,hs,hm,hN,hac=>by
  have hp:=OQ hg;rw [Ff.l0,Avq acc e hg];simp only [AM,Cc,show decide ((-1:Int) < 0)=true from rfl,cond_true];have hq:(cond (e.kind != (6:Int)) (some (e.kind != (7:Int))) (some false):Option Bool)=some (!decide (e.kind=6\/e.kind=7)):=by
   rw [bne,bne,N9,N9];by_cases h6:e.kind=6;simp [h6];simp [h6]
  rw [hq];simp only [Aq];obtain ⟨m',hm'⟩:∃ q,m=q+1:=⟨m - 1,by omega⟩;by_cases hk:e.kind=6\/e.kind=7;rw [if_pos hk,decide_eq_true hk];simp only [Bool.not_true,cond_false];rw [Cm (by simp only [AW,Bp];omega)];simp only [Aq,E1 hl m hg hs];by_cases hc:AB Et ts=true;rw [show AB (⟨#[44]⟩:Ah) ts=true from hc];simp only [Bool.not_true,cond_false,if_true];rw [then_assoc];obtain ⟨g1,g2,g3⟩:=hg.tail (AT hc);have gs:=g3.trans hs;refine CL (Aim hl ha h0 m g1 gs (by omega)) (OO g1) (λx r hv hr hrs hn=>?_) λa b hb0 _=>?_;refine Aul J g Ag hJ hJF m _ x r ?_ hr (hrs.trans gs) (by omega) (by omega) (by simp only [BQ,AW,Bp];omega);rw [Atz g1 hv];exact (ha.suf gs).hd;have hstop:∀ kd tx n p ks,Ff.l0 (m'+1) l J (acc++[e]) kd tx n p ks (EE l) b=J (acc++[e]) (EE l) b:=λkd tx n p ks=>by rw [Ff.l0,decide_eq_false (by omega)];rfl
  rw [hm'];simp only [eT3,hstop];exact hJF (acc++[e]) b hb0 (by simp only [BQ,AW,Bp];omega);rw [show AB (⟨#[44]⟩:Ah) ts=false from by simpa using hc];simp only [Bool.not_false,cond_true,Bool.false_eq_true,if_false];exact hJ _ ts hg hs hN (by simp only [BQ,AW,Bp];omega);rw [if_neg hk,decide_eq_false hk];simp only [Bool.not_false,cond_true,Su hl h0 m,Aq];rw [Cm (by simp only [AW,Bp];omega)];simp only [Aq,IK hl h0 m he,Bool.not_false,cond_true];obtain ⟨a',ha',h⟩:=hJF (acc++[e]) e.at_ he (by simp only [BQ,AW,Bp];omega);exact ⟨he,a',ha',h⟩
omit ih in
theorem Bqb (k:Nat) {ts:List Tk} (hg:Good ts) (hs:ts <:+ l) (hk:64 * ts.length+45<=k):Rel l GT eT3 (Ff.g (RS.at k) k l (ix l ts) (-1) (hd ts).2.2.2) (Qh ts):=by
 unfold Ff.g;rw [Avj hg];have hle:=hs.length_le;have hp:=OQ hg;refine CL (Aim hl ha h0 k hg hs (by omega)) (OO hg) (λe r hv hr hrs hn=>?_) λa b hb0 _=>?_;have h1:=hrs.trans hs;have hat:=Atz hg hv;simp only [eT3,Cc,Mr k hr h1,Aq,AM];have hq:(cond (!AB (⟨#[61]⟩:Ah) r) (some (!AB (⟨#[44]⟩:Ah) r)) (some false):Option Bool)=some (!(AB EK r || AB Et r)):=by
  show (cond (!AB EK r) (some (!AB Et r)) (some false):Option Bool)=_;cases AB EK r <;> cases AB Et r <;> rfl
 rw [hq];simp only [Aq];cases hb:(AB EK r || AB Et r) with
 | true =>
  simp only [Bool.not_true,cond_false,if_true];have h:=Aul hl ha h0 (λD4 x25 x26=>(CS.f k l x25 x26 (⟨#[61]⟩:Ah)).bind λr28=>(Dc.f k l r28.1 r28.2).bind λr29=>(apd 64 D4 r29.1).bind λl34=>some ((22:Int),(⟨#[]⟩:Ah),((D4.length:Nat):Int),(hd ts).2.2.2,l34,r29.2.1,r29.2.2)) (λl r=>(Db EK r).then λ_ r=>(FV r).then λes r=>.ok (.mk 22 noB l.length (hd ts).2.2.2 (l++es)) r) r.length (λa s hs1 hsl hsn ha'=>by
   refine CL (Hk hl ha _ hs1 hsl _) (CO _ hs1) (λ_ s2 _ hs2 Ka hn2=>?_) λ_ b hb0 _=>?_;simp only [FF];refine CL (Ve hl ha h0 k hs2 (Ka.trans hsl) (by omega)) (JT hs2) (λes s3 hv3 hs3 Akh hn3=>?_) λc b hb0 hga=>?_;have hln:=NV hs2 hv3;have:=hsl.length_le;simp only [H5];rw [Cm (by omega)];rfl;unfold GL at hga;simp only [H5];rw [Cm (by omega)];exact ⟨.mk _ _ _ _ _,Aj,rfl⟩;simp only [FF,Vd hl ha h0 k b hb0 (by omega),Aq];rw [Cm (by simp only [AW,Bp];omega)];exact ⟨.mk _ _ _ _ _,Aj,rfl⟩) (λa b hb0 ha'=>by
   simp only [G3 hl h0 _ hb0,Aq,Vd hl ha h0 k b hb0 (by omega)];rw [Cm (by simp only [AW,Bp];omega)];exact ⟨.mk _ _ _ _ _,Aj,rfl⟩) k [] e r (by rw [hat];exact (ha.suf hs).hd) hr h1 (by omega) (Nat.le_refl _) (by simp only [Bp];omega)
  rw [hat] at h ⊢;exact h
 | false =>
  simp only [Bool.not_false,cond_true,Bool.false_eq_true,if_false];by_cases h8:e.kind=8;rw [if_pos h8,h8,hat];rfl;rw [if_neg h8,show (e.kind != 8)=true by rw [bne_iff_ne];exact h8];simp only [cond_true,OF k hr h1,Aq,Su hl h0 k];exact ⟨(ha.suf h1).hd,.mk _ _ _ _ _,Aj,rfl⟩
 simp only [eT3,Cc,Uh hl h0 _ hb0,Aq,Bool.not_false,cond_true,AM];obtain ⟨t,ht⟩:=UL hl h0 k hb0;cases a.kind != (8:Int) with
 | true =>
  simp only [cond_true,ht,Aq,Xk hl h0 k hb0];exact ⟨.mk _ _ _ _ _,Aj,rfl⟩
 | false =>
  simp only [cond_false];exact ⟨.mk _ _ _ _ _,Aj,rfl⟩
omit ih in
theorem Aig (m:Nat) (J:List Tree->Int->Int->Option (Int×Ah×Int×Int×List Tree×Int×Int)) (acc:List Tree) (b:Int) (hb:0<=b):Fe.l0 (m+1) l J acc (EE l) b=J acc (EE l) b:=by
 rw [Fe.l0,IK hl h0 m hb];rfl
omit ih in
theorem Aik (J:List Tree->Int->Int->Option (Int×Ah×Int×Int×List Tree×Int×Int)) (g:List Tree->List Tk->PV Tree) (Ag:Nat) (hJ:∀ a r,Good r->r <:+ l->r.length<=Ag->a.length+r.length<=1000000->Rel l GT eT3 (J a (ix l r) (-1)) (g a r)) (hJF:∀ a b,0<=b->a.length<=1000001->∃ a',GT a'/\J a (EE l) b=some (eT3 a' (EE l) b)) :
  ∀ (m:Nat) (acc:List Tree) (ts:List Tk),Good ts->ts <:+ l->ts.length+1 < m->ts.length<=Ag->acc.length+ts.length<=1000000->Rel l GT eT3 (Fe.l0 m l J acc (ix l ts) (-1)) ((Kx acc ts).then g)
 | 0,_,_,_,_,h,_,_=>by omega
 | m+1,acc,ts,hg,hs,hm,hN,hc=>by
  rw [Fe.l0,E1 hl m hg hs,Ov acc hg];simp only [Aq];by_cases hc':AB Et ts=true;rw [show AB (⟨#[44]⟩:Ah) ts=true from hc'];simp only [cond_true,if_true];rw [then_assoc];obtain ⟨g1,g2,g3⟩:=hg.tail (AT hc');have gs:=g3.trans hs;refine CL (N_ hl ha _ g1 gs 6) (fName 6 g1) (λx r hv hr hrs hrn=>?_) λa b hb0 _=>?_;simp only [eT3,Cc];rw [Cm (by simp only [AW,Bp];omega)];simp only [Aq];exact Aik J g Ag hJ hJF m _ r hr (hrs.trans gs) (by omega) (by omega) (by simp only [BQ,AW,Bp];omega);simp only [eT3,Cc];rw [Cm (by simp only [AW,Bp];omega)];obtain ⟨m,rfl⟩:∃ q,m=q+1:=⟨m - 1,by omega⟩;simp only [Aq,Aig hl ha h0 m J _ b hb0];exact hJF _ b hb0 (by simp only [BQ,AW,Bp];omega);rw [show AB (⟨#[44]⟩:Ah) ts=false from by simpa using hc'];simp only [cond_false,Bool.false_eq_true,if_false];exact hJ _ ts hg hs hN hc
theorem A4o (at_:Int) {ts:List Tk} (hg:Good ts) (hs:ts <:+ l) (hk:64 * ts.length+47<=k):Rel l GT eT3 (Fe.g (RS.at k) k l (ix l ts) (-1) at_) (Qg at_ ts):=by
 unfold Fe.g;rw [Au9 at_ hg];have hle:=hs.length_le;have hp:=OQ hg;obtain ⟨k',hk'⟩:∃ q,k=q+1:=⟨k - 1,by omega⟩
 -- the body, and the end
 have tl:∀ (kd nn:Int) (xs:List Tree) (r:List Tk),Good r->r <:+ l->r.length+1<=ts.length->xs.length<=4000000->Rel l GT eT3 (((RS.at k).En l (ix l r) (-1)).bind λr47=>(apd 64 xs [(Tree.mk r47.1 r47.2.1 r47.2.2.1 r47.2.2.2.1 r47.2.2.2.2.1)]).bind λl55=>some (kd,(⟨#[]⟩:Ah),nn,at_,l55,r47.2.2.2.2.2.1,r47.2.2.2.2.2.2)) ((Ji r).then λbd r=>.ok (.mk kd noB nn at_ (xs++[bd])) r):=λkd nn xs r hr hrl hn hxs=>by
  refine CL (ih.body r hr hrl (by omega)) (OM hr) (λx s _ _ _ _=>?_) λa b hb0 _=>?_;simp only [eT3,Cc];rw [Cm (by simp only [AW,Bp];omega)];rfl;simp only [eT3,Cc];rw [Cm (by simp only [AW,Bp];omega)];exact ⟨.mk _ _ _ _ _,Aj,rfl⟩
 have tlF:∀ (kd nn:Int) (xs:List Tree) (b:Int),0<=b->xs.length<=4000000->∃ a',GT a'/\(((RS.at k).En l (EE l) b).bind λr47=>(apd 64 xs [(Tree.mk r47.1 r47.2.1 r47.2.2.1 r47.2.2.2.1 r47.2.2.2.2.1)]).bind λl55=>some (kd,(⟨#[]⟩:Ah),nn,at_,l55,r47.2.2.2.2.2.1,r47.2.2.2.2.2.2))=some (eT3 a' (EE l) b):=λkd nn xs b hb0 hxs=>by
  obtain ⟨n,hn⟩:=ih.Af4 b hb0 (by omega);simp only [hn,Aq,eT3,Cc];rw [Cm (by simp only [AW,Bp];omega)];exact ⟨.mk _ _ _ _ _,Aj,rfl⟩
 -- behind the names of a 'for in'
 have inF:∀ (xs:List Tree) (b:Int),0<=b->xs.length<=1000001->∃ a',GT a'/\((CS.f k l (EE l) b (⟨#[105,110]⟩:Ah)).bind λCw=>(Dc.f k l Cw.1 Cw.2).bind λJe=>(apd 64 xs Je.1).bind λKQ=>((RS.at k).En l Je.2.1 Je.2.2).bind λr95=>(apd 64 KQ [(Tree.mk r95.1 r95.2.1 r95.2.2.1 r95.2.2.2.1 r95.2.2.2.2.1)]).bind λNR=>some ((27:Int),(⟨#[]⟩:Ah),((xs.length:Nat):Int),at_,NR,r95.2.2.2.2.2.1,r95.2.2.2.2.2.2))=some (eT3 a' (EE l) b):=λxs b hb0 hxs=>by
  simp only [G3 hl h0 _ hb0,Aq,Vd hl ha h0 k b hb0 (by omega)];rw [Cm (by simp only [AW,Bp];omega)];exact tlF 27 _ _ b hb0 (by simp only [BQ,AW,Bp];omega)
 have Bfv:∀ (xs:List Tree) (r:List Tk),Good r->r <:+ l->r.length+1<=ts.length->xs.length+r.length<=1000000->Rel l GT eT3 ((CS.f k l (ix l r) (-1) (⟨#[105,110]⟩:Ah)).bind λCw=>(Dc.f k l Cw.1 Cw.2).bind λJe=>(apd 64 xs Je.1).bind λKQ=>((RS.at k).En l Je.2.1 Je.2.2).bind λr95=>(apd 64 KQ [(Tree.mk r95.1 r95.2.1 r95.2.2.1 r95.2.2.2.1 r95.2.2.2.2.1)]).bind λNR=>some ((27:Int),(⟨#[]⟩:Ah),((xs.length:Nat):Int),at_,NR,r95.2.2.2.2.2.1,r95.2.2.2.2.2.2)) ((Db V4 r).then λ_ r=>(FV r).then λes r=>(Ji r).then λbd r=>.ok (.mk 27 noB xs.length at_ (xs++es++[bd])) r):=λxs r hr hrl hn hxs=>by
  refine CL (Hk hl ha _ hr hrl _) (CO _ hr) (λ_ s _ hs1 hss hn'=>?_) λ_ b hb0 _=>?_;simp only [FF];have h3:=hss.trans hrl;refine CL (Ve hl ha h0 k hs1 h3 (by omega)) (JT hs1) (λes s2 hv2 hs2 Ka hn2=>?_) λc b hb0 hga=>?_;have hln:=NV hs1 hv2;simp only [H5];rw [Cm (by omega)];exact tl 27 _ _ s2 hs2 (Ka.trans h3) (by omega) (by simp only [BQ];omega);unfold GL at hga;simp only [H5];rw [Cm (by omega)];exact tlF 27 _ _ b hb0 (by simp only [BQ];omega);simp only [FF,Aq,Vd hl ha h0 k b hb0 (by omega)];rw [Cm (by simp only [AW,Bp];omega)];exact tlF 27 _ _ b hb0 (by simp only [BQ,AW,Bp];omega)
 refine CL (N_ hl ha _ hg hs 6) (fName 6 hg) (λn r hv hr hrs hrn=>?_) λa b hb0 _=>?_;simp only [eT3,Cc,AM];have h1:=hrs.trans hs;rw [E1 hl k hr h1];simp only [Aq];refine FJ (Dt _) (λhc=>?_) λhne=>?_;simp only [hc,if_true];obtain ⟨g1,g2,g3⟩:=hr.tail (AT hc);have gs:=g3.trans h1
 -- behind the first bound
 have D6:∀ (xs:List Tree) (b:Int),0<=b->xs.length<=100->∃ a',GT a'/\((Cv.f k l (EE l) b (⟨#[44]⟩:Ah)).bind λr60=>cond r60.1 ((Cs.f k l r60.2 b (1:Int)).bind λr62=>(apd 64 xs [(Tree.mk r62.1 r62.2.1 r62.2.2.1 r62.2.2.2.1 r62.2.2.2.2.1)]).bind λl70=>((RS.at k).En l r62.2.2.2.2.2.1 r62.2.2.2.2.2.2).bind λr47=>(apd 64 l70 [(Tree.mk r47.1 r47.2.1 r47.2.2.1 r47.2.2.2.1 r47.2.2.2.2.1)]).bind λl55=>some ((26:Int),(⟨#[]⟩:Ah),(0:Int),at_,l55,r47.2.2.2.2.2.1,r47.2.2.2.2.2.2)) (((RS.at k).En l r60.2 b).bind λr47=>(apd 64 xs [(Tree.mk r47.1 r47.2.1 r47.2.2.1 r47.2.2.2.1 r47.2.2.2.2.1)]).bind λl55=>some ((26:Int),(⟨#[]⟩:Ah),(0:Int),at_,l55,r47.2.2.2.2.2.1,r47.2.2.2.2.2.2)))=some (eT3 a' (EE l) b):=λxs b hb0 hxs=>by
  simp only [IK hl h0 _ hb0,Aq,cond_false];exact tlF 26 0 xs b hb0 (by omega)
 refine CL (S4 hl ha h0 k g1 gs (by omega)) (Da (by omega) g1) (λx r2 _ hr2 Es hn2=>?_) λa b hb0 _=>?_;simp only [eT3,Cc];have h2:=Es.trans gs;rw [Cm (by simp)];simp only [Aq];refine CL (Hk hl ha _ hr2 h2 _) (CO _ hr2) (λ_ r3 _ hr3 GH hn3=>?_) λ_ b hb0 _=>?_;simp only [FF];have h3:=GH.trans h2;refine CL (S4 hl ha h0 k hr3 h3 (by omega)) (Da (by omega) hr3) (λy r4 _ hr4 QG hn4=>?_) λa b hb0 _=>?_;simp only [eT3,Cc];have h4:=QG.trans h3;rw [Cm (by simp)];simp only [Aq,E1 hl k hr4 h4];unfold Uv;by_cases hC:AB Et r4=true;rw [if_pos hC,show AB (⟨#[44]⟩:Ah) r4=true from hC];simp only [cond_true,if_true];obtain ⟨g5,g6,g7⟩:=hr4.tail (AT hC);have gs5:=g7.trans h4;rw [then_assoc];refine CL (S4 hl ha h0 k g5 gs5 (by omega)) (Da (by omega) g5) (λz r5 _ hr5 YR hn5=>?_) λa b hb0 _=>?_;simp only [eT3,Cc];rw [Cm (by simp)];exact tl 26 0 _ r5 hr5 (YR.trans gs5) (by omega) (by simp);simp only [eT3,Cc];rw [Cm (by simp)];exact tlF 26 0 _ b hb0 (by simp);rw [if_neg hC,show AB (⟨#[44]⟩:Ah) r4=false from by simpa using hC];simp only [cond_false,Bool.false_eq_true,if_false];have:=tl 26 0 ([n]++[x]++[y]) r4 hr4 h4 (by omega) (by simp);simp only [PV.then,List.append_nil];exact this;simp only [eT3,Cc];rw [Cm (by simp)];exact D6 _ b hb0 (by simp);simp only [FF,Ah3 hl h0 k 1 b hb0,Aq];rw [Cm (by simp)];exact D6 _ b hb0 (by simp);simp only [eT3,Cc];rw [Cm (by simp)];simp only [Aq,G3 hl h0 _ hb0,Ah3 hl h0 k 1 b hb0];rw [Cm (by simp)];exact D6 _ b hb0 (by simp);simp only [if_neg hne];refine Aik hl ha h0 _ _ r.length (λa s hs1 hsl hsn ha'=>?_) inF k [n] r hr h1 (by omega) (Nat.le_refl _) (by simp only [AW,Bp];omega);exact Bfv a s hs1 hsl (by omega) ha';simp only [eT3,Cc,AM,IK hl h0 _ hb0,Aq,cond_false];rw [hk',Aig hl ha h0 k' _ _ b hb0,<- hk'];exact inF [a] b hb0 (by simp)
theorem Akt (J:List Tree->Int->Int->Option (Int×Ah×Int×Int×List Tree×Int×Int)) (T:List Tree->Tree)
  (hJ:∀ a r,Good r->r <:+ l->64 * r.length+50<=k->a.length<=1000000->Rel l GT eT3 (J a (ix l r) (-1)) ((if AB NL r then (FB false r.tail).then λc r=>(Db GI r).then λ_ r=>.ok (a++[c]) r else (Db GI r).then λ_ r=>.ok a r).then λl r=>.ok (T l) r))
  (hJF:∀ a b,0<=b->a.length<=1000002->∃ a',GT a'/\J a (EE l) b=some (eT3 a' (EE l) b)) :
  ∀ (m:Nat) (acc:List Tree) (ts:List Tk),Good ts->ts <:+ l->64 * ts.length+4 < m->acc.length+2 * ts.length<=1000000->64 * ts.length<=k->Rel l GT eT3 (EQ.l0 m (RS.at k) l J true acc (ix l ts) (-1)) ((Nv acc ts).then λl r=>.ok (T l) r)
 | 0,_,_,_,_,h,_,_=>by omega
 | m+1,acc,ts,hg,hs,hm,hac,hk=>by
  have hp:=OQ hg;rw [EQ.l0,Au0 acc hg];simp only [cond_true,then_assoc];obtain ⟨m',hm'⟩:∃ q,m=q+1:=⟨m - 1,by omega⟩;have stop:∀ (acc:List Tree) (i f:Int),EQ.l0 m (RS.at k) l J false acc i f=J acc i f:=λacc i f=>by rw [hm',EQ.l0];rfl
  have Ag4:∀ (e:Tree) (b:Int),0<=b->∃ a',GT a'/\(((RS.at k).C8 l (EE l) b false).bind λr91=>(apd 64 acc [e,(Tree.mk r91.1 r91.2.1 r91.2.2.1 r91.2.2.2.1 r91.2.2.2.2.1)]).bind λQZ=>(Cv.f m l r91.2.2.2.2.2.1 r91.2.2.2.2.2.2 (⟨#[101,108,115,101,105,102]⟩:Ah)).bind λOd=>EQ.l0 m (RS.at k) l J Od.1 QZ Od.2 r91.2.2.2.2.2.2)=some (eT3 a' (EE l) b):=λe b hb0=>by
   obtain ⟨n,hn⟩:=ih.Sv false b hb0 (by omega);simp only [hn,Aq,eT3,Cc];rw [Cm (by simp only [AW,Bp];omega)];simp only [Aq,IK hl h0 _ hb0,stop];exact hJF _ b hb0 (by simp only [BQ,AW,Bp];omega)
  refine CL (S4 hl ha h0 m hg hs (by omega)) (Da (by omega) hg) (λe r _ hr hrs hn=>?_) λa b hb0 _=>?_;simp only [eT3,Cc];have h1:=hrs.trans hs;refine CL (Hk hl ha _ hr h1 _) (CO _ hr) (λ_ r2 _ hr2 Es hn2=>?_) λ_ b hb0 _=>?_;simp only [FF];have h2:=Es.trans h1;refine CL (ih.block false r2 hr2 h2 (by omega)) (IS false hr2) (λbb r3 _ hr3 GH hn3=>?_) λa b hb0 _=>?_;simp only [eT3,Cc];have h3:=GH.trans h2;rw [Cm (by simp only [AW,Bp];omega)];simp only [Aq,E1 hl m hr3 h3];have e2:acc++[e]++[bb]=acc++[e,bb]:=by simp
  rw [e2];by_cases hc:AB Pv r3=true;rw [if_pos hc,show AB (⟨#[101,108,115,101,105,102]⟩:Ah) r3=true from hc];simp only [if_true];obtain ⟨g1,g2,g3⟩:=hr3.tail (AT hc);exact Akt J T hJ hJF m _ _ g1 (g3.trans h3) (by omega) (by simp only [BQ,AW,Bp];omega) (by omega);rw [if_neg hc,show AB (⟨#[101,108,115,101,105,102]⟩:Ah) r3=false from by simpa using hc];simp only [Bool.false_eq_true,if_false,stop];exact hJ _ r3 hr3 h3 (by omega) (by simp only [BQ,AW,Bp];omega);simp only [eT3,Cc];rw [Cm (by simp only [AW,Bp];omega)];simp only [Aq,IK hl h0 _ hb0,stop];exact hJF _ b hb0 (by simp only [BQ,AW,Bp];omega);simp only [FF];exact Ag4 e b hb0;simp only [eT3,Cc,G3 hl h0 _ hb0,Aq];exact Ag4 a b hb0
theorem Bt0 (hl2:l.length<=400000) {ts:List Tk} (hg:Good ts) (hs:ts <:+ l) (hk:64 * ts.length+46<=k):Rel l GT eT3 (EQ.g (RS.at k) k l (ix l ts) (-1) (hd ts).2.2.2) (Nw ts):=by
 unfold EQ.g;rw [Avl hg];have hle:=hs.length_le;have hp:=OQ hg;simp only [AM,Mr k hg hs,Aq];have same:∀ {x:Option (Int×Ah×Int×Int×List Tree×Int×Int)} {v:PV Tree},Rel l GT eT3 x v->Rel l GT eT3 (x.bind λEy=>some (Ey.1,Ey.2.1,Ey.2.2.1,Ey.2.2.2.1,Ey.2.2.2.2.1,Ey.2.2.2.2.2.1,Ey.2.2.2.2.2.2)) v:=λ{x v} hx=>by
  have e:(x.bind λEy=>some (Ey.1,Ey.2.1,Ey.2.2.1,Ey.2.2.2.1,Ey.2.2.2.2.1,Ey.2.2.2.2.2.1,Ey.2.2.2.2.2.2))=x:=by cases x <;> rfl
  rw [e];exact hx
 refine FJ (Dt _) (λhc=>?_) λh1=>?_;refine CL (ih.body ts hg hs hk) (OM hg) (λx r _ _ _ _=>?_) λa b hb0 _=>?_;simp only [eT3,Cc];rfl;exact ⟨.mk _ _ _ _ _,Aj,rfl⟩;simp only [E1 hl k hg hs,Aq];refine FJ (Dt _) (λhc=>?_) λh2=>?_;simp only [hc,if_true];obtain ⟨g1,g2,g3⟩:=hg.tail (AT hc);have gs:=g3.trans hs;refine CL (S4 hl ha h0 k g1 gs (by omega)) (Da (by omega) g1) (λx r _ hr hrs hrn=>?_) λa b hb0 _=>?_;simp only [eT3,Cc];refine CL (ih.body r hr (hrs.trans gs) (by omega)) (OM hr) (λy s _ _ _ _=>?_) λa b hb0 _=>?_;simp only [eT3,Cc];rfl;exact ⟨.mk _ _ _ _ _,Aj,rfl⟩;obtain ⟨n,hn⟩:=ih.Af4 b hb0 (by omega);simp only [eT3,hn,Aq];exact ⟨.mk _ _ _ _ _,Aj,rfl⟩;simp only [if_neg h2,E1 hl k hg hs,Aq];refine FJ (Dt _) (λhc=>?_) λh3=>?_;simp only [hc,if_true];obtain ⟨g1,g2,g3⟩:=hg.tail (AT hc);refine Akt hl ha h0 ih _ (λl=>.mk 24 noB 0 (hd ts).2.2.2 l) (λa r hr hrl hk2 ha2=>?_) (λa b hb0 ha2=>?_) k [] _ g1 (g3.trans hs) (by omega) (by simp only [Bp];omega) (by omega);rw [E1 hl k hr hrl];simp only [Aq];by_cases hE:AB NL r=true;rw [if_pos hE,show AB (⟨#[101,108,115,101]⟩:Ah) r=true from hE];simp only [cond_true,if_true,then_assoc];obtain ⟨g4,g5,g6⟩:=hr.tail (AT hE);have gs4:=g6.trans hrl;refine CL (ih.block false _ g4 gs4 (by omega)) (IS false g4) (λc r3 _ hr3 GH hn3=>?_) λc b hb0 _=>?_;simp only [eT3,Cc];rw [Cm (by simp only [AW,Bp];omega)];simp only [Aq];exact CL (Hk hl ha _ hr3 (GH.trans gs4) _) (CO _ hr3) (λ_ _ _ _ _ _=>rfl) λ_ b hb0 _=>⟨.mk _ _ _ _ _,Aj,rfl⟩;simp only [eT3,Cc];rw [Cm (by simp only [AW,Bp];omega)];simp only [Aq,G3 hl h0 _ hb0];exact ⟨.mk _ _ _ _ _,Aj,rfl⟩;rw [if_neg hE,show AB (⟨#[101,108,115,101]⟩:Ah) r=false from by simpa using hE];simp only [cond_false,Bool.false_eq_true,if_false,then_assoc];exact CL (Hk hl ha _ hr hrl _) (CO _ hr) (λ_ _ _ _ _ _=>rfl) λ_ b hb0 _=>⟨.mk _ _ _ _ _,Aj,rfl⟩;simp only [IK hl h0 _ hb0,Aq,cond_false,G3 hl h0 _ hb0];exact ⟨.mk _ _ _ _ _,Aj,rfl⟩;simp only [if_neg h3,E1 hl k hg hs,Aq];refine FJ (Dt _) (λhc=>?_) λh4=>?_;simp only [hc,if_true];obtain ⟨g1,g2,g3⟩:=hg.tail (AT hc);exact same (ih.loop _ _ g1 (g3.trans hs) (by omega));simp only [if_neg h4,E1 hl k hg hs,Aq];refine FJ (Dt _) (λhc=>?_) λh5=>?_;simp only [hc,if_true];obtain ⟨g1,g2,g3⟩:=hg.tail (AT hc);have gs:=g3.trans hs;refine CL (Apd hl ha h0 k g1 gs (by omega)) (ON g1) (λxs r hv hr hrs hrn=>?_) λa b hb0 hga=>?_;have hln:=Tm g1 hv;have hrl:=hrs.trans gs;simp only [H5];rw [E1 hl k hr hrl];unfold Ut;simp only [Aq];by_cases hE:AB EK r=true;rw [if_pos hE,show AB (⟨#[61]⟩:Ah) r=true from hE];simp only [cond_true,if_true];obtain ⟨g4,g5,g6⟩:=hr.tail (AT hE);refine CL (Ve hl ha h0 k g4 (g6.trans hrl) (by omega)) (JT g4) (λes s hv2 hs2 Ka hn2=>?_) λc b hb0 hga=>?_;have Bbm:=NV g4 hv2;simp only [H5];rw [Cm (by omega)];rfl;unfold GL at hga;simp only [H5];rw [Cm (by omega)];exact ⟨.mk _ _ _ _ _,Aj,rfl⟩;rw [if_neg hE,show AB (⟨#[61]⟩:Ah) r=false from by simpa using hE];simp only [cond_false,Bool.false_eq_true,if_false,PV.then,List.append_nil];rfl;simp only [H5,IK hl h0 _ hb0,Aq,cond_false];exact ⟨.mk _ _ _ _ _,Aj,rfl⟩;simp only [if_neg h5,E1 hl k hg hs,Aq];refine FJ (Dt _) (λhc=>?_) λh6=>?_;simp only [hc,if_true];rfl;simp only [if_neg h6];exact same (ih.plain _ hg hs (by omega))
end
theorem bS {l:List Tk} (hl:l.length<=400000) (ha:K5 l) (h0:l≠[]):∀ k,BS l k
 | 0=>by constructor <;> intros <;> omega
 | k+1=>by
  have ih:=bS hl ha h0 k;have h1:l.length<=1000000:=by omega
  exact ⟨λc ts hg hs h=>Af0 h1 ha h0 ih c hg hs (by omega),λc b hb h=>Azj h1 h0 k (by omega) _ c b hb,λts hg hs h=>Bt0 h1 ha h0 ih hl hg hs (by omega),λat_ ts hg hs h=>A4o h1 ha h0 ih at_ hg hs (by omega),λts hg hs h=>Bqb h1 ha h0 k hg hs (by omega),λts hg hs h=>Azm h1 ha h0 ih hg hs (by omega),λb hb h=>Azk h1 ha h0 ih b hb (by omega)⟩
theorem A3p {l:List Tk} (hl:l.length<=400000) (ha:K5 l) (h0:l≠[]) (k:Nat) (c:Bool) {ts:List Tk} (hg:Good ts) (hs:ts <:+ l) (hk:64 * ts.length+49<=k):Rel l GT eT3 (C8.f k l (ix l ts) (-1) c) (FB c ts):=Af0 (by omega) ha h0 (bS hl ha h0 k) c hg hs hk
end
section
open Go Go.RowKit Lx
namespace Lx
def L8 (r:Nat):Nat:=if r < 128 then 1 else if r < 2048 then 2 else if r < 65536 then 3 else 4
theorem Bi2 (r:Nat):HY r=decide (97<=r/\r<=122\/65<=r/\r<=90\/r=95\/(128<=r/\r<=1114111/\r≠65533/\Utf8.valid (r:Int)=true)):=by
 unfold HY;generalize Utf8.valid (r:Int)=v;rw [Bool.eq_iff_iff];cases v <;> simp only [decide_eq_true_eq,Bool.or_eq_true,Bool.and_eq_true,beq_iff_eq,bne_iff_ne,Bool.false_eq_true,and_false,or_false,and_true,ne_eq] <;> omega
theorem Avv (r:Nat) (h:1114111 < r):Utf8.valid (r:Int)=false:=by
 unfold Utf8.valid;simp;omega
def ER:Nat->Nat->Bs->Option Nat
 | 0,r,_=>some r
 | _+1,_,[]=>none
 | k+1,r,b :: t=>if 128<=b.toNat/\b.toNat < 192 then ER k (r * 64+b.toNat - 128) t else none
theorem Atv:∀ (k r:Nat) (t:Bs),t.length < k->ER k r t=none
 | 0,_,_,h=>by omega
 | k+1,r,[],_=>rfl
 | k+1,r,b :: t,h=>by
  simp only [ER];split;exact Atv k _ t (by simpa using h);rfl
def FQ (n:Nat) (x:Option Nat):Nat×Nat:=match x with | none=>(65533,1) | some r=>if Utf8.valid r=true/\L8 r=n then (r,n) else (65533,1)
theorem Avu (r:Nat) (h:r < 55296):Utf8.valid (r:Int)=true:=by
 unfold Utf8.valid;simp;omega
theorem KC (c:UInt8):(c.toNat / 64 == 2)=decide (128<=c.toNat/\c.toNat < 192):=by
 rw [Bool.eq_iff_iff];simp;omega
theorem A1x (b:UInt8) (t:Bs) (h:b.toNat < 128):FQ 1 (ER 0 b.toNat t)=B1 (b :: t):=by
 rw [OK b t h];simp only [ER,FQ];rw [if_pos ⟨Avu _ (by omega),if_pos h⟩]
theorem A1y (b:UInt8) (t:Bs) (h1:192<=b.toNat) (h2:b.toNat < 224):FQ 2 (ER 1 (b.toNat - 192) t)=B1 (b :: t):=by
 have a0:¬ b.toNat < 128:=by omega
 have a1:(b.toNat / 32 == 6)=true:=by rw [beq_iff_eq];omega
 have a2:(b.toNat / 16 == 14)=false:=by rw [beq_eq_false_iff_ne];omega
 have a3:(b.toNat / 8 == 30)=false:=by rw [beq_eq_false_iff_ne];omega
 cases t with
 | nil=>simp [B1,ER,FQ,a0,a1,a2,a3]
 | cons c t =>
  by_cases hc:128<=c.toNat/\c.toNat < 192
  ·have ev:(b.toNat - 192) * 64+c.toNat - 128=b.toNat % 32 * 64+c.toNat % 64:=by omega
   simp only [ER,if_pos hc,FQ];rw [ev];have hv:Utf8.valid ((b.toNat % 32 * 64+c.toNat % 64:Nat):Int)=true:=Avu _ (by omega);have hl:L8 (b.toNat % 32 * 64+c.toNat % 64)=2 ↔ 128<=b.toNat % 32 * 64+c.toNat % 64:=by
    unfold L8
    (repeat' split) <;> omega
   simp only [B1,List.getD_cons_zero,List.getD_cons_succ,AW,KC,a0,a1,hc,hv,hl];simp
  ·simp [B1,ER,FQ,a0,a1,a2,a3,KC,hc]
theorem A2d (b:UInt8) (t:Bs) (h1:224<=b.toNat) (h2:b.toNat < 240):FQ 3 (ER 2 (b.toNat - 224) t)=B1 (b :: t):=by
 have a0:¬ b.toNat < 128:=by omega
 have a1:(b.toNat / 32 == 6)=false:=by rw [beq_eq_false_iff_ne];omega
 have a2:(b.toNat / 16 == 14)=true:=by rw [beq_iff_eq];omega
 have a3:(b.toNat / 8 == 30)=false:=by rw [beq_eq_false_iff_ne];omega
 match t with
 | []=>simp [B1,ER,FQ,a0,a1,a2,a3]
 | [c] =>
  by_cases hc:128<=c.toNat/\c.toNat < 192 <;> simp [B1,ER,FQ,a0,a1,a2,a3,KC,hc]
 | c :: d :: t =>
  by_cases hc:128<=c.toNat/\c.toNat < 192
  ·by_cases hd:128<=d.toNat/\d.toNat < 192
   ·have ev:((b.toNat - 224) * 64+c.toNat - 128) * 64+d.toNat - 128=b.toNat % 16 * 4096+c.toNat % 64 * 64+d.toNat % 64:=by omega
    simp only [ER,if_pos hc,if_pos hd,FQ];rw [ev];have hl:L8 (b.toNat % 16 * 4096+c.toNat % 64 * 64+d.toNat % 64)=3 ↔ 2048<=b.toNat % 16 * 4096+c.toNat % 64 * 64+d.toNat % 64:=by
     unfold L8
     (repeat' split) <;> omega
    simp only [B1,List.getD_cons_zero,List.getD_cons_succ,AW,KC,a0,a1,a2,hc,hd,hl];simp [and_comm]
   ·simp [B1,ER,FQ,a0,a1,a2,a3,KC,hc,hd]
  ·simp [B1,ER,FQ,a0,a1,a2,a3,KC,hc]
theorem A2f (b:UInt8) (t:Bs) (h1:240<=b.toNat) (h2:b.toNat < 248):FQ 4 (ER 3 (b.toNat - 240) t)=B1 (b :: t):=by
 have a0:¬ b.toNat < 128:=by omega
 have a1:(b.toNat / 32 == 6)=false:=by rw [beq_eq_false_iff_ne];omega
 have a2:(b.toNat / 16 == 14)=false:=by rw [beq_eq_false_iff_ne];omega
 have a3:(b.toNat / 8 == 30)=true:=by rw [beq_iff_eq];omega
 match t with
 | []=>simp [B1,ER,FQ,a0,a1,a2,a3]
 | [c] =>
  by_cases hc:128<=c.toNat/\c.toNat < 192 <;> simp [B1,ER,FQ,a0,a1,a2,a3,KC,hc]
 | [c,d] =>
  by_cases hc:128<=c.toNat/\c.toNat < 192 <;> by_cases hd:128<=d.toNat/\d.toNat < 192 <;> simp [B1,ER,FQ,a0,a1,a2,a3,KC,hc,hd]
 | c :: d :: e :: t =>
  by_cases hc:128<=c.toNat/\c.toNat < 192
  ·by_cases hd:128<=d.toNat/\d.toNat < 192
   ·by_cases he:128<=e.toNat/\e.toNat < 192
    ·have ev:(((b.toNat - 240) * 64+c.toNat - 128) * 64+d.toNat - 128) * 64+e.toNat - 128=b.toNat % 8 * 262144+c.toNat % 64 * 4096+d.toNat % 64 * 64+e.toNat % 64:=by omega
     simp only [ER,if_pos hc,if_pos hd,if_pos he,FQ];rw [ev];have hl:L8 (b.toNat % 8 * 262144+c.toNat % 64 * 4096+d.toNat % 64 * 64+e.toNat % 64)=4 ↔ 65536<=b.toNat % 8 * 262144+c.toNat % 64 * 4096+d.toNat % 64 * 64+e.toNat % 64:=by
      unfold L8
      (repeat' split) <;> omega
     simp only [B1,List.getD_cons_zero,List.getD_cons_succ,AW,KC,a0,a1,a2,a3,hc,hd,he,hl];simp [and_comm]
    ·simp [B1,ER,FQ,a0,a1,a2,a3,KC,hc,hd,he]
   ·simp [B1,ER,FQ,a0,a1,a2,a3,KC,hc,hd]
  ·simp [B1,ER,FQ,a0,a1,a2,a3,KC,hc]
theorem Ag6 (b:UInt8) (t:Bs) (h0:128<=b.toNat) (h:b.toNat < 192\/248<=b.toNat):B1 (b :: t)=(65533,1):=by
 have a0:¬ b.toNat < 128:=by omega
 have a1:(b.toNat / 32 == 6)=false:=by rw [beq_eq_false_iff_ne];have:=b.toNat_lt;omega
 have a2:(b.toNat / 16 == 14)=false:=by rw [beq_eq_false_iff_ne];omega
 have a3:(b.toNat / 8 == 30)=false:=by rw [beq_eq_false_iff_ne];omega
 simp [B1,a0,a1,a2,a3]
end Lx
def Evt {α:Type} (g:Nat->Option α) (r:α):Prop:=∃ K,∀ k,K<=k->g k=some r
theorem Evt.bind {α β:Type} {g:Nat->Option α} {f:Nat->α->Option β} {a:α} {r:β} (h1:Evt g a) (h2:Evt (λk=>f k a) r):Evt (λk=>(g k).bind (f k)) r:=by
 obtain ⟨K1,h1⟩:=h1;obtain ⟨K2,h2⟩:=h2;exact ⟨max K1 K2,λk hk=>by show (g k).bind (f k)=some r;rw [h1 k (by omega)];exact h2 k (by omega)⟩
theorem wi (x:Int) (h0:-9223372036854775808<=x) (h1:x<=9223372036854775807):Au x=x:=by unfold Au IntKind.wrap;simp [IntKind.bits,IntKind.signed];omega
theorem wb (c:UInt8):Au (c.toNat:Int)=c.toNat:=wi _ (by omega) (by have:=c.toNat_lt;omega)
theorem EJ {α:Type} (p:Prop) [Decidable p] (a b:α):cond (decide p) a b=if p then a else b:=Bool.cond_decide p a b
theorem Agm {α:Type} (x y:Int) (a b:α):cond (x == y) a b=if x=y then a else b:=by rw [<- EJ];rfl
theorem Agn {α:Type} (x y:Int) (a b:α):cond (x != y) a b=if x=y then b else a:=by
 by_cases h:x=y;subst h;simp;rw [if_neg h,show (x != y)=true from bne_iff_ne.2 h];rfl
theorem Uf (s:Ah) (i:Nat):Dm s (i:Int)=(bs s)[i]?:=by
 unfold Dm;rw [if_pos (by omega),Int.toNat_natCast];simp only [bs];rcases Nat.lt_or_ge i s.size with h | h;rw [getElem?_pos s i h,List.getElem?_eq_getElem (by simpa using h)];rfl;rw [getElem?_neg s i (by omega),List.getElem?_eq_none (by simpa using h)]
theorem As4 (s:Ah) (i:Nat):Dm s (i:Int)=((bs s).drop i).head?:=by rw [Uf,List.head?_drop]
theorem XC (k:Nat) (r:Nat):GR.f k (r:Int)=some (Utf8.valid (r:Int)):=by
 have hv:Utf8.valid (r:Int)=decide (r < 55296\/(57343 < r/\r<=1114111)):=by
  unfold Utf8.valid;rw [Bool.eq_iff_iff];simp;omega
 unfold GR.f;simp only [EJ];rw [hv];rw [if_pos (by omega)];by_cases h1:(r:Int)<=1114111;rw [if_pos h1];by_cases h2:(r:Int) < 55296;rw [if_pos h2];simp only [Aq,Option.some.injEq,Bool.true_eq,decide_eq_true_eq];omega;rw [if_neg h2];simp only [Aq,Option.some.injEq,decide_eq_decide];omega;rw [if_neg h1];simp only [Aq,Option.some.injEq,Bool.false_eq,decide_eq_false_iff_not];omega
theorem bytes_eq (k:Nat) (r:Nat):LG.f k (r:Int)=some ((L8 r:Nat):Int):=by
 unfold LG.f AM L8;simp only [EJ,wi 2 (by omega) (by omega),show (1:Int)+1=2 from rfl,show (2:Int)+1=3 from rfl,show (3:Int)+1=4 from rfl];by_cases h1:r < 128;simp [show ¬ (r:Int) >= 128 by omega,show ¬ (r:Int) >= 2048 by omega,show ¬ (r:Int) >= 65536 by omega,h1];by_cases h2:r < 2048;simp [show (r:Int) >= 128 by omega,show ¬ (r:Int) >= 2048 by omega,show ¬ (r:Int) >= 65536 by omega,h1,h2];by_cases h3:r < 65536;simp [show (r:Int) >= 128 by omega,show (r:Int) >= 2048 by omega,show ¬ (r:Int) >= 65536 by omega,h1,h2,h3,wi 3 (by omega) (by omega)];simp [show (r:Int) >= 128 by omega,show (r:Int) >= 2048 by omega,show (r:Int) >= 65536 by omega,h1,h2,h3,wi 3 (by omega) (by omega),wi 4 (by omega) (by omega)]
theorem Ari (k:Nat) (r:Nat):Nh.f k (r:Int)=some (GF r):=by
 unfold Nh.f GF;simp only [EJ];by_cases h:(r:Int) >= 48;rw [if_pos h];simp only [Aq,Option.some.injEq];rw [Bool.eq_iff_iff];simp;omega;rw [if_neg h];simp only [Aq,Option.some.injEq];rw [Bool.eq_iff_iff];simp;omega
theorem Arw (k:Nat) (r:Nat):Ni.f k (r:Int)=some (HY r):=by
 have hv:=Avv r;unfold Ni.f;simp only [EJ,Agm,Agn,XC,Aq];rw [Bi2];generalize Utf8.valid (r:Int)=v at *;cases v
 ·(repeat' split) <;> simp <;> omega
 ·have hv:r<=1114111:=by
   rcases Nat.lt_or_ge 1114111 r with h | h
   ·cases hv h
   ·exact h
  (repeat' split) <;> simp <;> omega
theorem at_loop (s:Ah) (at_ n:Nat) (hs:s.size<=2000000) (hn:n<=4) (hn1:1<=n) (J:Int->Option (Int×Int×Int)):∀ (d i r k:Nat),d=n - i->1<=i->i<=n->at_ < s.size->r < 64 ^ i * 2->d < k ->
  G5.l0 k s (at_:Int) (n:Int) J (r:Int) (i:Int)=match ER d r ((bs s).drop (at_+i)) with | none=>some ((at_:Int),1,65533) | some r'=>J (r':Int)
 | 0,i,r,k,hd,h1,h2,ha,hr,hk=>by
  obtain ⟨k,rfl⟩:∃ m,k=m+1:=⟨k - 1,by omega⟩;have:i=n:=by omega
  subst this;simp only [G5.l0,EJ,ER];rw [if_neg (by omega)]
 | d+1,i,r,k,hd,h1,h2,ha,hr,hk=>by
  obtain ⟨k,rfl⟩:∃ m,k=m+1:=⟨k - 1,by omega⟩;have hlt:(i:Int) < n:=by omega
  have hr4:r < 33554432:=by
   have:64 ^ i<=64 ^ 4:=Nat.pow_le_pow_right (by omega) (by omega);omega
  simp only [G5.l0,EJ];rw [if_pos hlt,wi ((s.size:Int) - at_) (by omega) (by omega),wi ((at_:Int)+i) (by omega) (by omega)];by_cases hsh:s.size < at_+n;rw [if_pos (by omega)];simp only [Aq,cond_true];rw [Atv _ _ _ (by rw [BU,BY];omega)];rw [if_neg (by omega)];have hai:at_+i < (bs s).length:=by rw [BY];omega
  have hc:Dm s ((at_:Int)+i)=some (bs s)[at_+i]:=by rw [show (at_:Int)+i=((at_+i:Nat):Int) by omega,Uf,List.getElem?_eq_getElem hai]
  rw [hc];simp only [Aq];have hdr:(bs s).drop (at_+i)=(bs s)[at_+i] :: (bs s).drop (at_+(i+1)):=by rw [<- Nat.add_assoc];exact List.drop_eq_getElem_cons hai
  rw [hdr];generalize (bs s)[at_+i]=c;have hcl:=c.toNat_lt;by_cases hc1:c.toNat < 128;rw [if_pos (by omega)];simp only [Aq,cond_true,ER];rw [if_neg (by omega)];rw [if_neg (by omega)];simp only [Aq,EJ,ER];by_cases hc2:c.toNat < 192;rw [if_neg (by omega),if_pos (by omega),wb,wi ((r:Int) * 64) (by omega) (by omega),wi ((r:Int) * 64+(c.toNat:Int)) (by omega) (by omega),wi ((r:Int) * 64+(c.toNat:Int) - 128) (by omega) (by omega),wi ((i:Int)+1) (by omega) (by omega)];have hpw:=Nat.pow_succ 64 i;have:=at_loop s at_ n hs hn hn1 J d (i+1) (r * 64+c.toNat - 128) k (by omega) (by omega) (by omega) ha (by omega) (by omega);rw [<- this];congr 1 <;> omega;rw [if_pos (by omega),if_neg (by omega)]
theorem Ay0 (s:Ah) (at_:Nat) (k:Nat) (hs:s.size<=2000000) (ha:at_ < s.size) (hk:4 < k) :
  G5.f k s (at_:Int)=some ((at_:Int),(((B1 ((bs s).drop at_)).2:Nat):Int),(((B1 ((bs s).drop at_)).1:Nat):Int)):=by
 have hal:at_ < (bs s).length:=by rw [BY];omega
 have hdr:(bs s).drop at_=(bs s)[at_] :: (bs s).drop (at_+1):=List.drop_eq_getElem_cons hal;have hc:Dm s (at_:Int)=some (bs s)[at_]:=by rw [Uf,List.getElem?_eq_getElem hal]
 unfold G5.f AM;rw [hc,hdr];generalize (bs s)[at_]=c at hdr;have hcl:=c.toNat_lt;have key:∀ (n r0:Nat),1<=n->n<=4->r0 < 128->FQ n (ER (n - 1) r0 ((bs s).drop (at_+1)))=B1 (c :: (bs s).drop (at_+1)) ->
   G5.l0 k s (at_:Int) (n:Int) (λx6=>(((GR.f k x6).bind λr10=>cond (!r10) (some true) ((LG.f k x6).bind λr12=>some (r12 != (n:Int)))):Option Bool).bind λq8=>cond q8 (some ((at_:Int),(1:Int),(65533:Int))) (some ((at_:Int),(n:Int),x6))) (r0:Int) 1 =
    some ((at_:Int),(((B1 (c :: (bs s).drop (at_+1))).2:Nat):Int),(((B1 (c :: (bs s).drop (at_+1))).1:Nat):Int)):=by
  intro n r0 h1 h2 h3 he;have:=at_loop s at_ n hs h2 h1 (λx6=>(((GR.f k x6).bind λr10=>cond (!r10) (some true) ((LG.f k x6).bind λr12=>some (r12 != (n:Int)))):Option Bool).bind λq8=>cond q8 (some ((at_:Int),(1:Int),(65533:Int))) (some ((at_:Int),(n:Int),x6))) (n - 1) 1 r0 k rfl (Nat.le_refl _) h1 ha (by omega) (by omega);rw [show ((1:Nat):Int)=1 from rfl] at this;rw [this,<- he];cases hst:ER (n - 1) r0 ((bs s).drop (at_+1)) with
  | none=>simp [FQ]
  | some r =>
   simp only [XC,bytes_eq,Aq,FQ];cases hv:Utf8.valid (r:Int) with
   | false=>simp
   | true =>
    simp only [Bool.not_true,cond_false,Aq,Agn,true_and];by_cases hl:L8 r=n;rw [if_pos (by omega),if_pos hl];rw [if_neg (by omega),if_neg hl];rfl
 simp only [Aq,EJ,wb];by_cases h1:c.toNat < 128;rw [if_neg (by omega),if_neg (by omega),if_neg (by omega)];simp only [Aq,cond_false];rw [if_neg (by omega)];exact key 1 c.toNat (by omega) (by omega) h1 (A1x c _ h1);by_cases h2:c.toNat < 192;rw [if_neg (by omega),if_neg (by omega),if_neg (by omega)];simp only [Aq,cond_false];rw [if_pos (by omega),Ag6 c _ (by omega) (.inl h2)];rfl;by_cases h3:c.toNat < 224;rw [if_pos (by omega)];simp only [Aq,EJ];rw [if_pos (by omega),wi _ (by omega) (by omega)];have:=key 2 (c.toNat - 192) (by omega) (by omega) (by omega) (A1y c _ (by omega) h3);rw [<- this];congr 1;omega;rw [if_pos (by omega)];simp only [Aq,EJ];rw [if_neg (by omega)];by_cases h4:c.toNat < 240;rw [if_pos (by omega)];simp only [Aq,EJ];rw [if_pos (by omega),wi _ (by omega) (by omega)];have:=key 3 (c.toNat - 224) (by omega) (by omega) (by omega) (A2d c _ (by omega) h4);rw [<- this];congr 1;omega;rw [if_pos (by omega)];simp only [Aq,EJ];rw [if_neg (by omega),if_pos (by omega)];simp only [Aq,EJ];by_cases h5:c.toNat < 248;rw [if_pos (by omega),wi _ (by omega) (by omega)];have:=key 4 (c.toNat - 240) (by omega) (by omega) (by omega) (A2f c _ (by omega) h5);rw [<- this];congr 1;omega;rw [if_neg (by omega),if_pos (by omega),Ag6 c _ (by omega) (.inr (by omega))];rfl
theorem at_eq (s:Ah) (at_:Nat) (k:Nat) (hs:s.size<=1000000) (ha:at_ < s.size) (hk:4 < k) :
  G5.f k s (at_:Int)=some ((at_:Int),(((B1 ((bs s).drop at_)).2:Nat):Int),(((B1 ((bs s).drop at_)).1:Nat):Int)):=Ay0 s at_ k (Nat.le_trans hs (by decide)) ha hk
theorem UY {β:Type} (J:Bool->β) (b x:Bool):cond b (J b) (J x)=J (b || x):=by cases b <;> rfl
theorem toL (s:Ah):s.toList=bs s:=Lib.toList_data s
theorem Agb (l:Bs):bs (⟨l.toArray⟩:Ah)=l:=Hv l
theorem Api (s:Ah) (hs:s.size<=1000000) (J:Int->Option Int):∀ (d n k:Nat),s.size - n<=d->n<=s.size->d+6<=k ->
  Hp.l0 k s J (n:Int)=J ((n+B5 Cl ((bs s).drop n):Nat):Int)
 | d,n,k,hd,hn,hk=>by
  obtain ⟨k,rfl⟩:∃ m,k=m+1:=⟨k - 1,by omega⟩;simp only [Hp.l0,EJ];by_cases h:n < s.size;rw [if_pos (by omega),at_eq s n k hs h (by omega)];have hne:(bs s).drop n≠[]:=by
   intro e;have:=congrArg List.length e;rw [BU,BY,Bp] at this;omega
  have hw:=Jq ((bs s).drop n);have hw3:=hw.2.2 hne;rw [BU,BY] at hw3;simp only [Aq,Arw,Ari];rw [Np Cl _ hne];unfold Cl;generalize HY (B1 ((bs s).drop n)).1=x;generalize GF (B1 ((bs s).drop n)).1=y;have hgo:Hp.l0 k s J (Au ((n:Int)+((B1 ((bs s).drop n)).2:Int)))=J ((n+((B1 ((bs s).drop n)).2+B5 Cl (((bs s).drop n).drop (B1 ((bs s).drop n)).2)):Nat):Int):=by
   cases d with
   | zero=>omega
   | succ d =>
    rw [wi _ (by omega) (by omega),List.drop_drop,show (n:Int)+((B1 ((bs s).drop n)).2:Int)=((n+(B1 ((bs s).drop n)).2:Nat):Int) by omega];rw [Api s hs J d (n+(B1 ((bs s).drop n)).2) k (by omega) (by omega) (by omega)];congr 2;omega
  cases x <;> cases y <;> simp only [Bool.not_true,Bool.not_false,cond_true,cond_false,Aq,Bool.or_true,Bool.or_false,Bool.true_or,Bool.false_or,Bool.false_eq_true,if_true,if_false,Nat.add_zero] <;> exact hgo;rw [if_neg (by omega),List.drop_of_length_le (by rw [BY];omega)];rfl
theorem names_eq (s:Ah) (hs:s.size<=1000000) (at_ k:Nat) (h:at_<=s.size) (hk:s.size+6<=k):Hp.f k s (at_:Int)=some ((B5 Cl ((bs s).drop at_):Nat):Int):=by
 unfold Hp.f AM;have hle:=Kv Cl ((bs s).drop at_);rw [BU,BY] at hle;refine (Api s hs _ (s.size - at_) at_ k (Nat.le_refl _) h (by omega)).trans ?_;rw [wi _ (by omega) (by omega)];congr 1;omega
theorem Xv (l w:Bs) (ws:List Bs):(w :: ws).contains l=((l == w) || ws.contains l):=by
 rw [List.contains_cons]
theorem Bfz (k:Nat) (s:Ah):PQ.f k s=some (L3 (bs s)):=by
 unfold PQ.f;generalize hJ:(λ(x1:Bool)=>cond x1 (some true) (some false))=J;unfold AM;simp only [UY,toL];subst hJ;have e:∀ l:Bs,bs (⟨l.toArray⟩:Ah)=l:=Agb;simp only [e];unfold L3 WG;simp only [Xv,List.contains_nil,Bool.or_false];generalize (_ || _:Bool)=x;cases x <;> rfl
theorem W1 (s:Ah) (a b:Nat) (h1:a<=b) (h2:b<=s.size):Jf s (a:Int) (b:Int)=some (str (((bs s).drop a).take (b - a))):=by
 unfold Jf;rw [EJ,if_pos ⟨by omega,by omega,by omega⟩];congr 1;apply Azu;rw [Hv,Sw];simp
def Ok:List Bs:=[[61,61],[126,61],[60,61],[62,61],[47,47],[46,46]]
def RI:Bs:=[43,45,42,37,60,62,61,35,40,41,123,125,91,93,59,44,46]
theorem Btj:Ht=Ok++RI.map (λc=>[c]):=rfl
theorem Ah6 (l:Bs):∀ ws:List Bs,(∀ s ∈ ws,s.length=2)->ws.find? (λs=>s.isPrefixOf l)=if ws.contains (l.take 2) then some (l.take 2) else none
 | [],_=>rfl
 | w :: ws,h=>by
  have hw:=h w (DN ..);rw [List.find?_cons,Ah6 l ws λs hs=>h s (EI _ hs),Xv];have e:w.isPrefixOf l=(l.take 2 == w):=by
   rw [Bool.eq_iff_iff,List.isPrefixOf_iff_prefix,beq_iff_eq,List.prefix_iff_eq_take,hw];exact eq_comm
  rw [e];cases hc:(l.take 2 == w) with
  | true=>rw [<- beq_iff_eq.1 hc];simp
  | false=>simp
theorem Ah5 (c:UInt8) (t:Bs):∀ ws:Bs,(ws.map λc=>[c]).find? (λs=>s.isPrefixOf (c :: t))=if ws.contains c then some [c] else none
 | []=>rfl
 | w :: ws=>by
  rw [List.map_cons,List.find?_cons,Ah5 c t ws,List.contains_cons];have e:([w].isPrefixOf (c :: t))=(c == w):=by
   show ((w == c) && true)=_;rw [Bool.and_true,Bool.eq_iff_iff,beq_iff_eq,beq_iff_eq];exact eq_comm
  rw [e];cases hc:(c == w) with
  | true=>rw [beq_iff_eq.1 hc];simp
  | false=>simp
theorem Bti (c:UInt8) (t:Bs):Nq (c :: t)=if Ok.contains ((c :: t).take 2) then some ((c :: t).take 2) else if RI.contains c then some [c] else none:=by
 unfold Nq;rw [Btj,List.find?_append,Ah6 _ _ (by decide),Ah5];split <;> rfl
theorem N8 (c d:UInt8):((c.toNat:Int) == (d.toNat:Int))=(c == d):=by
 rw [Bool.eq_iff_iff,beq_iff_eq,beq_iff_eq,<- UInt8.toNat_inj];omega
def Abp (l:Bs):Bs:=match Nq l with | none=>[] | some t=>t
set_option maxRecDepth 20000 in
theorem sign_eq (k:Nat) (s:Ah) (at_:Nat) (hs:s.size<=1000000) (h:at_ < s.size):PT.f k s (at_:Int)=some (str (Abp ((bs s).drop at_))):=by
 have hal:at_ < (bs s).length:=by rw [BY];omega
 have hdr:(bs s).drop at_=(bs s)[at_] :: (bs s).drop (at_+1):=List.drop_eq_getElem_cons hal;have hc:Dm s (at_:Int)=some (bs s)[at_]:=by rw [Uf,List.getElem?_eq_getElem hal]
 have e1:Au ((at_:Int)+1)=((at_+1:Nat):Int):=by rw [wi _ (by omega) (by omega)];omega
 have e2:Au ((at_:Int)+2)=((at_+2:Nat):Int):=by rw [wi _ (by omega) (by omega)];omega
 have e3:Au ((s.size:Int) - 1)=(s.size:Int) - 1:=wi _ (by omega) (by omega);have Yg:((bs s).drop (at_+1)).length=s.size - (at_+1):=by rw [BU,BY]
 have h1:Jf s (at_:Int) ((at_+1:Nat):Int)=some (str [(bs s)[at_]]):=by
  rw [W1 s at_ (at_+1) (by omega) (by omega),hdr,show at_+1 - at_=1 by omega];rfl
 unfold PT.f;rw [e1,e2,e3,hc,h1];unfold Abp;rw [hdr,Bti];generalize (bs s)[at_]=c at *;have key:∀ b:Bool,b=RI.contains c->(AM (λ(x3:Bool)=>cond x3 ((some (str [c])).bind λs6:Ah=>some (s6)) (some ((⟨#[]⟩:Ah)))) (λJ4=>J4 b):Option Ah)=some (str (match (if RI.contains c then some [c] else none) with | none=>[] | some t=>t)):=by
  intro b hb;rw [<- hb];cases b <;> rfl
 have one:∀ (J4:Bool->Option Ah),(cond ((c.toNat:Int) == (43:Int)) (J4 ((c.toNat:Int) == (43:Int))) (cond ((c.toNat:Int) == (45:Int)) (J4 ((c.toNat:Int) == (45:Int))) (cond ((c.toNat:Int) == (42:Int)) (J4 ((c.toNat:Int) == (42:Int))) (cond ((c.toNat:Int) == (37:Int)) (J4 ((c.toNat:Int) == (37:Int))) (cond ((c.toNat:Int) == (60:Int)) (J4 ((c.toNat:Int) == (60:Int))) (cond ((c.toNat:Int) == (62:Int)) (J4 ((c.toNat:Int) == (62:Int))) (cond ((c.toNat:Int) == (61:Int)) (J4 ((c.toNat:Int) == (61:Int))) (cond ((c.toNat:Int) == (35:Int)) (J4 ((c.toNat:Int) == (35:Int))) (cond ((c.toNat:Int) == (40:Int)) (J4 ((c.toNat:Int) == (40:Int))) (cond ((c.toNat:Int) == (41:Int)) (J4 ((c.toNat:Int) == (41:Int))) (cond ((c.toNat:Int) == (123:Int)) (J4 ((c.toNat:Int) == (123:Int))) (cond ((c.toNat:Int) == (125:Int)) (J4 ((c.toNat:Int) == (125:Int))) (cond ((c.toNat:Int) == (91:Int)) (J4 ((c.toNat:Int) == (91:Int))) (cond ((c.toNat:Int) == (93:Int)) (J4 ((c.toNat:Int) == (93:Int))) (cond ((c.toNat:Int) == (59:Int)) (J4 ((c.toNat:Int) == (59:Int))) (cond ((c.toNat:Int) == (44:Int)) (J4 ((c.toNat:Int) == (44:Int))) (J4 ((c.toNat:Int) == (46:Int)))))))))))))))))))=J4 (RI.contains c):=by
  intro J4;simp only [UY];congr 1;unfold RI;simp only [List.contains_cons,List.contains_nil,Bool.or_false];have e:=λd=>N8 c d;simp only [<- e];rfl
 unfold AM;simp only [Aq];simp only [EJ];by_cases h2:at_+1 < s.size;obtain ⟨d,t,ht⟩:∃ d t,(bs s).drop (at_+1)=d :: t:=by
  cases hq:(bs s).drop (at_+1) with
  | nil=>rw [hq] at Yg;simp at Yg;omega
  | cons d t=>exact ⟨d,t,rfl⟩
 have hs2:Jf s (at_:Int) ((at_+2:Nat):Int)=some (str [c,d]):=by
  rw [W1 s at_ (at_+2) (by omega) (by omega),hdr,ht,show at_+2 - at_=2 by omega];rfl
 rw [if_pos (by omega),hs2,ht];simp only [Aq];have two:∀ (D_:Bool->Option Ah),(cond ((str [c,d]).toList == (⟨#[61,61]⟩:Ah).toList) (D_ ((str [c,d]).toList == (⟨#[61,61]⟩:Ah).toList)) (cond ((str [c,d]).toList == (⟨#[126,61]⟩:Ah).toList) (D_ ((str [c,d]).toList == (⟨#[126,61]⟩:Ah).toList)) (cond ((str [c,d]).toList == (⟨#[60,61]⟩:Ah).toList) (D_ ((str [c,d]).toList == (⟨#[60,61]⟩:Ah).toList)) (cond ((str [c,d]).toList == (⟨#[62,61]⟩:Ah).toList) (D_ ((str [c,d]).toList == (⟨#[62,61]⟩:Ah).toList)) (cond ((str [c,d]).toList == (⟨#[47,47]⟩:Ah).toList) (D_ ((str [c,d]).toList == (⟨#[47,47]⟩:Ah).toList)) (D_ ((str [c,d]).toList == (⟨#[46,46]⟩:Ah).toList)))))))=D_ (Ok.contains [c,d]):=by
  intro J;simp only [UY,toL,Hv];have e:∀ l:Bs,bs (⟨l.toArray⟩:Ah)=l:=Agb;simp only [e];unfold Ok;simp only [Xv,List.contains_nil,Bool.or_false]
 have Py:=key _ rfl;unfold AM at Py;simp only [Aq] at Py;rw [show (c :: d :: t).take 2=[c,d] from rfl];have one':=one (λx3=>cond x3 (some (str [c])) (some ((⟨#[]⟩:Ah))));refine (two (λx25=>cond x25 (some (str [c,d])) _)).trans ?_;cases hx:Ok.contains [c,d] with
 | true=>rfl
 | false =>
  simp only [cond_false,Bool.false_eq_true,if_false];exact one'.trans Py
 have ht:(bs s).drop (at_+1)=[]:=List.eq_nil_of_length_eq_zero (by rw [Yg];omega);rw [if_neg (by omega),ht];have hx:Ok.contains ([c].take 2)=false:=by
  show Ok.contains [c]=false;unfold Ok;simp
 rw [hx];simp only [Bool.false_eq_true,if_false];have Py:=key _ rfl;unfold AM at Py;simp only [Aq] at Py;exact (one (λx3=>cond x3 (some (str [c])) (some ((⟨#[]⟩:Ah))))).trans Py
theorem w8 (x:Int) (h0:0<=x) (h1:x < 256):IntKind.u8.wrap x=x:=by unfold IntKind.wrap;simp [IntKind.bits,IntKind.signed];omega
theorem tm (n m:Nat):Int.tmod (n:Int) (m:Int)=((n % m:Nat):Int):=(Int.ofNat_tmod n m).symm
theorem td (n m:Nat):Int.tdiv (n:Int) (m:Int)=((n / m:Nat):Int):=(Int.ofNat_tdiv n m).symm
def bI (b:Bs):List Int:=b.map λx=>(x.toNat:Int)
theorem Bt8 (b:Bs):strOfNums (bI b)=str b:=by
 unfold strOfNums bI str;congr 2;rw [List.map_map]
 conv=>rhs;rw [<- List.map_id b]
 apply List.map_congr_left;intro x _;simp
theorem Azr (s:Ah):Lp s=bI (bs s):=rfl
theorem Aj9 (s:Ah) (hs:s.size<=1000000) (at_ most:Nat) (ha:at_<=1000010) (hm:most<=8):∀ (m j n k:Nat),m+j=most->n < 16 ^ j->m < k ->
  Hm.l0 k s (at_:Int) (most:Int) (λa b=>some (a,b)) (n:Int) (j:Int)=some (((BZ m ((bs s).drop (at_+j)) n j).1:Int),((BZ m ((bs s).drop (at_+j)) n j).2:Int))
 | m,j,n,k,hj,hn,hk=>by
  obtain ⟨k,rfl⟩:∃ m,k=m+1:=⟨k - 1,by omega⟩;have h16:16 ^ j<=16 ^ 8:=Nat.pow_le_pow_right (by omega) (by omega);have hn2:n < 4294967296:=by omega
  simp only [Hm.l0];cases m with
  | zero =>
   rw [EJ,if_neg (by omega)];simp [BZ]
  | succ m =>
   rw [EJ,if_pos (by omega),wi ((at_:Int)+j) (by omega) (by omega)];simp only [Aq];rcases Nat.lt_or_ge (at_+j) s.size with h | h;rw [EJ,if_pos (by omega)];have hal:at_+j < (bs s).length:=by rw [BY];omega
   have hdr:(bs s).drop (at_+j)=(bs s)[at_+j] :: (bs s).drop (at_+(j+1)):=by rw [<- Nat.add_assoc];exact List.drop_eq_getElem_cons hal
   have hc:Dm s ((at_:Int)+j)=some (bs s)[at_+j]:=by rw [show (at_:Int)+j=((at_+j:Nat):Int) by omega,Uf,List.getElem?_eq_getElem hal]
   rw [hc,hdr];generalize (bs s)[at_+j]=c;have hcl:=c.toNat_lt;have hpw:=Nat.pow_succ 16 j;have ih:∀ d:Nat,d < 16->Hm.l0 k s (at_:Int) (most:Int) (λa b=>some (a,b)) ((16 * n+d:Nat):Int) ((j:Int)+1)=some (((BZ m ((bs s).drop (at_+(j+1))) (16 * n+d) (j+1)).1:Int),((BZ m ((bs s).drop (at_+(j+1))) (16 * n+d) (j+1)).2:Int)):=λd hd=>by
    have:=Aj9 s hs at_ most ha hm m (j+1) (16 * n+d) k (by omega) (by omega) (by omega);rw [show ((j+1:Nat):Int)=(j:Int)+1 by omega] at this;exact this
   simp only [Aq,AM,wb,BZ];rw [wi ((j:Int)+1) (by omega) (by omega),wi ((n:Int) * 16) (by omega) (by omega),wi ((n:Int) * 16+c.toNat) (by omega) (by omega)];unfold hexD;have T:∀ {p:Prop} [Decidable p],p->decide p=true:=λh=>decide_eq_true h;have F:∀ {p:Prop} [Decidable p],¬ p->decide p=false:=λh=>decide_eq_false h;by_cases h1:48<=c.toNat/\c.toNat<=57;rw [if_pos h1,T (p:=(c.toNat:Int) >= 48) (by omega),T (p:=(c.toNat:Int)<=57) (by omega)];simp only [cond_true,Aq];rw [wi ((n:Int) * 16+c.toNat - 48) (by omega) (by omega),<- ih (c.toNat - 48) (by omega)];congr 1;omega;rw [if_neg h1];by_cases h2:97<=c.toNat/\c.toNat<=102;rw [if_pos h2,T (p:=(c.toNat:Int) >= 48) (by omega),F (p:=(c.toNat:Int)<=57) (by omega),T (p:=(c.toNat:Int) >= 97) (by omega),T (p:=(c.toNat:Int)<=102) (by omega)];simp only [cond_true,cond_false,Aq];rw [wi ((n:Int) * 16+c.toNat - 97) (by omega) (by omega),wi ((n:Int) * 16+c.toNat - 97+10) (by omega) (by omega),<- ih (c.toNat - 87) (by omega)];congr 1;omega;rw [if_neg h2];by_cases h3:65<=c.toNat/\c.toNat<=70;rw [if_pos h3,T (p:=(c.toNat:Int) >= 48) (by omega),F (p:=(c.toNat:Int)<=57) (by omega),F (p:=(c.toNat:Int) >= 97) (by omega),T (p:=(c.toNat:Int) >= 65) (by omega),T (p:=(c.toNat:Int)<=70) (by omega)];simp only [cond_true,cond_false,Aq];rw [wi ((n:Int) * 16+c.toNat - 65) (by omega) (by omega),wi ((n:Int) * 16+c.toNat - 65+10) (by omega) (by omega),<- ih (c.toNat - 55) (by omega)];congr 1;omega;rw [if_neg h3];have hq:c.toNat < 48\/(57 < c.toNat/\c.toNat < 65)\/(70 < c.toNat/\c.toNat < 97)\/102 < c.toNat:=by omega
   rcases hq with h | h | h | h;rw [F (p:=(c.toNat:Int) >= 48) (by omega),F (p:=(c.toNat:Int) >= 97) (by omega),F (p:=(c.toNat:Int) >= 65) (by omega)];rfl;rw [T (p:=(c.toNat:Int) >= 48) (by omega),F (p:=(c.toNat:Int)<=57) (by omega),F (p:=(c.toNat:Int) >= 97) (by omega),F (p:=(c.toNat:Int) >= 65) (by omega)];rfl;rw [T (p:=(c.toNat:Int) >= 48) (by omega),F (p:=(c.toNat:Int)<=57) (by omega),F (p:=(c.toNat:Int) >= 97) (by omega),T (p:=(c.toNat:Int) >= 65) (by omega),F (p:=(c.toNat:Int)<=70) (by omega)];rfl;rw [T (p:=(c.toNat:Int) >= 48) (by omega),F (p:=(c.toNat:Int)<=57) (by omega),T (p:=(c.toNat:Int) >= 97) (by omega),F (p:=(c.toNat:Int)<=102) (by omega),T (p:=(c.toNat:Int) >= 65) (by omega),F (p:=(c.toNat:Int)<=70) (by omega)];rfl;rw [EJ,if_neg (by omega),List.drop_of_length_le (by rw [BY];omega)];simp [BZ]
theorem Aj7 (s:Ah) (hs:s.size<=1000000) (at_ most k:Nat) (ha:at_<=1000010) (hm:most<=8) (hk:8 < k) :
  Hm.f k s (at_:Int) (most:Int)=some (((BZ most ((bs s).drop at_) 0 0).1:Int),((BZ most ((bs s).drop at_) 0 0).2:Int)):=by
 unfold Hm.f AM;exact Aj9 s hs at_ most ha hm most 0 0 k rfl (by omega) (by omega)
def encR (n:Nat):Ah×Int:=if Utf8.valid n then (Utf8.encode n,0) else (⟨#[]⟩,3)
theorem A1v (n:Nat) (hv:Utf8.valid (n:Int)=true):Utf8.encode (n:Int)=if n < 128 then str [UInt8.ofNat n] else if n < 2048 then str [UInt8.ofNat (192+n / 64),UInt8.ofNat (128+n % 64)] else if n < 65536 then str [UInt8.ofNat (224+n / 4096),UInt8.ofNat (128+n / 64 % 64),UInt8.ofNat (128+n % 64)] else str [UInt8.ofNat (240+n / 262144),UInt8.ofNat (128+n / 4096 % 64),UInt8.ofNat (128+n / 64 % 64),UInt8.ofNat (128+n % 64)]:=by
 unfold Utf8.encode;simp only [hv,if_true,Int.toNat_natCast];rfl
theorem encode_eq (n k:Nat) (hn:n<=4294967296) (hk:4 < k):ID.f k (n:Int)=some (encR n):=by
 unfold ID.f encR;rw [XC];simp only [Aq];cases hv:Utf8.valid (n:Int) with
 | false=>rfl
 | true =>
  have hmax:n<=1114111:=by
   rcases Nat.lt_or_ge 1114111 n with h | h;rw [Avv n h] at hv;cases hv;exact h
  rw [bytes_eq,A1v n hv];obtain ⟨k,rfl⟩:∃ m,k=m+4:=⟨k - 4,by omega⟩;simp only [Bool.not_true,cond_false,Aq,Agm,if_true];unfold L8;have hb:∀ x y:Nat,x < 256->x=y->UInt8.ofNat ((x:Int).toNat)=UInt8.ofNat y:=λx y _ h=>by subst h;simp
  by_cases h1:n < 128;rw [if_pos h1,if_pos (by decide),if_pos h1,w8 _ (by omega) (by omega)];rfl;rw [if_neg h1,if_neg h1];by_cases h2:n < 2048;rw [if_pos h2,if_pos h2,if_neg (by decide)];have e:mkd 1 (0:Int) ((2:Nat):Int)=some [0,0]:=by decide
  rw [e];simp only [Aq,AM];rw [show Au (((2:Nat):Int) - 1)=1 by decide];simp only [ID.l0,EJ];rw [if_pos (by omega),show B7 [(0:Int),0] 1=some 0 by decide];simp only [Aq,Hh,EJ];rw [if_pos (by decide)];simp only [Aq];rw [show Au ((1:Int) - 1)=0 by decide,if_neg (by omega)];rw [show ((64:Int))=((64:Nat):Int) from rfl,tm,td,wi (128+((n % 64:Nat):Int)) (by omega) (by omega),w8 (128+((n % 64:Nat):Int)) (by omega) (by omega),wi ((n / 64:Nat):Int) (by omega) (by omega)];simp only [show ((1:Int)).toNat=1 from rfl,List.set_cons_succ,List.set_cons_zero,B7,Int.le_refl,if_true,show ((0:Int)).toNat=0 from rfl,List.getElem?_cons_zero,Aq];rw [if_neg (by decide),if_neg (by decide),if_pos (by simp)];simp only [Aq,List.set_cons_zero];rw [wi (192+((n / 64:Nat):Int)) (by omega) (by omega),w8 (192+((n / 64:Nat):Int)) (by omega) (by omega)];simp only [strOfNums,str,List.map_cons,List.map_nil];rw [show ((192+((n / 64:Nat):Int)).toNat)=192+n / 64 by omega,show ((128+((n % 64:Nat):Int)).toNat)=128+n % 64 by omega];rw [if_neg h2,if_neg h2];by_cases h3:n < 65536;rw [if_pos h3,if_pos h3,if_neg (by decide)];have e:mkd 1 (0:Int) ((3:Nat):Int)=some [0,0,0]:=by decide
  rw [e];simp only [Aq,AM];rw [show Au (((3:Nat):Int) - 1)=2 by decide];simp only [ID.l0,EJ];rw [if_pos (by omega),show B7 [(0:Int),0,0] 2=some 0 by decide];simp only [Aq,Hh,EJ];rw [if_pos (by decide)];simp only [Aq];rw [show Au ((2:Int) - 1)=1 by decide,if_pos (by omega)];rw [show ((64:Int))=((64:Nat):Int) from rfl,tm,td,wi (128+((n % 64:Nat):Int)) (by omega) (by omega),w8 (128+((n % 64:Nat):Int)) (by omega) (by omega),wi ((n / 64:Nat):Int) (by omega) (by omega)];simp only [show ((2:Int)).toNat=2 from rfl,List.set_cons_succ,List.set_cons_zero,B7,show (0:Int)<=1 by omega,if_true,show ((1:Int)).toNat=1 from rfl,List.getElem?_cons_zero,List.getElem?_cons_succ,Aq];rw [if_pos (by simp)];simp only [Aq];rw [show Au ((1:Int) - 1)=0 by decide,if_neg (by omega)];rw [tm,td,wi (128+((n / 64 % 64:Nat):Int)) (by omega) (by omega),w8 (128+((n / 64 % 64:Nat):Int)) (by omega) (by omega),wi ((n / 64 / 64:Nat):Int) (by omega) (by omega)];simp only [Int.le_refl,if_true,show ((0:Int)).toNat=0 from rfl,List.getElem?_cons_zero,Aq];rw [if_pos (by decide),if_neg (by decide),if_pos (by simp)];simp only [Aq,List.set_cons_zero,List.set_cons_succ];rw [wi (224+((n / 64 / 64:Nat):Int)) (by omega) (by omega),w8 (224+((n / 64 / 64:Nat):Int)) (by omega) (by omega)];simp only [strOfNums,str,List.map_cons,List.map_nil];rw [show ((224+((n / 64 / 64:Nat):Int)).toNat)=224+n / 4096 by omega,show ((128+((n % 64:Nat):Int)).toNat)=128+n % 64 by omega,show ((128+((n / 64 % 64:Nat):Int)).toNat)=128+n / 64 % 64 by omega];rw [if_neg h3,if_neg h3,if_neg (by decide)];have e:mkd 1 (0:Int) ((4:Nat):Int)=some [0,0,0,0]:=by decide
  rw [e];simp only [Aq,AM];rw [show Au (((4:Nat):Int) - 1)=3 by decide];simp only [ID.l0,EJ];rw [if_pos (by omega),show B7 [(0:Int),0,0,0] 3=some 0 by decide];simp only [Aq,Hh,EJ];rw [if_pos (by decide)];simp only [Aq];rw [show Au ((3:Int) - 1)=2 by decide,if_pos (by omega)];rw [show ((64:Int))=((64:Nat):Int) from rfl,tm,td,wi (128+((n % 64:Nat):Int)) (by omega) (by omega),w8 (128+((n % 64:Nat):Int)) (by omega) (by omega),wi ((n / 64:Nat):Int) (by omega) (by omega)];simp only [show ((3:Int)).toNat=3 from rfl,List.set_cons_succ,List.set_cons_zero,B7,show (0:Int)<=2 by omega,if_true,show ((2:Int)).toNat=2 from rfl,List.getElem?_cons_zero,List.getElem?_cons_succ,Aq];rw [if_pos (by simp)];simp only [Aq];rw [show Au ((2:Int) - 1)=1 by decide,if_pos (by omega)];rw [tm,td,wi (128+((n / 64 % 64:Nat):Int)) (by omega) (by omega),w8 (128+((n / 64 % 64:Nat):Int)) (by omega) (by omega),wi ((n / 64 / 64:Nat):Int) (by omega) (by omega)];simp only [List.set_cons_succ,List.set_cons_zero,show (0:Int)<=1 by omega,if_true,show ((1:Int)).toNat=1 from rfl,List.getElem?_cons_zero,List.getElem?_cons_succ,Aq];rw [if_pos (by simp)];simp only [Aq];rw [show Au ((1:Int) - 1)=0 by decide,if_neg (by omega)];rw [tm,td,wi (128+((n / 64 / 64 % 64:Nat):Int)) (by omega) (by omega),w8 (128+((n / 64 / 64 % 64:Nat):Int)) (by omega) (by omega),wi ((n / 64 / 64 / 64:Nat):Int) (by omega) (by omega)];simp only [Int.le_refl,if_true,show ((0:Int)).toNat=0 from rfl,List.getElem?_cons_zero,Aq];rw [if_neg (by decide),if_pos (by decide),if_pos (by simp)];simp only [Aq,List.set_cons_zero,List.set_cons_succ];rw [wi (240+((n / 64 / 64 / 64:Nat):Int)) (by omega) (by omega),w8 (240+((n / 64 / 64 / 64:Nat):Int)) (by omega) (by omega)];simp only [strOfNums,str,List.map_cons,List.map_nil];rw [show ((240+((n / 64 / 64 / 64:Nat):Int)).toNat)=240+n / 262144 by omega,show ((128+((n % 64:Nat):Int)).toNat)=128+n % 64 by omega,show ((128+((n / 64 % 64:Nat):Int)).toNat)=128+n / 64 % 64 by omega,show ((128+((n / 64 / 64 % 64:Nat):Int)).toNat)=128+n / 4096 % 64 by omega]
end
end Go.Proofs.YteccladehmaglaaGreatDoor
