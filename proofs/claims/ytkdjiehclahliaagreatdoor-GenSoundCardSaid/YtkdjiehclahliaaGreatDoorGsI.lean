/- Texts of mine for genSound_card, part 9. -/
import Derived.Test.YtkdjiehclahliaaGreatDoorGsH
set_option linter.unusedSimpArgs false
set_option linter.unusedVariables false
set_option linter.unusedSectionVars false
namespace Go.Proofs.YtkdjiehclahliaaGreatDoor
set_option maxRecDepth 100000
section
open Go Go.RowKit Lx
section
variable {E:Qty} {gl:List ByteArray} {cs:List V3} {src:ByteArray}
theorem A8r {c:Cd} {z:Ins} (h:some z ∈ Ahn c):z ∈ c:=by
 obtain ⟨y,hy,e⟩:=List.mem_map.1 h
 cases e;exact hy
theorem Bxz {e:Int} {X:Hx} {z:Ins} (h:z ∈ Aec e X):some z ∈ X∨z=(18,e,0,0):=by
 obtain ⟨o,ho,e'⟩:=List.mem_map.1 h
 cases o with
 | none=>exact .inr e'.symm
 | some y=>cases e';exact .inl ho
theorem C7l {X:Hx} {back z:Ins} {p:Nat} (h:z ∈ Atm X back p):some z ∈ X∨z=i1 18 ((p+X.length+1:Nat):Int)∨z=back:=by
 unfold Atm at h
 rcases Agb.1 h with h | h
 ·exact (Bxz h).imp id .inl
 ·exact .inr (.inr (Ag1.1 h))
theorem B25 {g:Int→Nat→Tree→Cd} {l:List Tree} {n:Nat} (k2:∀ p q,p+(Ahg (g 1) p l).length≤q→∀ z ∈ Ahg (g 1) p l,okI E q z) (k3:∀ p q,p+(Apl g p l).length≤q→∀ z ∈ Apl g p l,okI E q z) (p q:Nat) (hq:p+(Apr g p l n).length≤q):∀ z ∈ Apr g p l n,okI E q z:=fun z hz=>by
 unfold Apr at hq hz
 split at hz
 ·rename_i h;rw [if_pos h] at hq;exact k2 p q hq z hz
 rename_i h
 rw [if_neg h] at hq
 split at hz
 ·rw [(List.mem_replicate.1 hz).2];exact Alc rfl
 ·rename_i h'
  rw [if_neg h'] at hq
  simp only [Aa4,Abj,Acg] at hq
  rcases List.mem_cons.1 hz with rfl | hz
  ·exact Alc rfl
  rcases Agb.1 hz with hz | hz
  ·exact k3 _ q (by omega) z hz
  ·rw [Ag1.1 hz];exact Alc rfl
theorem Ckn {there:Nat} {q:Nat}:∀ (n:Nat),((there+n:Nat):Int)≤E.sl→∀ z ∈ A4t there n,okI E q z
 | 0,_,_,h=>nomatch h
 | n+1,hn,z,h=>by
  rcases List.mem_cons.1 h with rfl | h
  ·exact Bb5 (.inr rfl) (by omega)
  ·exact Ckn n (by omega) z h
theorem B6e {f:CSt→Tree→Bool→PC CSt} {n:Int}:∀ (l m:List Tree) (i:Nat) (s s':CSt),Aos f n i s (l++m)=.ok s'→∃ s1,Aos f n i s l=.ok s1∧Aos f n (i+l.length) s1 m=.ok s'
 | [],m,i,s,s',h=>⟨s,rfl,h⟩
 | x :: l,m,i,s,s',h=>by
  have h:(f s x (decide ((i:Int) < n))).th (fun s=>Aos f n (i+1) s (l++m))=.ok s':=h
  obtain ⟨s1,h1,h⟩:=Acf h
  obtain ⟨s2,h2,h3⟩:=B6e l m (i+1) s1 s' h
  refine ⟨s2,?_,by rw [Aa4];rw [show i+(l.length+1)=i+1+l.length by omega];exact h3⟩
  unfold Aos
  rw [h1]
  exact h2
theorem B6i {f:CSt→Tree→Bool→PC CSt} {n:Int}:∀ (m:List Tree) (i:Nat) (s:CSt),n≤i→Aos f n i s m=Agg (fun s x=>f s x false) s m
 | [],_,_,_=>rfl
 | x :: m,i,s,h=>by
  unfold Aos Agg
  rw [decide_eq_false (by omega)]
  congr 1
  funext s
  exact B6i m (i+1) s (by omega)
theorem Clo (d2 d:Nat) (ab lo:TyC) (n:Nat):∀ (l:List Tree) (i:Nat) (s s':CSt),(∀ x ∈ l,IsE x∧(x.kind=6∨x.kind=7))→Akw l→i+l.length≤n→Aos (fun s x b=>Adm d ab s x b) (n:Int) i s l=.ok s'→Up E gl cs lo s s' →
  s'.lo=s.lo∧Mo s s'∧(∀ p q,p+(Ath (Ahg (Aby ⟨cs,gl,src⟩ lo d2 1)) p l).length≤q→∀ z ∈ Ath (Ahg (Aby ⟨cs,gl,src⟩ lo d2 1)) p l,okI E q z)∧∀ N q,∀ z ∈ Az0 ⟨cs,gl,src⟩ lo N l,okI E q z
 | [],i,s,s',_,_,_,h,_=>by cases h;exact ⟨rfl,Mo.refl _,fun _ _ _ _ h=>(nomatch h),fun _ _ _ h=>(nomatch h)⟩
 | x :: l,i,s,s',hI,hw,hi,h,hU=>by
  have h:(Adm d ab s x (decide ((i:Int) < (n:Int)))).th (fun s=>Aos (fun s x b=>Adm d ab s x b) (n:Int) (i+1) s l)=.ok s':=h
  rw [Aa4] at hi
  rw [decide_eq_true (by omega)] at h
  obtain ⟨s1,h1,h⟩:=Acf h
  obtain ⟨hx,hk⟩:=hI x (Af5 ..)
  have m1:=Akc hw.1 h1
  have e1:=Atu d ab s s1 x true (.inl hx) h1
  have ml:Mo s1 s':=Bx2 (fun s y b s' hy h=>Akc (Ajz.1 hw.2 y hy) h) h
  have hU1:=hU.fst ml
  obtain ⟨e2,m2,k1,k2⟩:=Clo d2 d ab lo n l (i+1) s1 s' (fun y hy=>hI y (Ahb _ hy)) hw.2 (by omega) h (hU.snd m1 e1)
  refine ⟨e2.trans e1,m1.trans m2,?_,?_⟩
  ·intro p q hq z hz
   unfold Ath at hq hz
   split at hz
   ·rename_i h7
    rw [if_pos h7,Abj] at hq
    obtain ⟨tx,n',a,y,u,rfl,hy,hu⟩:=Ccn hx h7
    have hes:∀ v ∈ [y,u],IsE v:=fun v hv=>by
     rcases List.mem_cons.1 hv with rfl | hv
     ·exact hy
     ·obtain rfl:=Ag1.1 hv;exact hu
    cases d with
    | zero=>unfold Adm at h1;cases h1
    | succ d =>
     rw [Aw0 (by decide) (by decide)] at h1
     unfold Ali at h1
     simp only [Int.reduceEq,if_false,true_and] at h1
     split at h1
     ·rw [if_pos (by unfold Bkw;rfl)] at h1;cases h1
     ·have kk:=(Bim [y,u] s s1 (fun v hv=>Av8 (src:=src) d2 v (hes v hv) (Ajz.1 hw.1.2 v hv) d ab false) (fun v hv s s' h=>⟨Akc (Ajz.1 hw.1.2 v hv) h,Atu d ab s s' v false (.inl (hes v hv)) h⟩) h1 hU1).2.2.1
      rcases Agb.1 hz with hz | hz
      ·exact kk p q (by simp only [Bbn] at hq;omega) z hz
      ·exact k1 _ q (by simp only [Bbn] at hq ⊢;omega) z hz
   ·rename_i h7
    rw [if_neg h7] at hq
    exact k1 p q hq z hz
  ·intro N q z hz
   unfold Az0 at hz
   split at hz
   ·rcases List.mem_cons.1 hz with rfl | hz
    ·exact Alc rfl
    ·exact k2 N q z hz
   ·rename_i h7
    rcases List.mem_cons.1 hz with rfl | hz
    ·exact Alc rfl
    rcases List.mem_cons.1 hz with rfl | hz
    ·have h6:x.kind=6:=hk.elim id fun h=>absurd h h7
     unfold Bx6
     cases hx with
     | atom _ _ =>
      have h6:_=(6:Int):=h6
      subst h6
      cases d with
      | zero=>unfold Adm at h1;cases h1
      | succ d =>
       rw [Aw0 (by decide) (by decide)] at h1
       unfold Ali at h1
       simp only [Int.reduceEq,if_false,if_true] at h1
       obtain ⟨c1,h0,h1⟩:=Acf h1
       cases h1
       split
       ·exact Bb5 (.inr rfl) (Cgp hU1 m1 (by assumption))
       ·rename_i hn
        rcases Cgz h0 with e | e
        ·rw [hU1.lo] at e;exact absurd e hn
        ·exact Bzt (.inr rfl) (by rw [hU1.eg];exact Bwp (Bty e hU1.gl))
     | _=>simp only [Tree.kind] at h6;omega
    ·exact k2 N q z hz
def Bq5 (E:Qty) (gl:List ByteArray) (cs:List V3) (src:ByteArray) (d2:Nat) (t:Tree):Prop :=
 ∀ (d:Nat) (ab:TyC) (s s':CSt),Adm d ab s t false=.ok s'→Up E gl cs s.lo s s'→∀ p,(Ad8 ⟨cs,gl,src⟩ d2 s.lo p t).2=s'.lo∧∀ q,p+(Ad8 ⟨cs,gl,src⟩ d2 s.lo p t).1.length≤q→∀ z,some z ∈ (Ad8 ⟨cs,gl,src⟩ d2 s.lo p t).1→okI E q z
def Bei (E:Qty) (gl:List ByteArray) (cs:List V3) (src:ByteArray) (d2:Nat) (b:Tree):Prop :=
 ∀ (d:Nat) (ab:List ByteArray) (s s':CSt),Adm d ab s b false=.ok s'→Up E gl cs s.lo s s'→s'.lo=s.lo∧∀ p q,p+(Agc ⟨cs,gl,src⟩ d2 s.lo p b).length≤q→∀ z,some z ∈ Agc ⟨cs,gl,src⟩ d2 s.lo p b→okI E q z
theorem Up.mk' {s s' s1 s2:CSt} {lo:List ByteArray} (h:Up E gl cs lo s s') (m1:Mo s s1) (m2:Mo s2 s'):Up E gl cs s1.lo s1 s2 :=
 ⟨rfl,m1.lo (by rw [h.lo];exact h.sl),m2.gl.trans h.gl,m2.cs.trans h.cs,Int.le_trans m2.sl h.sl',h.eg,h.ec⟩
theorem B6w {d2 d:Nat} {ab:TyC}:∀ (l:List Tree) (s s':CSt),(∀ x ∈ l,Bq5 E gl cs src d2 x)→Akw l→Agg (fun s x=>Adm d ab s x false) s l=.ok s'→Up E gl cs s.lo s s'→∀ p q,p+(Apd ⟨cs,gl,src⟩ (Ad8 ⟨cs,gl,src⟩ d2) s.lo p l).length≤q→∀ z,some z ∈ Apd ⟨cs,gl,src⟩ (Ad8 ⟨cs,gl,src⟩ d2) s.lo p l→okI E q z
 | [],_,_,_,_,_,_,_,_,_,_,h=>nomatch h
 | x :: l,s,s',hS,hw,h,hU,p,q,hq,z,hz=>by
  unfold Agg at h
  obtain ⟨s1,h1,h⟩:=Acf h
  have m1:=Akc hw.1 h1
  have ml:Mo s1 s':=Ayl (fun s y s' hy h=>Akc (Ajz.1 hw.2 y hy) h) h
  obtain ⟨e1,k1⟩:=hS x (Af5 ..) d ab s s1 h1 (hU.mk' (Mo.refl s) ml) (p+1)
  simp only [Apd,Aa4,Abj] at hq
  simp only [Apd] at hz
  rw [e1] at hq hz
  rcases List.mem_cons.1 hz with hz | hz
  ·cases hz;exact Alc rfl
  rcases Agb.1 hz with hz | hz
  ·exact k1 q (by omega) z hz
  ·exact B6w l s1 s' (fun y hy=>hS y (Ahb _ hy)) hw.2 h (hU.mk' m1 (Mo.refl s')) _ q (by omega) z hz
theorem Df5 {b:Tree} (hb:IsB b) (hw:wfT b):∃ tx n a l,b=.mk 20 tx n a l∧(∀ x ∈ l,IsS x)∧Akw l:=by
 cases hb with
 | block hl=>exact ⟨_,_,_,_,rfl,hl,hw.2⟩
theorem B6p {d2:Nat} {b:Tree} (hb:IsB b) (hw:wfT b) (hS:∀ x ∈ b.kids,Bq5 E gl cs src d2 x):Bei E gl cs src d2 b:=fun d ab s s' h hU=>by
 obtain ⟨tx,n,a,l,rfl,hl,hwl⟩:=Df5 hb hw
 cases d with
 | zero=>unfold Adm at h;cases h
 | succ d =>
  unfold Adm at h
  rw [if_pos rfl] at h
  obtain ⟨s1,h1,h⟩:=Acf h
  cases h
  have hp:s.lo <+: s1.lo:=(Bhm (fun s x s' hx h=>Aml (Azc (Ajz.1 hwl x hx)) h) h1).pre
  exact ⟨A4w hp,fun p q hq z hz=>B6w l s s1 hS hwl h1 ⟨rfl,hU.sl,hU.gl,hU.cs,hU.sl',hU.eg,hU.ec⟩ p q hq z hz⟩
theorem B63 {d2:Nat} {d:Nat} {ab:List ByteArray}:∀ (l:List Tree) (s s':CSt),IsR l→Akw l→(∀ x ∈ l,IsB x→Bei E gl cs src d2 x)→Agg (fun s x=>Adm d ab s x false) s l=.ok s'→Up E gl cs s.lo s s'→s'.lo=s.lo ∧
  ∀ p q,p+(brX (Aby ⟨cs,gl,src⟩ s.lo d2 1) (Agc ⟨cs,gl,src⟩ d2 s.lo) p l).length≤q→∀ z,some (some z) ∈ brX (Aby ⟨cs,gl,src⟩ s.lo d2 1) (Agc ⟨cs,gl,src⟩ d2 s.lo) p l→okI E q z
 | [],s,s',_,_,_,h,_=>by cases h;exact ⟨rfl,fun _ _ _ _ h=>(nomatch h)⟩
 | [b],s,s',hr,hw,hB,h,hU=>by
  have hb:IsB b:=by cases hr with | last h=>exact h
  unfold Agg at h
  obtain ⟨s1,h1,h⟩:=Acf h
  cases h
  obtain ⟨e,k⟩:=hB b (Af5 ..) hb d ab s s' h1 hU
  refine ⟨e,fun p q hq z hz=>?_⟩
  simp only [brX,List.length_map] at hq hz
  obtain ⟨o,ho,eo⟩:=List.mem_map.1 hz
  cases eo
  exact k p q hq z ho
 | x :: y :: l,s,s',hr,hw,hB,h,hU=>by
  obtain ⟨hx,hy,hl⟩:IsE x∧IsB y∧IsR l:=by cases hr with | more h1 h2 h3=>exact ⟨h1,h2,h3⟩
  unfold Agg at h
  obtain ⟨s1,h1,h⟩:=Acf h
  unfold Agg at h
  obtain ⟨s2,h2,h⟩:=Acf h
  have mx1:=Akc hw.1 h1
  have my1:=Akc hw.2.1 h2
  have ml:Mo s2 s':=Ayl (fun s u s' hu h=>Akc (Ajz.1 hw.2.2 u hu) h) h
  have ex:=Atu d ab s s1 x false (.inl hx) h1
  have kx':=Av8 (src:=src) d2 x hx hw.1 d ab false s s1 h1 (hU.fst (my1.trans ml))
  obtain ⟨ey,ky⟩:=hB y (Ahb _ (Af5 ..)) hy d ab s1 s2 h2 (hU.mk' mx1 ml)
  obtain ⟨el,kl⟩:=B63 l s2 s' hl hw.2.2 (fun u hu=>hB u (Ahb _ (Ahb _ hu))) h (hU.mk' (mx1.trans my1) (Mo.refl s'))
  have e2:s2.lo=s.lo:=ey.trans ex
  rw [ex] at ky
  rw [e2] at kl
  refine ⟨el.trans e2,fun p q hq z hz=>?_⟩
  simp only [brX,Abj,List.length_map,Aa4] at hq
  simp only [brX] at hz
  rcases Agb.1 hz with hz | hz
  ·obtain ⟨i,hi,eo⟩:=List.mem_map.1 hz
   cases eo
   exact kx' 1 p q (by omega) z hi
  have hm:(if l.isEmpty then [] else [none]:HHx).length=if l.isEmpty then 0 else 1:=by cases l <;> rfl
  rcases List.mem_cons.1 hz with hz | hz
  ·cases hz
   refine A2n (by simp) ⟨by omega,?_⟩
   have:=hq
   omega
  rcases Agb.1 hz with hz | hz
  ·rcases Agb.1 hz with hz | hz
   ·obtain ⟨o,ho,eo⟩:=List.mem_map.1 hz
    cases eo
    exact ky _ q (by omega) z ho
   ·cases l with
    | nil=>cases hz
    | cons u v=>cases Ag1.1 hz
  ·exact kl _ q (by omega) z hz
theorem Bxy {d2 d:Nat} {ab:TyC} {a:Int} {s s':CSt} {names:List Tree} {b:Tree} {more:Nat} (hwb:wfT b) (hB:Bei E gl cs src d2 b) (h:Apy (fun s x=>Adm d ab s x false) a s names b more=.ok s') (hU:Up E gl cs s.lo s s') :
  ∃ lo',(more=0→lo'=s.lo)∧(more > 0→lo'=s.lo++List.replicate more ⟨#[]⟩++names.map Tree.text∧(lo'.length:Int)≤E.sl)∧s'.lo=s.lo∧Mo s s' ∧
   ∀ p q,p+(Agc ⟨cs,gl,src⟩ d2 lo' p b).length≤q→∀ z,some z ∈ Agc ⟨cs,gl,src⟩ d2 lo' p b→okI E q z:=by
 obtain ⟨m,e⟩:=Bx4 (fun s s' h=>⟨Akc hwb h,(Aml (Azc hwb) h).pre⟩) h
 obtain ⟨s1,s2,h1,g1,g2,_,g3,g4,g5,_,g6⟩:=Cgr h
 have m2:=Akc hwb h1
 have hsl:(s1.lo.length:Int)≤s1.sl:=by
  rcases g6 with ⟨_,e1,e2⟩ | ⟨_,_,e2,_⟩
  ·rw [e1,e2];exact hU.sl
  ·omega
 have hsl2:s2.sl≤E.sl:=by rw [← g5];exact hU.sl'
 obtain ⟨_,k⟩:=hB d ab s1 s2 h1 ⟨rfl,hsl,by rw [← g3];exact hU.gl,by rw [← g4];exact hU.cs,hsl2,hU.eg,hU.ec⟩
 refine ⟨s1.lo,fun h0=>?_,fun h0=>?_,e,m,k⟩
 ·rcases g6 with ⟨_,_,e2⟩ | ⟨h1,_,_,_⟩
  ·exact e2
  ·omega
 ·rcases g6 with ⟨h1,_,_⟩ | ⟨_,e1,e2,_⟩
  ·omega
  ·exact ⟨e1,Int.le_trans hsl (Int.le_trans m2.sl hsl2)⟩
theorem Bx0 {X:Hx} {back:Ins} {p q:Nat} (hX:∀ z,some z ∈ X→okI E q z) (hb:okI E q back) (hq:p+X.length+1≤q):∀ z ∈ Atm X back p,okI E q z:=fun z hz=>by
 rcases C7l hz with h | rfl | rfl
 ·exact hX z h
 ·exact A2n (by simp) (by omega)
 ·exact hb
theorem B1x:∀ (d2:Nat) (t:Tree),IsS t→wfT t→sz t≤d2→Bq5 E gl cs src d2 t
 | 0,t,_,_,h=>by have:=Asu t;omega
 | d2+1,t,hI,hw,hd=>fun d ab s s' h hU p=>by
  cases d with
  | zero=>unfold Adm at h;cases h
  | succ d =>
  have m:=Akc hw h
  have hgw:=Azc hw
  have KE:∀ (l:List Tree),(∀ x ∈ l,IsE x)→Akw l→∀ s s',Agg (fun s x=>Adm d ab s x false) s l=.ok s'→Up E gl cs s.lo s s'→s'.lo=s.lo∧Mo s s' ∧
    (∀ p q,p+(Ahg (Aby ⟨cs,gl,src⟩ s.lo d2 1) p l).length≤q→∀ z ∈ Ahg (Aby ⟨cs,gl,src⟩ s.lo d2 1) p l,okI E q z)∧(∀ p q,p+(Apl (Aby ⟨cs,gl,src⟩ s.lo d2) p l).length≤q→∀ z ∈ Apl (Aby ⟨cs,gl,src⟩ s.lo d2) p l,okI E q z):=fun l hl hwl s s' h hU =>
   Bim l s s' (fun x hx=>Av8 d2 x (hl x hx) (Ajz.1 hwl x hx) d ab false) (fun x hx s s' h=>⟨Akc (Ajz.1 hwl x hx) h,Atu d ab s s' x false (.inl (hl x hx)) h⟩) h hU
  have KB:∀ b,IsB b→wfT b→sz b≤d2+1→Bei E gl cs src d2 b:=fun b hb hwb hs=>B6p hb hwb fun x hx=>by
   obtain ⟨h1,h2,_⟩:=Bgg hb
   have:=A94 hx
   exact B1x d2 x (h1 x hx) (Ajz.1 (by cases b;exact hwb.2) x hx) (by omega)
  have LB:∀ {a:Int} {s s':CSt} {names:List Tree} {b:Tree} {more:Nat},wfT b→Apy (fun s x=>Adm d ab s x false) a s names b more=.ok s'→Mo s s'∧s'.lo=s.lo:=fun hwb h=>Bx4 (fun s s' h=>⟨Akc hwb h,(Aml (Azc hwb) h).pre⟩) h
  cases hI with
  | loc hl hm =>
   rename_i a t l m'
   rw [Biy]
   obtain ⟨_,hws⟩:=hw
   have hwm:Akw m':=by rw [Ajz] at hws ⊢;exact fun x hx=>hws x (List.mem_append_right _ hx)
   unfold Adm at h
   simp only [Int.reduceEq,if_false,if_true,Int.toNat_natCast,List.drop_left,List.take_left] at h
   obtain ⟨_,_,h⟩:=Acf h
   obtain ⟨_,_,h⟩:=Acf h
   obtain ⟨s1,h1,h⟩:=Acf h
   obtain ⟨r,h2,h⟩:=Acf h
   cases h
   have hb:=Azi h2
   have m1:Mo s s1:=Ayl (fun s y s' hy h=>Akc (Ajz.1 hwm y hy) h) h1
   have hU1:Up E gl cs s.lo s s1:=⟨rfl,hU.sl,hU.gl,hU.cs,Int.le_trans (by omega:s1.sl≤r.1) hU.sl',hU.eg,hU.ec⟩
   obtain ⟨e1,_,k2,k3⟩:=KE m' hm hwm s s1 h1 hU1
   refine ⟨by show _=r.2;rw [hb.1,e1],fun q hq z hz=>?_⟩
   simp only [Apo,Abj] at hq
   rcases Agb.1 (A8r hz) with hz | hz
   ·exact B25 k2 k3 p q (by omega) z hz
   ·refine Ckn l.length ?_ z hz
    have h3:=hU.sl'
    have h4:(r.2.length:Int)≤E.sl:=Int.le_trans (by omega:(r.2.length:Int)≤r.1) h3
    rw [hb.1,e1,Abj,List.length_map] at h4
    exact h4
  | asg hl hx hm hy =>
   rename_i a t l m'
   rw [Biq]
   obtain ⟨_,hws⟩:=hw
   have hwl:Akw l:=by rw [Ajz] at hws ⊢;exact fun x hx=>hws x (List.mem_append_left _ hx)
   have hwm:Akw m':=by rw [Ajz] at hws ⊢;exact fun x hx=>hws x (List.mem_append_right _ hx)
   unfold Adm at h
   simp only [Int.reduceEq,if_false,if_true] at h
   obtain ⟨_,_,h⟩:=Acf h
   obtain ⟨_,_,h⟩:=Acf h
   obtain ⟨s1,h1,h⟩:=B6e l m' 0 s s' h
   rw [B6i m' _ s1 (by omega)] at h
   have ml:Mo s1 s':=Ayl (fun s u s' hu h=>Akc (Ajz.1 hwm u hu) h) h
   obtain ⟨e1,m1,k1,k2⟩:=Clo (src:=src) d2 d ab s.lo l.length l 0 s s1 hx hwl (by omega) h1 (hU.fst ml)
   obtain ⟨e2,_,k3,k4⟩:=KE m' hy hwm s1 s' h (hU.mk' m1 (Mo.refl s'))
   rw [e1] at k3 k4
   refine ⟨(e2.trans e1).symm,fun q hq z hz=>?_⟩
   have hz:=A8r hz
   rw [Apo] at hq
   unfold A5y at hq hz
   simp only [Abj,Aa4,Acg] at hq
   rcases Agb.1 hz with hz | hz
   ·exact k1 p q (by omega) z hz
   rcases Agb.1 hz with hz | hz
   ·exact B25 k3 k4 _ q (by omega) z hz
   rcases Agb.1 hz with hz | hz
   ·exact k2 _ q z hz
   ·rw [Ag1.1 hz];exact Alc rfl
  | run hx h8 =>
   rename_i n a t x
   rw [Bi3]
   obtain ⟨_,hwx,_⟩:=hw
   unfold Adm at h
   simp only [Int.reduceEq,if_false] at h
   unfold Ali at h
   simp only [Int.reduceEq,if_false,false_and] at h
   unfold Agg at h
   obtain ⟨s1,h1,h⟩:=Acf h
   cases h
   refine ⟨(Atu d ab s s' x false (.inl hx) h1).symm,fun q hq z hz=>?_⟩
   rw [Apo] at hq
   exact Av8 (src:=src) d2 x hx hwx d ab false s s' h1 hU 0 p q hq z (A8r hz)
  | if_ hr =>
   rename_i n a t l
   rw [Bcn]
   simp only [sz] at hd
   unfold Adm at h
   simp only [Int.reduceEq,if_false] at h
   unfold Ali at h
   simp only [Int.reduceEq,if_false,false_and] at h
   obtain ⟨e1,k1⟩:=B63 l s s' hr hw.2 (fun b hb hbI=>KB b hbI (Ajz.1 hw.2 b hb) (by have:=A94 hb;omega)) h hU
   refine ⟨e1.symm,fun q hq z hz=>?_⟩
   simp only [ifH,List.length_map] at hq
   obtain ⟨o,ho,eo⟩:=List.mem_map.1 hz
   cases o with
   | none=>cases eo;exact A2n (by simp) (by omega)
   | some o=>cases eo;exact k1 p q hq z ho
  | while_ hx hb =>
   rename_i n a t x b
   rw [Bi4]
   obtain ⟨_,hwx,hwb,_⟩:=hw
   simp only [sz,szs] at hd
   unfold Adm at h
   simp only [Int.reduceEq,if_false,if_true,show Adu [x,b] 0=x from rfl,show Adu [x,b] 1=b from rfl] at h
   obtain ⟨s1,h1,h⟩:=Acf h
   have m1:=Akc hwx h1
   have e1:=Atu d ab s s1 x false (.inl hx) h1
   have hU2:Up E gl cs s1.lo s1 s':=hU.mk' m1 (Mo.refl s')
   obtain ⟨lo',g1,_,el,ml,k2⟩:=Bxy hwb (KB b hb hwb (by omega)) h hU2
   have k1:=Av8 (src:=src) d2 x hx hwx d ab false s s1 h1 (hU.fst ml)
   have g1:=(g1 rfl).trans e1
   subst g1
   refine ⟨(el.trans e1).symm,fun q hq z hz=>?_⟩
   have hz:=A8r hz
   rw [Apo] at hq
   unfold Bpq at hq hz
   simp only [Abj,Aa4,Awy] at hq
   rcases Agb.1 hz with hz | hz
   ·exact k1 1 p q (by omega) z hz
   rcases List.mem_cons.1 hz with rfl | hz
   ·exact A2n (by simp) (by omega)
   rcases List.mem_cons.1 hz with rfl | hz
   ·exact Alc rfl
   ·exact Bx0 (fun z hz=>k2 _ q (by omega) z hz) (A2n (by simp) (by omega)) (by omega) z hz
  | for_ hl hx hb =>
   rename_i n a t x b l
   rw [Biv]
   obtain ⟨_,hwx,hws⟩:=hw
   have hws:Akw (l++[b]):=hws
   have hwl:Akw l:=by rw [Ajz] at hws ⊢;exact fun x hx=>hws x (List.mem_append_left _ hx)
   have hwb:wfT b:=by rw [Ajz] at hws;exact hws b (by simp)
   simp only [sz,szs,Ah6] at hd
   have e1:(x :: l++[b]).length - 2=l.length:=by simp
   have e2:((x :: l++[b]).drop 1).take l.length=l:=by simp
   have e3:Adu (x :: l++[b]) ((x :: l++[b]).length - 1)=b:=by simp [Adu]
   have e4:(x :: l++[b]).take 1=[x]:=rfl
   unfold Adm at h
   simp only [Int.reduceEq,if_false,if_true,e1,e2,e3,e4] at h
   obtain ⟨s1,h1,h⟩:=Acf h
   have m1:Mo s s1:=Ayl (fun s u s' hu h=>Akc (Ajz.1 hwl u hu) h) h1
   have el1:s1.lo=s.lo:=Bnp (fun u hu s s' h=>Atu d ab s s' u false (.inl (hx u hu)) h) h1
   obtain ⟨lo',_,g2,el,ml,k2⟩:=Bxy hwb (KB b hb hwb (by omega)) h (hU.mk' m1 (Mo.refl s'))
   obtain ⟨_,_,k1,_⟩:=KE l hx hwl s s1 h1 (hU.fst ml)
   obtain ⟨g2,g3⟩:=g2 (by decide)
   rw [el1] at g2
   have g2:lo'=Apz s.lo [x]:=g2
   subst g2
   rw [Bnh,Aa4,Acg] at g3
   refine ⟨(el.trans el1).symm,fun q hq z hz=>?_⟩
   have hz:=A8r hz
   rw [Apo] at hq
   unfold Blo at hq hz
   simp only [Abj,Aa4,Awy] at hq
   rcases Agb.1 hz with hz | hz
   ·exact k1 p q (by omega) z hz
   rcases List.mem_cons.1 hz with rfl | hz
   ·exact Cia (.inl rfl) (by omega) (by omega)
   ·exact Bx0 (fun z hz=>k2 _ q (by omega) z hz) (Cia (.inr rfl) (by omega) (by omega)) (by omega) z hz
  | forIn hl hm hx hb =>
   rename_i a t b l m'
   rw [Biw]
   obtain ⟨_,hws⟩:=hw
   have hwm:Akw m':=by rw [Ajz] at hws ⊢;exact fun x hx=>hws x (by simp [hx])
   have hwb:wfT b:=by rw [Ajz] at hws;exact hws b (by simp)
   simp only [sz,szs,Ah6] at hd
   have e1:(l++m'++[b]).length - 1 - l.length=m'.length:=by simp
   have e2:((l++m'++[b]).drop l.length).take m'.length=m':=by simp
   have e3:Adu (l++m'++[b]) ((l++m'++[b]).length - 1)=b:=by simp [Adu]
   have e4:(l++m'++[b]).take l.length=l:=by simp
   unfold Adm at h
   simp only [Int.reduceEq,if_false,if_true,Int.toNat_natCast,e1,e2,e3,e4] at h
   obtain ⟨_,_,h⟩:=Acf h
   obtain ⟨_,_,h⟩:=Acf h
   obtain ⟨s1,h1,h⟩:=Acf h
   have m1:Mo s s1:=Ayl (fun s u s' hu h=>Akc (Ajz.1 hwm u hu) h) h1
   have el1:s1.lo=s.lo:=Bnp (fun u hu s s' h=>Atu d ab s s' u false (.inl (hx u hu)) h) h1
   obtain ⟨lo',_,g2,el,ml,k2⟩:=Bxy hwb (KB b hb hwb (by omega)) h (hU.mk' m1 (Mo.refl s'))
   obtain ⟨_,_,k1,k3⟩:=KE m' hx hwm s s1 h1 (hU.fst ml)
   obtain ⟨g2,g3⟩:=g2 (by decide)
   rw [el1] at g2
   have g2:lo'=Apz s.lo l:=g2
   subst g2
   rw [Bnh] at g3
   have hlp:=List.length_pos_iff.2 hl
   refine ⟨(el.trans el1).symm,fun q hq z hz=>?_⟩
   have hz:=A8r hz
   rw [Apo] at hq
   unfold inG at hq hz
   simp only [Abj,Aa4,Awy] at hq
   rcases Agb.1 hz with hz | hz
   ·exact B25 k1 k3 p q (by omega) z hz
   rcases List.mem_cons.1 hz with rfl | hz
   ·exact Da1 (by omega)
   rcases List.mem_cons.1 hz with rfl | hz
   ·exact Bb5 (.inl rfl) (by omega)
   rcases List.mem_cons.1 hz with rfl | hz
   ·exact Alc rfl
   rcases List.mem_cons.1 hz with rfl | hz
   ·exact Bb5 (.inl rfl) (by omega)
   rcases List.mem_cons.1 hz with rfl | hz
   ·exact Bb5 (.inl rfl) (by omega)
   rcases List.mem_cons.1 hz with rfl | hz
   ·exact Alc rfl
   rcases List.mem_cons.1 hz with rfl | hz
   ·exact Daz (by omega) (by omega)
   ·exact Bx0 (fun z hz=>k2 _ q (by omega) z hz) (A2n (by simp) (by omega)) (by omega) z hz
  | do_ hb =>
   rename_i n a t b
   rw [Bck]
   obtain ⟨_,hwb,_⟩:=hw
   simp only [sz,szs] at hd
   unfold Adm at h
   simp only [Int.reduceEq,if_false] at h
   unfold Ali at h
   simp only [Int.reduceEq,if_false,false_and] at h
   unfold Agg at h
   obtain ⟨s1,h1,h⟩:=Acf h
   cases h
   obtain ⟨e,k⟩:=KB b hb hwb (by omega) d ab s s' h1 hU
   exact ⟨e.symm,fun q hq z hz=>k p q hq z hz⟩
  | break_ =>
   rename_i n a t
   rw [Biu]
   unfold Adm at h
   simp only [Int.reduceEq,if_false,if_true] at h
   split at h
   ·cases h
   ·cases h
    exact ⟨rfl,fun q hq z hz=>by cases Ag1.1 hz⟩
  | ret hx =>
   rename_i n a t l
   rw [Bi2]
   unfold Adm at h
   simp only [Int.reduceEq,if_false] at h
   unfold Ali at h
   simp only [Int.reduceEq,if_false,if_true] at h
   obtain ⟨_,_,h⟩:=Acf h
   obtain ⟨e,_,_,k⟩:=KE l hx hw.2 s s' h hU
   refine ⟨e.symm,fun q hq z hz=>?_⟩
   have hz:=A8r hz
   rw [Apo] at hq
   unfold Bid at hq hz
   simp only [Abj,Aa4,Acg] at hq
   rcases List.mem_cons.1 hz with rfl | hz
   ·exact Alc rfl
   rcases Agb.1 hz with hz | hz
   ·exact k _ q (by omega) z hz
   ·rw [Ag1.1 hz];exact Alc rfl
end
end
section
open Go Go.RowKit
def Atb.l0:Nat→(a0:List (Int×Int×ByteArray))→(a1:List (Int×Int×ByteArray))→(J2:(Unit→Option (Bool)))→(x3:Int)→Option (Bool)
 | 0,_,_,_,_=>none
 | m4+1,a0,a1,J2,x3=>cond (decide (x3 < ((a0.length:Nat):Int))) ((Ack a0 x3).bind fun x6=>(Ack a1 x3).bind fun x10=>cond (!((x6.1 == x10.1) && ((x6.2.1 == x10.2.1) && ((x6.2.2.toList == x10.2.2.toList) && true)))) (some (false)) (Atb.l0 m4 a0 a1 J2 (IntKind.i64.wrap (x3+1)))) (J2 ())
def Atb.f (k:Nat) (a0:TyB) (a1:TyB):Option (Bool):=cond (((a0.length:Nat):Int) != ((a1.length:Nat):Int)) (some (false)) (Adj (fun (_:Unit)=>some (true)) (fun J2=>Atb.l0 k a0 a1 J2 0))
theorem Atb.ok {k Al3 Ae6:Nat} {a0 a1:TyB} {Aps Ahz:Aaa} {Alz Ae2:TyO} {r:Bool} (h:Atb.f k a0 a1=some r) (Axi:RdT e78 3 Aps (slW Alz a0 Al3) a0) (Ajh:RdT e78 3 Ahz (slW Ae2 a1 Ae6) a1): Ct Tryz.prog 11 #[slW Alz a0 Al3,slW Ae2 a1 Ae6] [] [Aps,Ahz] (fun e l1=>e=.returned (bv r)∧l1=[]):=by
 refine Afi (args:=[slW Alz a0 Al3,slW Ae2 a1 Ae6]) Tryz.func11 rfl (Ac0 rfl) ?_
 intro A X hh_
 obtain ⟨Ax6,Ah4,_⟩:=hh_
 unfold Atb.f at h
 refine ksr (kx 1 (knt (Acx (ksr (kx 5 (knt ?_))))))
 refine kcn h (fun h=>?_) fun h=>?_
 ·refine ksr (kx 1 (knt (Aem (Afx ?_))))
  obtain rfl:=Aam h
  exact kdn rfl
 ·refine Adl (Abi ?_)
  obtain ⟨J2,hJ2,h⟩:=Ags h
  refine Agt (τ:=Unit) (fun t=>[]) (fun t=>X) (fun t=>J2 ()=some r) ?_ ?_
  ·rintro ⟨⟩ h
   subst hJ2
   refine ksr (kx 1 (knt (Aem ?_)))
   obtain rfl:=Aam h
   exact kdn rfl
  ·skip
   refine ksr (kx 1 (knt (Aez (Akb (τ:=Int) (fun t=>[(0,slW Alz a0 Al3),(1,slW Ae2 a1 Ae6),(5,iv t)]) (fun t=>X) (fun m t=>Atb.l0 m a0 a1 J2 t=some r) k 0 h sb rfl ?_))))
   clear h
   rintro m4 x3 h
   cases m4 with
   | zero=>simp [Atb.l0] at h
   | succ m4 =>
    simp only [Atb.l0] at h
    refine Acx (ksr (kx 4 (knt ?_)))
    refine kcn h (fun h=>?_) fun h=>?_
    ·refine Adl (Abi (Acx (Aez (Acx (Arz [(0,0),(1,0),(2,0),(3,3),(4,0),(5,0),(6,0),(7,3)] [Aps,Ahz] (fun w h_=>⟨h_.sat.on _ Ax6,h_.sat.on _ Ah4,trivial⟩) (kpx 2 (bnd h fun x6 hx6 h=>(A4h (T:=78) (kd:=.i64) Bey rfl hx6 Axi fun p7 e8 y9=>?_))))))))
     have e8:Elem _ p7 [iv x6.1,iv x6.2.1,sv x6.2.2]:=e8
     refine Aqy rfl e8 (fun w h_=>h_.mem _ (.head _)) (kpx 2 (bnd h fun x10 Bv5 h=>(A4h (T:=78) (kd:=.i64) Bey rfl Bv5 Ajh fun p11 e12 y13=>?_)))
     have e12:Elem _ p11 [iv x10.1,iv x10.2.1,sv x10.2.2]:=e12
     refine Aqy rfl e12 (fun w h_=>h_.mem _ (.tail _ (.head _))) (kpz (Bbp (r:=((x6.1 == x10.1) && ((x6.2.1 == x10.2.1) && ((x6.2.2.toList == x10.2.2.toList) && true)))) (xs:=#[iv x6.1,iv x6.2.1,sv x6.2.2]) (ys:=#[iv x10.1,iv x10.2.1,sv x10.2.2]) true (by kernel_rfl) rfl (by kernel_rfl) (by kernel_rfl) (by kernel_rfl) (by kernel_rfl) (by kernel_rfl) (by kernel_rfl) (by kernel_rfl) (knt ?_)))
     refine kcn h (fun h=>?_) fun h=>?_
     ·refine ksr (kx 1 (knt (Aem (Ahj (Afx (Afx (Ahj (Afx ?_))))))))
      obtain rfl:=Aam h
      exact kdn rfl
     ·exact Adl (Ade (Abi (Ab6 (kx 3 (knt (Ai4 m4 (IntKind.i64.wrap (x3+1)) (Nat.lt_succ_self _) h sb rfl))))))
    ·exact Aj9 (Agh (Agh (Aka (Abi (Ac1 () h trivial rfl)))))
def Ar1.l0:Nat→(a0:List ByteArray)→(a1:List ByteArray)→(J2:(Unit→Option (Bool)))→(x3:Int)→Option (Bool)
 | 0,_,_,_,_=>none
 | m4+1,a0,a1,J2,x3=>cond (decide (x3 < ((a0.length:Nat):Int))) ((Ack a0 x3).bind fun x6=>(Ack a1 x3).bind fun x10=>cond (!(x6.toList == x10.toList)) (some (false)) (Ar1.l0 m4 a0 a1 J2 (IntKind.i64.wrap (x3+1)))) (J2 ())
def Ar1.f (k:Nat) (a0:TyC) (a1:TyC):Option (Bool):=cond (((a0.length:Nat):Int) != ((a1.length:Nat):Int)) (some (false)) (Adj (fun (_:Unit)=>some (true)) (fun J2=>Ar1.l0 k a0 a1 J2 0))
theorem Ar1.ok {k Al3 Ae6:Nat} {a0 a1:TyC} {Aps Ahz:Aaa} {Alz Ae2:TyO} {r:Bool} (h:Ar1.f k a0 a1=some r) (Axi:RdT encS 1 Aps (slW Alz a0 Al3) a0) (Ajh:RdT encS 1 Ahz (slW Ae2 a1 Ae6) a1): Ct Tryz.prog 10 #[slW Alz a0 Al3,slW Ae2 a1 Ae6] [] [Aps,Ahz] (fun e l1=>e=.returned (bv r)∧l1=[]):=by
 refine Afi (args:=[slW Alz a0 Al3,slW Ae2 a1 Ae6]) Tryz.func10 rfl (Ac0 rfl) ?_
 intro A X hh_
 obtain ⟨Ax6,Ah4,_⟩:=hh_
 unfold Ar1.f at h
 refine ksr (kx 1 (knt (Acx (ksr (kx 5 (knt ?_))))))
 refine kcn h (fun h=>?_) fun h=>?_
 ·refine ksr (kx 1 (knt (Aem (Afx ?_))))
  obtain rfl:=Aam h
  exact kdn rfl
 ·refine Adl (Abi ?_)
  obtain ⟨J2,hJ2,h⟩:=Ags h
  refine Agt (τ:=Unit) (fun t=>[]) (fun t=>X) (fun t=>J2 ()=some r) ?_ ?_
  ·rintro ⟨⟩ h
   subst hJ2
   refine ksr (kx 1 (knt (Aem ?_)))
   obtain rfl:=Aam h
   exact kdn rfl
  ·skip
   refine ksr (kx 1 (knt (Aez (Akb (τ:=Int) (fun t=>[(0,slW Alz a0 Al3),(1,slW Ae2 a1 Ae6),(5,iv t)]) (fun t=>X) (fun m t=>Ar1.l0 m a0 a1 J2 t=some r) k 0 h sb rfl ?_))))
   clear h
   rintro m4 x3 h
   cases m4 with
   | zero=>simp [Ar1.l0] at h
   | succ m4 =>
    simp only [Ar1.l0] at h
    refine Acx (ksr (kx 4 (knt ?_)))
    refine kcn h (fun h=>?_) fun h=>?_
    ·refine Adl (Abi (Acx (Aez (Acx (Arz [(0,0),(1,0),(2,0),(3,3),(4,0),(5,0),(6,0),(7,3)] [Aps,Ahz] (fun w h_=>⟨h_.sat.on _ Ax6,h_.sat.on _ Ah4,trivial⟩) (kpx 2 (bnd h fun x6 hx6 h=>(A4h (T:=9) (kd:=.i64) Arv rfl hx6 Axi fun p7 e8 y9=>?_))))))))
     have e8:Elem _ p7 [sv x6]:=e8
     refine A2j rfl (by kernel_rfl) (by kernel_rfl) (by kernel_rfl) (by kernel_rfl) e8 (fun w h_=>h_.mem _ (.head _)) (kpx 2 (bnd h fun x10 Bv5 h=>(A4h (T:=9) (kd:=.i64) Arv rfl Bv5 Ajh fun p11 e12 y13=>?_)))
     have e12:Elem _ p11 [sv x10]:=e12
     refine A2j rfl (by kernel_rfl) (by kernel_rfl) (by kernel_rfl) (by kernel_rfl) e12 (fun w h_=>h_.mem _ (.tail _ (.head _))) (kpz (kx 1 (knt ?_)))
     refine kcn h (fun h=>?_) fun h=>?_
     ·refine ksr (kx 1 (knt (Aem (Ahj (Afx (Afx (Ahj (Afx ?_))))))))
      obtain rfl:=Aam h
      exact kdn rfl
     ·exact Adl (Ade (Abi (Ab6 (kx 3 (knt (Ai4 m4 (IntKind.i64.wrap (x3+1)) (Nat.lt_succ_self _) h sb rfl))))))
    ·exact Aj9 (Agh (Agh (Aka (Abi (Ac1 () h trivial rfl)))))
def A4i.f (_k:Nat) (Aac:Int) (Aad:Int) (Aj3:Int) (Aae:Int):Option (Int×Bool):=Adj (fun (x2:Bool)=>cond x2 (some (Aad,true)) (Adj (fun (x5:Bool)=>cond x5 (some (Aj3,true)) (some (0,false))) (fun J6=>cond (Aac == 30) (J6 (Aac == 30)) (cond (Aac == 31) (J6 (Aac == 31)) (J6 (Aac == 33)))))) (fun J3=>cond (Aac == 18) (J3 (Aac == 18)) (cond (Aac == 19) (J3 (Aac == 19)) (cond (Aac == 20) (J3 (Aac == 20)) (J3 (Aac == 21)))))
theorem A4i.ok {k:Nat} {Aac Aad Aj3 Aae:Int} {r:Int×Bool} (h:A4i.f k Aac Aad Aj3 Aae=some r): Ct Tryz.prog 12 #[.agg #[iv Aac,iv Aad,iv Aj3,iv Aae]] [] [] (fun e l1=>e=.returned (.tuple #[iv r.1,bv r.2])∧l1=[]):=by
 refine Afi (args:=[.agg #[iv Aac,iv Aad,iv Aj3,iv Aae]]) Tryz.func12 rfl (Ac0 rfl) ?_
 intro A X hh_
 unfold A4i.f at h
 refine ksr (knp #[iv Aac,iv Aad,iv Aj3,iv Aae] 48 fun b1=>(kx 2 (knt (Acx (ksr (kx 1 (kld 0 0 rfl (knt (Aez ?_)))))))))
 obtain ⟨J3,hJ3,h⟩:=Ags h
 refine Agt (τ:=Bool) (fun t=>[(1,pt b1),(5,iv Aac),(6,bv t)]) (fun t=>bk b1 #[iv Aac,iv Aad,iv Aj3,iv Aae] 48 :: X) (fun t=>J3 t=some r) ?_ ?_
 ·rintro x2 h
  subst hJ3
  refine kcn h (fun h=>?_) fun h=>?_
  ·refine ksr (kx 1 (kld 0 1 rfl (K.drop (kx 2 (knt (Aem (Ahj (Afx ?_))))))))
   obtain rfl:=Aam h
   exact kdn rfl
  ·obtain ⟨J6,hJ6,h⟩:=Ags h
   refine Agt (τ:=Bool) (fun t=>[(1,pt b1),(13,bv t)]) (fun t=>bk b1 #[iv Aac,iv Aad,iv Aj3,iv Aae] 48 :: X) (fun t=>J6 t=some r) ?_ ?_
   ·rintro x5 h
    subst hJ6
    refine kcn h (fun h=>?_) fun h=>?_
    ·refine ksr (kx 1 (kld 0 2 rfl (K.drop (kx 2 (knt (Aem (Ahj (Afx ?_))))))))
     obtain rfl:=Aam h
     exact kdn rfl
    ·refine Adl (Ade (Abi (ksr (kx 2 (knt (Aem ?_))))))
     obtain rfl:=Aam h
     exact K.drop (kdn rfl)
   ·skip
    refine ksr (kx 2 (knt ?_))
    refine kcn h (fun h=>?_) fun h=>?_
    ·exact Adl (Abi (Ac1 (Aac == 30) h sb rfl))
    ·refine ksr (kx 2 (knt ?_))
     refine kcn h (fun h=>?_) fun h=>?_
     ·exact Adl (Abi (Ac1 (Aac == 31) h sb rfl))
     ·exact Ab6 (kx 2 (knt (Ac1 (Aac == 33) h sb rfl)))
 ·skip
  refine ksr (kx 2 (knt ?_))
  refine kcn h (fun h=>?_) fun h=>?_
  ·exact Adl (Abi (Ac1 (Aac == 18) h sb rfl))
  ·refine ksr (kx 2 (knt ?_))
   refine kcn h (fun h=>?_) fun h=>?_
   ·exact Adl (Abi (Ac1 (Aac == 19) h sb rfl))
   ·refine ksr (kx 2 (knt ?_))
    refine kcn h (fun h=>?_) fun h=>?_
    ·exact Adl (Abi (Ac1 (Aac == 20) h sb rfl))
    ·exact Ab6 (kx 2 (knt (Ac1 (Aac == 21) h sb rfl)))
def Azu.f (_k:Nat) (Aac:List (ByteArray×Int×Int×TyB×TyA)) (Aad:TyC) (Aan:ByteArray) (Aar:Int) (Aao:Int) (Aa5:TyB) (Aag:TyA) (Afm:Int) (Aje:Int) (Apt:Int) (Axj:Int):Option (Bool):=cond (Afm == 2) ((cond (decide (Aje ≥ 1)) (some (decide (Aje≤((Aa5.length:Nat):Int)))) (some false):Option Bool).bind fun q5=>some (q5)) (Adj (fun (x7:Bool)=>cond x7 ((cond (decide (Aje ≥ 1)) (some (decide (Aje≤Aao))) (some false):Option Bool).bind fun q10=>some (q10)) (Adj (fun (x12:Bool)=>cond x12 ((cond (decide (Aje ≥ 1)) (some (decide (Aje≤((Aad.length:Nat):Int)))) (some false):Option Bool).bind fun q15=>some (q15)) (cond (Afm == 11) ((cond (decide (Aje ≥ 1)) (some (decide (Aje < ((Aac.length:Nat):Int)))) (some false):Option Bool).bind fun q18=>some (q18)) (cond (Afm == 10) ((cond (decide (Aje ≥ 12)) (some (decide (Aje≤22))) (some false):Option Bool).bind fun q21=>some (q21)) (Adj (fun (x23:Bool)=>cond x23 ((cond (decide (Aje ≥ 1)) (some (decide (Aje≤(IntKind.i64.wrap (Aao - 3))))) (some false):Option Bool).bind fun q26=>some (q26)) (cond (Afm == 32) ((cond (decide (Aje ≥ 1)) (some (decide (Aje≤(IntKind.i64.wrap (Aao - 2))))) (some false):Option Bool).bind fun q29=>some (q29)) (cond (Afm == 33) ((cond (decide (Aje ≥ 1)) (cond (decide (Axj ≥ 1)) (cond (decide (Axj≤Aao)) (some (decide (Aje≤(IntKind.i64.wrap ((IntKind.i64.wrap (Aao - 2)) - Axj))))) (some false)) (some false)) (some false):Option Bool).bind fun q32=>some (q32)) ((cond (decide (Afm ≥ 1)) (some (decide (Afm≤34))) (some false):Option Bool).bind fun q36=>some (q36))))) (fun J24=>cond (Afm == 30) (J24 (Afm == 30)) (J24 (Afm == 31))))))) (fun J13=>cond (Afm == 8) (J13 (Afm == 8)) (J13 (Afm == 9))))) (fun J8=>cond (Afm == 6) (J8 (Afm == 6)) (J8 (Afm == 7))))
theorem Azu.ok {k Aau Aew A6a Abx:Nat} {Aac:List (ByteArray×Int×Int×TyB×TyA)} {Aad:TyC} {Aan:ByteArray} {Aar Aao Afm Aje Apt Axj:Int} {Aa5:TyB} {Aag:TyA} {Adb Afs B5l Ae4:Aaa} {Aas Aer A5m Abu:TyO} {r:Bool} (h:Azu.f k Aac Aad Aan Aar Aao Aa5 Aag Afm Aje Apt Axj=some r) (Abe:RdR Aht Adb (slW Aas Aac Aau) Aac) (Ah0:RdT encS 1 Afs (slW Aer Aad Aew) Aad) (Dhz:RdT e78 3 B5l (slW A5m Aa5 A6a) Aa5) (Ado:RdT e48 4 Ae4 (slW Abu Aag Abx) Aag): Ct Tryz.prog 13 #[.agg #[slW Aas Aac Aau,slW Aer Aad Aew],.agg #[sv Aan,iv Aar,iv Aao,slW A5m Aa5 A6a,slW Abu Aag Abx],.agg #[iv Afm,iv Aje,iv Apt,iv Axj]] [] [Adb,Afs,B5l,Ae4] (fun e l1=>e=.returned (bv r)∧l1=[]):=by
 refine Afi (args:=[.agg #[slW Aas Aac Aau,slW Aer Aad Aew],.agg #[sv Aan,iv Aar,iv Aao,slW A5m Aa5 A6a,slW Abu Aag Abx],.agg #[iv Afm,iv Aje,iv Apt,iv Axj]]) Tryz.func13 rfl (Ac0 rfl) ?_
 intro A X hh_
 obtain ⟨Abr,Cbw,Dj2,Adg,_⟩:=hh_
 unfold Azu.f at h
 refine ksr (knp #[slW Aas Aac Aau,slW Aer Aad Aew] 25 fun b1=>(knp #[sv Aan,iv Aar,iv Aao,slW A5m Aa5 A6a,slW Abu Aag Abx] 41 fun b2=>(knp #[iv Afm,iv Aje,iv Apt,iv Axj] 48 fun b3=>(kx 1 (knt (Acx (ksr (kx 1 (kld 0 0 rfl (knt ?_))))))))))
 refine Aez (ksr (kx 2 (knt ?_)))
 refine kcn h (fun h=>?_) fun h=>?_
 ·refine bnd h fun q5 hq5 h=>?_
  refine Ak3 [(6,bv q5)] (X) ?_ ?_
  ·clear hq5
   refine Aem (Ahj (Afx ?_))
   obtain rfl:=Aam h
   exact kdn rfl
  ·have h:=hq5
   clear hq5
   refine Ab6 (kx 1 (kld 0 1 rfl (K.mv2 (K.drop (kx 2 ?_)))))
   refine kcs 14 h (fun h=>?_) fun h=>?_
   ·exact kx 1 (kld 0 1 rfl (K.drop (kx 1 (kld 0 3 rfl (K.drop (kx 4 (knt (Afa ⟨gb (Aam h),trivial⟩))))))))
   ·exact kx 8 (knt (K.drop (K.drop (Afa ⟨gb (Aam h),trivial⟩))))
 ·obtain ⟨J8,hJ8,h⟩:=Ags h
  refine Agt (τ:=Bool) (fun t=>[(3,pt b1),(4,pt b2),(5,pt b3),(8,iv Afm),(22,bv t)]) (fun t=>bk b3 #[iv Afm,iv Aje,iv Apt,iv Axj] 48 :: bk b2 #[sv Aan,iv Aar,iv Aao,slW A5m Aa5 A6a,slW Abu Aag Abx] 41 :: bk b1 #[slW Aas Aac Aau,slW Aer Aad Aew] 25 :: X) (fun t=>J8 t=some r) ?_ ?_
  ·rintro x7 h
   subst hJ8
   refine kcn h (fun h=>?_) fun h=>?_
   ·refine bnd h fun q10 hq10 h=>?_
    refine Ak3 [(6,bv q10)] (X) ?_ ?_
    ·clear hq10
     refine Aem (Ahj (Afx ?_))
     obtain rfl:=Aam h
     exact kdn rfl
    ·have h:=hq10
     clear hq10
     refine Ab6 (kx 1 (kld 0 1 rfl (K.mv2 (K.drop (kx 2 ?_)))))
     refine kcs 28 h (fun h=>?_) fun h=>?_
     ·exact kx 1 (kld 0 1 rfl (K.drop (kx 1 (kld 0 2 rfl (K.drop (kx 3 (knt (Afa ⟨gb (Aam h),trivial⟩))))))))
     ·exact kx 7 (knt (K.drop (K.drop (Afa ⟨gb (Aam h),trivial⟩))))
   ·obtain ⟨J13,Btn,h⟩:=Ags h
    refine Agt (τ:=Bool) (fun t=>[(3,pt b1),(4,pt b2),(5,pt b3),(8,iv Afm),(35,bv t)]) (fun t=>bk b3 #[iv Afm,iv Aje,iv Apt,iv Axj] 48 :: bk b2 #[sv Aan,iv Aar,iv Aao,slW A5m Aa5 A6a,slW Abu Aag Abx] 41 :: bk b1 #[slW Aas Aac Aau,slW Aer Aad Aew] 25 :: X) (fun t=>J13 t=some r) ?_ ?_
    ·rintro x12 h
     subst Btn
     refine kcn h (fun h=>?_) fun h=>?_
     ·refine bnd h fun q15 Bt9 h=>?_
      refine Ak3 [(6,bv q15)] (X) ?_ ?_
      ·clear Bt9
       refine Aem (Ahj (Afx ?_))
       obtain rfl:=Aam h
       exact kdn rfl
      ·have h:=Bt9
       clear Bt9
       refine Ab6 (kx 1 (kld 0 1 rfl (K.mv1 (K.drop (kx 2 ?_)))))
       refine kcs 41 h (fun h=>?_) fun h=>?_
       ·exact kx 1 (kld 0 1 rfl (K.drop (kx 1 (kld 0 1 rfl (K.drop (kx 4 (knt (Afa ⟨gb (Aam h),trivial⟩))))))))
       ·exact kx 8 (knt (K.drop (K.drop (Afa ⟨gb (Aam h),trivial⟩))))
     ·refine ksr (kx 2 (knt ?_))
      refine kcn h (fun h=>?_) fun h=>?_
      ·refine bnd h fun q18 Buc h=>?_
       refine Ak3 [(6,bv q18)] (X) ?_ ?_
       ·clear Buc
        refine Aem (Ahj (Afx ?_))
        obtain rfl:=Aam h
        exact kdn rfl
       ·have h:=Buc
        clear Buc
        refine Ab6 (kx 1 (kld 0 1 rfl (K.mv1 (K.drop (kx 2 ?_)))))
        refine kcs 54 h (fun h=>?_) fun h=>?_
        ·exact kx 1 (kld 0 1 rfl (K.drop (kx 1 (kld 0 0 rfl (K.drop (kx 4 (knt (Afa ⟨gb (Aam h),trivial⟩))))))))
        ·exact kx 8 (knt (K.drop (K.drop (Afa ⟨gb (Aam h),trivial⟩))))
      ·refine ksr (kx 2 (knt ?_))
       refine kcn h (fun h=>?_) fun h=>?_
       ·refine bnd h fun q21 Bue h=>?_
        refine Ak3 [(6,bv q21)] (X) ?_ ?_
        ·clear Bue
         refine Aem (Ahj (Afx ?_))
         obtain rfl:=Aam h
         exact kdn rfl
        ·have h:=Bue
         clear Bue
         refine Ab6 (kx 1 (kld 0 1 rfl (K.mv1 (K.drop (K.mv1 (K.drop (kx 2 ?_)))))))
         refine kcs 67 h (fun h=>?_) fun h=>?_
         ·exact kx 1 (kld 0 1 rfl (K.drop (kx 3 (knt (Afa ⟨gb (Aam h),trivial⟩)))))
         ·exact kx 5 (knt (K.drop (Afa ⟨gb (Aam h),trivial⟩)))
       ·obtain ⟨J24,Bfg,h⟩:=Ags h
        refine Agt (τ:=Bool) (fun t=>[(4,pt b2),(5,pt b3),(8,iv Afm),(72,bv t)]) (fun t=>bk b3 #[iv Afm,iv Aje,iv Apt,iv Axj] 48 :: bk b2 #[sv Aan,iv Aar,iv Aao,slW A5m Aa5 A6a,slW Abu Aag Abx] 41 :: X) (fun t=>J24 t=some r) ?_ ?_
        ·rintro x23 h
         subst Bfg
         refine kcn h (fun h=>?_) fun h=>?_
         ·refine bnd h fun q26 Bui h=>?_
          refine Ak3 [(6,bv q26)] (X) ?_ ?_
          ·clear Bui
           refine Aem (Ahj (Afx ?_))
           obtain rfl:=Aam h
           exact kdn rfl
          ·have h:=Bui
           clear Bui
           refine Ab6 (kx 1 (kld 0 1 rfl (kx 2 ?_)))
           refine kcs 78 h (fun h=>?_) fun h=>?_
           ·exact kx 1 (kld 0 1 rfl (K.drop (kx 1 (kld 0 2 rfl (K.drop (kx 4 (knt (Afa ⟨gb (Aam h),trivial⟩))))))))
           ·exact kx 8 (knt (K.drop (K.drop (Afa ⟨gb (Aam h),trivial⟩))))
         ·refine ksr (kx 2 (knt ?_))
          refine kcn h (fun h=>?_) fun h=>?_
          ·refine bnd h fun q29 A6v h=>?_
           refine Ak3 [(6,bv q29)] (X) ?_ ?_
           ·clear A6v
            refine Aem (Ahj (Afx ?_))
            obtain rfl:=Aam h
            exact kdn rfl
           ·have h:=A6v
            clear A6v
            refine Ab6 (kx 1 (kld 0 1 rfl (kx 2 ?_)))
            refine kcs 91 h (fun h=>?_) fun h=>?_
            ·exact kx 1 (kld 0 1 rfl (K.drop (kx 1 (kld 0 2 rfl (K.drop (kx 4 (knt (Afa ⟨gb (Aam h),trivial⟩))))))))
            ·exact kx 8 (knt (K.drop (K.drop (Afa ⟨gb (Aam h),trivial⟩))))
          ·refine ksr (kx 2 (knt ?_))
           refine kcn h (fun h=>?_) fun h=>?_
           ·refine bnd h fun q32 Buj h=>?_
            refine Ak3 [(6,bv q32)] (X) ?_ ?_
            ·clear Buj
             refine Aem (Ahj (Afx ?_))
             obtain rfl:=Aam h
             exact kdn rfl
            ·have h:=Buj
             clear Buj
             refine Ab6 (kx 1 (kld 0 1 rfl (kx 2 ?_)))
             refine kcs 104 h (fun h=>?_) fun h=>?_
             ·refine kx 1 (kld 0 3 rfl (kx 3 ?_))
              refine kcs 109 h (fun h=>?_) fun h=>?_
              ·refine kx 1 (kld 0 3 rfl (kx 1 (kld 1 2 rfl (kx 3 ?_))))
               refine kcs 116 h (fun h=>?_) fun h=>?_
               ·refine kx 1 (kld 0 1 rfl (kx 1 (kld 1 2 rfl (K.mv1 (K.drop (kx 2 (kld 0 3 rfl (K.drop (kx 4 (knt ?_))))))))))
                exact Afa ⟨gb (Aam h),trivial⟩
               ·exact kx 11 (knt (K.drop (K.drop (Afa ⟨gb (Aam h),trivial⟩))))
              ·exact kx 18 (knt (K.drop (K.drop (Afa ⟨gb (Aam h),trivial⟩))))
             ·exact kx 23 (knt (K.drop (K.drop (Afa ⟨gb (Aam h),trivial⟩))))
           ·refine Adl (Ade (Abi (bnd h fun q36 Bum h=>?_)))
            refine Ak3 [(6,bv q36)] (X) ?_ ?_
            ·clear Bum
             refine Aem ?_
             obtain rfl:=Aam h
             exact kdn rfl
            ·have h:=Bum
             clear Bum
             refine Ab6 (kx 1 (kld 0 0 rfl (K.mv1 (K.drop (kx 2 ?_)))))
             refine kcs 130 h (fun h=>?_) fun h=>?_
             ·exact kx 1 (kld 0 0 rfl (K.drop (kx 3 (knt (Afa ⟨gb (Aam h),trivial⟩)))))
             ·exact kx 5 (knt (K.drop (Afa ⟨gb (Aam h),trivial⟩)))
        ·skip
         refine ksr (kx 2 (knt ?_))
         refine kcn h (fun h=>?_) fun h=>?_
         ·exact Adl (Abi (K.mv2 (K.drop (Ac1 (Afm == 30) h sb rfl))))
         ·exact Ab6 (kx 2 (knt (K.mv2 (K.drop (Ac1 (Afm == 31) h sb rfl)))))
    ·skip
     refine ksr (kx 2 (knt ?_))
     refine kcn h (fun h=>?_) fun h=>?_
     ·exact Adl (Abi (Ac1 (Afm == 8) h sb rfl))
     ·exact Ab6 (kx 2 (knt (Ac1 (Afm == 9) h sb rfl)))
  ·skip
   refine ksr (kx 2 (knt ?_))
   refine kcn h (fun h=>?_) fun h=>?_
   ·exact Adl (Abi (Ac1 (Afm == 6) h sb rfl))
   ·exact Ab6 (kx 2 (knt (Ac1 (Afm == 7) h sb rfl)))
def A8n.f (k:Nat):Option (Bool):=(Aod.fS k (⟨#[119,104,105,108,101,32,120,32,100,111,32,98,114,101,97,107,32,101,110,100]⟩:ByteArray)).bind fun r1=>(cond (r1.2.2.1 != 0) (some true) (cond (((r1.1.length:Nat):Int) != 1) (some true) ((Ack r1.1 0).bind fun x54=>some (((x54.2.2.2.2.length:Nat):Int) != 9))):Option Bool).bind fun q12=>cond q12 (some (false)) ((Ack r1.1 0).bind fun x14=>((Ack x14.2.2.2.2 2).bind fun x30=>cond ((x30.1 == 19) && ((x30.2.1 == 7) && ((x30.2.2.1 == 0) && ((x30.2.2.2 == 0) && true)))) ((Ack x14.2.2.2.2 5).bind fun x35=>cond ((x35.1 == 18) && ((x35.2.1 == 7) && ((x35.2.2.1 == 0) && ((x35.2.2.2 == 0) && true)))) ((Ack x14.2.2.2.2 6).bind fun x40=>cond ((x40.1 == 18) && ((x40.2.1 == 1) && ((x40.2.2.1 == 0) && ((x40.2.2.2 == 0) && true)))) ((Ack x14.2.2.2.2 8).bind fun x45=>some (x45.1 == 25)) (some false)) (some false)) (some false):Option Bool).bind fun q29=>some (q29))
theorem A8n.ok {k:Nat} {G:Aaa} {r:Bool} (h:A8n.f k=some r) (hG:GlP G): Ct Tryz.prog 9 #[] [] [G] (fun e l1=>e=.returned (bv r)∧l1=[]):=by
 refine Afi (args:=[]) Tryz.func9 rfl (Ac0 rfl) ?_
 intro A X hh_
 obtain ⟨Ad1,_⟩:=hh_
 unfold A8n.f at h
 refine ksr (kx 1 (Abz (bnd h fun r1 hr1 h=>(kcl (Aod.okS hr1 hG) rfl ⟨Ad1,trivial⟩ ?_))))
 rintro _ _ ⟨h2,A3,k4,h6,A7,k8,o5,o9,rfl,rfl⟩
 refine Ach (kx 3 (knp #[nS,nS] 25 fun b10=>(knp #[iv 0,iv 0] 28 fun b11=>(K.mv1 (kst 0 2 #[slW A3 r1.1 k4,slW A7 r1.2.1 k8] (K.mv1 (kst 0 2 #[iv r1.2.2.1,iv r1.2.2.2] (knt (Acx (bnd h fun q12 hq12 h=>?_))))))))))
 refine Ak3 [(1,pt b10),(25,bv q12)] (bk b10 #[slW A3 r1.1 k4,slW A7 r1.2.1 k8] 25 :: h2 :: h6 :: X) ?_ ?_
 ·clear hq12
  refine kcn h (fun h=>?_) fun h=>?_
  ·refine ksr (kx 1 (knt (Aem (Afx ?_))))
   obtain rfl:=Aam h
   exact K.drop (K.drop (K.drop (kdn rfl)))
  ·refine Adl (Abi (ksr (kx 1 (kld 0 0 rfl (K.drop (K.mv1 (K.drop (bnd h fun x14 C1w h=>(Ail (T:=41) (kd:=.i64) (R:=Aht) rfl C1w (Abf.rd o5) fun p15 u18 q19 e16 y17=>?_)))))))))
   obtain ⟨A20,k21,A23,k24,rfl,o22,o25⟩:=B1c q19
   refine Api (off:=4) rfl e16 y17 fun p26 e27 y28=>?_
   have e27:Elem _ p26 [slW A23 x14.2.2.2.2 k24]:=e27
   refine Aqx rfl (by kernel_rfl) (by kernel_rfl) (by kernel_rfl) (by kernel_rfl) e27 (.head _) (kx 1 (knt (bnd h fun q29 A6v h=>?_)))
   refine Ak3 [(0,bv q29)] (X) ?_ ?_
   ·clear A6v
    refine Aem ?_
    obtain rfl:=Aam h
    exact kdn rfl
   ·have h:=A6v
    clear A6v
    refine Ab6 (kx 1 (bnd h fun x30 C2j h=>(Anq (T:=48) (kd:=.i64) Aj5 rfl C2j o25 fun p31 e32 y33=>?_)))
    have e32:Elem _ p31 [iv x30.1,iv x30.2.1,iv x30.2.2.1,iv x30.2.2.2]:=e32
    refine keN rfl e32 (.head _) (kx 1 (Bbp (r:=((x30.1 == 19) && ((x30.2.1 == 7) && ((x30.2.2.1 == 0) && ((x30.2.2.2 == 0) && true))))) (xs:=#[iv x30.1,iv x30.2.1,iv x30.2.2.1,iv x30.2.2.2]) (ys:=#[iv 19,iv 7,iv 0,iv 0]) false (by kernel_rfl) rfl (by kernel_rfl) (by kernel_rfl) (by kernel_rfl) (by kernel_rfl) (by kernel_rfl) (by kernel_rfl) (by kernel_rfl) (kx 1 ?_)))
    refine kcs 36 h (fun h=>?_) fun h=>?_
    ·refine kx 1 (bnd h fun x35 Bv6 h=>(Anq (T:=48) (kd:=.i64) Aj5 rfl Bv6 o25 fun p36 e37 y38=>?_))
     have e37:Elem _ p36 [iv x35.1,iv x35.2.1,iv x35.2.2.1,iv x35.2.2.2]:=e37
     refine keN rfl e37 (.head _) (kx 1 (Bbp (r:=((x35.1 == 18) && ((x35.2.1 == 7) && ((x35.2.2.1 == 0) && ((x35.2.2.2 == 0) && true))))) (xs:=#[iv x35.1,iv x35.2.1,iv x35.2.2.1,iv x35.2.2.2]) (ys:=#[iv 18,iv 7,iv 0,iv 0]) false (by kernel_rfl) rfl (by kernel_rfl) (by kernel_rfl) (by kernel_rfl) (by kernel_rfl) (by kernel_rfl) (by kernel_rfl) (by kernel_rfl) (kx 2 ?_)))
     refine kcs 43 h (fun h=>?_) fun h=>?_
     ·refine kx 1 (bnd h fun x40 C2l h=>(Anq (T:=48) (kd:=.i64) Aj5 rfl C2l o25 fun p41 e42 y43=>?_))
      have e42:Elem _ p41 [iv x40.1,iv x40.2.1,iv x40.2.2.1,iv x40.2.2.2]:=e42
      refine keN rfl e42 (.head _) (kx 1 (Bbp (r:=((x40.1 == 18) && ((x40.2.1 == 1) && ((x40.2.2.1 == 0) && ((x40.2.2.2 == 0) && true))))) (xs:=#[iv x40.1,iv x40.2.1,iv x40.2.2.1,iv x40.2.2.2]) (ys:=#[iv 18,iv 1,iv 0,iv 0]) false (by kernel_rfl) rfl (by kernel_rfl) (by kernel_rfl) (by kernel_rfl) (by kernel_rfl) (by kernel_rfl) (by kernel_rfl) (by kernel_rfl) (kx 2 ?_)))
      refine kcs 50 h (fun h=>?_) fun h=>?_
      ·refine kx 1 (bnd h fun x45 C2o h=>(Anq (T:=48) (kd:=.i64) Aj5 rfl C2o o25 fun p46 e47 y48=>?_))
       have e47:Elem _ p46 [iv x45.1,iv x45.2.1,iv x45.2.2.1,iv x45.2.2.2]:=e47
       refine Api (off:=0) rfl e47 y48 fun p49 e50 y51=>?_
       have e50:Elem _ p49 [iv x45.1,iv x45.2.1,iv x45.2.2.1,iv x45.2.2.2]:=e50
       exact Aqx rfl (by kernel_rfl) (by kernel_rfl) (by kernel_rfl) (by kernel_rfl) e50 (.head _) (K.drop (kx 3 (knt (Afa ⟨gb (Aam h),trivial⟩))))
      ·exact kx 7 (knt (K.drop (Afa ⟨gb (Aam h),trivial⟩)))
     ·exact kx 14 (knt (K.drop (Afa ⟨gb (Aam h),trivial⟩)))
    ·exact kx 21 (knt (K.drop (Afa ⟨gb (Aam h),trivial⟩)))
 ·have h:=hq12
  clear hq12
  refine Ab6 (kx 1 (kld 0 0 rfl (K.drop (kx 2 ?_))))
  refine kcs 11 h (fun h=>?_) fun h=>?_
  ·exact kx 14 (knt (Afa ⟨gr,gb (Aam h),trivial⟩))
  ·refine kx 1 (kld 0 0 rfl (kx 4 ?_))
   refine kcs 17 h (fun h=>?_) fun h=>?_
   ·exact kx 8 (knt (Afa ⟨gr,gb (Aam h),trivial⟩))
   ·refine kx 1 (kld 0 0 rfl (bnd h fun x54 C2w h=>(Ail (T:=41) (kd:=.i64) (R:=Aht) rfl C2w (Abf.rd o5) fun p55 u58 q59 e56 y57=>?_)))
    obtain ⟨A60,k61,A63,k64,rfl,o62,o65⟩:=B1c q59
    refine Api (off:=4) rfl e56 y57 fun p66 e67 y68=>?_
    have e67:Elem _ p66 [slW A63 x54.2.2.2.2 k64]:=e67
    exact Aqx rfl (by kernel_rfl) (by kernel_rfl) (by kernel_rfl) (by kernel_rfl) e67 (.tail _ (.head _)) (kx 3 (knt (Afa ⟨gr,gb (Aam h),trivial⟩)))
def Amj.l1:Nat→(r1:List (ByteArray×Int×Int×TyB×TyA)×TyC×Int×Int)→(x29:ByteArray×Int×Int×TyB×TyA)→(J44:(Unit→Option (Bool)))→(x62:Int)→Option (Bool)
 | 0,_,_,_,_=>none
 | m63+1,r1,x29,J44,x62=>cond (decide (x62 < ((x29.2.2.2.2.length:Nat):Int))) ((Ack x29.2.2.2.2 x62).bind fun x65=>(A4i.f m63 x65.1 x65.2.1 x65.2.2.1 x65.2.2.2).bind fun r69=>(cond r69.2 (cond (decide (r69.1 < 0)) (some true) (cond (decide (r69.1 ≥ ((x29.2.2.2.2.length:Nat):Int))) (some true) ((Ack x29.2.2.2.2 x62).bind fun x75=>(Azu.f m63 r1.1 r1.2.1 x29.1 x29.2.1 x29.2.2.1 x29.2.2.2.1 x29.2.2.2.2 x75.1 x75.2.1 x75.2.2.1 x75.2.2.2).bind fun r79=>some (!r79)))) ((Ack x29.2.2.2.2 x62).bind fun x80=>(Azu.f m63 r1.1 r1.2.1 x29.1 x29.2.1 x29.2.2.1 x29.2.2.2.1 x29.2.2.2.2 x80.1 x80.2.1 x80.2.2.1 x80.2.2.2).bind fun r84=>some (!r84)):Option Bool).bind fun q70=>cond q70 (some (false)) (Amj.l1 m63 r1 x29 J44 (IntKind.i64.wrap (x62+1)))) (J44 ())
def Amj.l0:Nat→(r1:List (ByteArray×Int×Int×TyB×TyA)×TyC×Int×Int)→(r12:TyF×TyC×Int×Int)→(J25:(Unit→Option (Bool)))→(x26:Int)→Option (Bool)
 | 0,_,_,_,_=>none
 | m27+1,r1,r12,J25,x26=>cond (decide (x26 < ((r1.1.length:Nat):Int))) ((Ack r1.1 x26).bind fun x29=>((Ack r12.1 x26).bind fun x85=>cond (!(x29.1.toList == x85.1.toList)) (some true) ((Ack r12.1 x26).bind fun x98=>cond (x29.2.1 != x98.2.2.1) (some true) ((Ack r12.1 x26).bind fun Bpu=>cond (x29.2.2.1 != Bpu.2.2.2.1) (some true) ((Ack r12.1 x26).bind fun B3k=>(Atb.f m27 x29.2.2.2.1 B3k.2.2.2.2).bind fun A4s=>cond (!A4s) (some true) (some (decide (((x29.2.2.2.2.length:Nat):Int) < 2)))))):Option Bool).bind fun q42=>cond q42 (some (false)) (Adj (fun (_:Unit)=>((Ack x29.2.2.2.2 (IntKind.i64.wrap (((x29.2.2.2.2.length:Nat):Int) - 2))).bind fun x47=>cond (x47.1 != 22) (some true) ((Ack x29.2.2.2.2 (IntKind.i64.wrap (((x29.2.2.2.2.length:Nat):Int) - 1))).bind fun x55=>some (x55.1 != 25)):Option Bool).bind fun q45=>cond q45 (some (false)) (Amj.l0 m27 r1 r12 J25 (IntKind.i64.wrap (x26+1)))) (fun J44=>Amj.l1 m27 r1 x29 J44 0))) (J25 ())
def Amj.f (k:Nat) (a0:ByteArray):Option (Bool):=(Aod.fS k a0).bind fun r1=>(A01.f k a0).bind fun r12=>((A8n.f k).bind fun Az1=>cond (!Az1) (some true) (cond (!((r1.2.2.1 == r12.2.2.1) && ((r1.2.2.2 == r12.2.2.2) && true))) (some true) (cond (((r1.1.length:Nat):Int) != ((r12.1.length:Nat):Int)) (some true) ((Ar1.f k r1.2.1 r12.2.1).bind fun Bos=>some (!Bos)))):Option Bool).bind fun q23=>cond q23 (some (false)) (Adj (fun (_:Unit)=>some (true)) (fun J25=>Amj.l0 k r1 r12 J25 0))
theorem Amj.ok {k:Nat} {a0:ByteArray} {G:Aaa} {r:Bool} (h:Amj.f k a0=some r) (hG:GlP G): Ct Tryz.prog 3 #[sv a0] [] [G] (fun e l1=>e=.returned (bv r)∧l1=[]):=by
 refine Afi (args:=[sv a0]) Tryz.func3 rfl (Ac0 rfl) ?_
 intro A X hh_
 obtain ⟨Ad1,_⟩:=hh_
 unfold Amj.f at h
 refine ksr (kx 1 (Abz (kx 1 (bnd h fun r1 hr1 h=>(kcl (Aod.okS hr1 hG) rfl ⟨Ad1,trivial⟩ ?_)))))
 rintro _ _ ⟨h2,A3,k4,h6,A7,k8,o5,o9,rfl,rfl⟩
 refine Ach (kx 3 (knp #[nS,nS] 25 fun b10=>(knp #[iv 0,iv 0] 28 fun b11=>(K.mv1 (kst 0 2 #[slW A3 r1.1 k4,slW A7 r1.2.1 k8] (K.mv1 (kst 0 2 #[iv r1.2.2.1,iv r1.2.2.2] (Abz (kx 1 (bnd h fun r12 Bfs h=>?_))))))))))
 refine kcl (A01.ok Bfs hG) rfl ⟨(t4 Ad1),trivial⟩ ?_
 rintro _ _ ⟨h13,A14,k15,h17,A18,k19,o16,o20,rfl,rfl⟩
 refine Ach (kx 3 (knp #[nS,nS] 33 fun b21=>(knp #[iv 0,iv 0] 28 fun b22=>(K.mv1 (kst 0 2 #[slW A14 r12.1 k15,slW A18 r12.2.1 k19] (K.mv1 (kst 0 2 #[iv r12.2.2.1,iv r12.2.2.2] (knt (Acx (bnd h fun q23 Buh h=>?_))))))))))
 refine Ak3 [(3,pt b10),(5,pt b21),(45,bv q23)] (bk b21 #[slW A14 r12.1 k15,slW A18 r12.2.1 k19] 33 :: h13 :: h17 :: bk b10 #[slW A3 r1.1 k4,slW A7 r1.2.1 k8] 25 :: h2 :: h6 :: X) ?_ ?_
 ·clear Buh
  refine kcn h (fun h=>?_) fun h=>?_
  ·refine ksr (kx 1 (knt (Aem (Afx ?_))))
   obtain rfl:=Aam h
   exact K.drop (K.drop (K.drop (K.drop (K.drop (K.drop (kdn rfl))))))
  ·refine Adl (Abi ?_)
   obtain ⟨J25,Cve,h⟩:=Ags h
   refine Agt (τ:=Unit) (fun t=>[]) (fun t=>X) (fun t=>J25 ()=some r) ?_ ?_
   ·rintro ⟨⟩ h
    subst Cve
    refine ksr (kx 1 (knt (Aem ?_)))
    obtain rfl:=Aam h
    exact kdn rfl
   ·skip
    refine ksr (kx 1 (knt (Aez (Akb (τ:=Int) (fun t=>[(3,pt b10),(5,pt b21),(7,iv t)]) (fun t=>bk b21 #[slW A14 r12.1 k15,slW A18 r12.2.1 k19] 33 :: h13 :: h17 :: bk b10 #[slW A3 r1.1 k4,slW A7 r1.2.1 k8] 25 :: h2 :: h6 :: X) (fun m t=>Amj.l0 m r1 r12 J25 t=some r) k 0 h sb rfl ?_))))
    clear h
    rintro m27 x26 h
    cases m27 with
    | zero=>simp [Amj.l0] at h
    | succ m27 =>
     simp only [Amj.l0] at h
     refine Acx (ksr (kx 2 (kld 3 0 rfl (kx 2 (knt ?_)))))
     refine kcn h (fun h=>?_) fun h=>?_
     ·refine Adl (Abi (Acx (Aez (ksr (kx 1 (kld 3 0 rfl (kx 1 (bnd h fun x29 hx29 h=>(Ail (T:=41) (kd:=.i64) (R:=Aht) rfl hx29 (Abf.rd o5) fun p30 u33 q34 e31 y32=>?_)))))))))
      obtain ⟨A35,k36,A38,k39,rfl,o37,o40⟩:=B1c q34
      refine keN rfl e31 (.tail _ (.tail _ (.tail _ (.tail _ (.head _))))) (knp #[sv noS,iv 0,iv 0,nS,nS] 41 fun b41=>(kst 0 5 #[sv x29.1,iv x29.2.1,iv x29.2.2.1,slW A35 x29.2.2.2.1 k36,slW A38 x29.2.2.2.2 k39] (knt (Acx (bnd h fun q42 A6w h=>?_)))))
      refine Ak3 [(3,pt b10),(5,pt b21),(7,iv x26),(8,pt b41),(106,bv q42)] (bk b41 #[sv x29.1,iv x29.2.1,iv x29.2.2.1,slW A35 x29.2.2.2.1 k36,slW A38 x29.2.2.2.2 k39] 41 :: bk b21 #[slW A14 r12.1 k15,slW A18 r12.2.1 k19] 33 :: h13 :: h17 :: bk b10 #[slW A3 r1.1 k4,slW A7 r1.2.1 k8] 25 :: h2 :: h6 :: X) ?_ ?_
      ·clear A6w
       refine kcn h (fun h=>?_) fun h=>?_
       ·refine ksr (kx 1 (knt (Aem (Afx (Ahj (Afx (Afx (Ahj (Afx ?_)))))))))
        obtain rfl:=Aam h
        exact K.drop (K.drop (K.drop (K.drop (K.drop (K.drop (K.drop (kdn rfl)))))))
       ·refine Adl (Abi ?_)
        obtain ⟨J44,Cvo,h⟩:=Ags h
        refine Agt (τ:=Unit) (fun t=>[(3,pt b10),(5,pt b21),(7,iv x26),(8,pt b41)]) (fun t=>bk b41 #[sv x29.1,iv x29.2.1,iv x29.2.2.1,slW A35 x29.2.2.2.1 k36,slW A38 x29.2.2.2.2 k39] 41 :: bk b21 #[slW A14 r12.1 k15,slW A18 r12.2.1 k19] 33 :: h13 :: h17 :: bk b10 #[slW A3 r1.1 k4,slW A7 r1.2.1 k8] 25 :: h2 :: h6 :: X) (fun t=>J44 ()=some r) ?_ ?_
        ·rintro ⟨⟩ h
         subst Cvo
         refine bnd h fun q45 A6x h=>?_
         refine Ak3 [(3,pt b10),(5,pt b21),(7,iv x26),(167,bv q45)] (bk b21 #[slW A14 r12.1 k15,slW A18 r12.2.1 k19] 33 :: h13 :: h17 :: bk b10 #[slW A3 r1.1 k4,slW A7 r1.2.1 k8] 25 :: h2 :: h6 :: X) ?_ ?_
         ·clear A6x
          refine kcn h (fun h=>?_) fun h=>?_
          ·refine ksr (kx 1 (knt (Aem (Ahj (Afx (Afx (Ahj (Afx ?_))))))))
           obtain rfl:=Aam h
           exact K.drop (K.drop (K.drop (K.drop (K.drop (K.drop (kdn rfl))))))
          ·exact Adl (Ade (Abi (Ab6 (kx 3 (knt (Ai4 m27 (IntKind.i64.wrap (x26+1)) (Nat.lt_succ_self _) h sb rfl))))))
         ·have h:=A6x
          clear A6x
          refine Ab6 (kx 1 (kld 0 4 rfl (kx 1 (kld 0 4 rfl (kx 2 (bnd h fun x47 C2s h=>(Anq (T:=48) (kd:=.i64) Aj5 rfl C2s o40 fun p48 e49 y50=>?_)))))))
          have e49:Elem _ p48 [iv x47.1,iv x47.2.1,iv x47.2.2.1,iv x47.2.2.2]:=e49
          refine Api (off:=0) rfl e49 y50 fun p51 e52 y53=>?_
          have e52:Elem _ p51 [iv x47.1,iv x47.2.1,iv x47.2.2.1,iv x47.2.2.2]:=e52
          refine Aqx rfl (by kernel_rfl) (by kernel_rfl) (by kernel_rfl) (by kernel_rfl) e52 (.tail _ (.tail _ (.tail _ (.tail _ (.tail _ (.head _)))))) (kx 2 ?_)
          refine kcs 156 h (fun h=>?_) fun h=>?_
          ·exact kx 11 (knt (K.drop (Afa ⟨gr,gr,gr,gb (Aam h),trivial⟩)))
          ·refine kx 1 (kld 0 4 rfl (kx 1 (kld 0 4 rfl (K.drop (kx 2 (bnd h fun x55 C2x h=>(Anq (T:=48) (kd:=.i64) Aj5 rfl C2x o40 fun p56 e57 y58=>?_)))))))
           have e57:Elem _ p56 [iv x55.1,iv x55.2.1,iv x55.2.2.1,iv x55.2.2.2]:=e57
           refine Api (off:=0) rfl e57 y58 fun p59 e60 y61=>?_
           have e60:Elem _ p59 [iv x55.1,iv x55.2.1,iv x55.2.2.1,iv x55.2.2.2]:=e60
           exact Aqx rfl (by kernel_rfl) (by kernel_rfl) (by kernel_rfl) (by kernel_rfl) e60 (.tail _ (.tail _ (.tail _ (.tail _ (.head _))))) (kx 2 (knt (Afa ⟨gr,gr,gr,gb (Aam h),trivial⟩)))
        ·skip
         refine ksr (kx 1 (knt (Aez (Akb (τ:=Int) (fun t=>[(3,pt b10),(5,pt b21),(7,iv x26),(8,pt b41),(9,iv t)]) (fun t=>bk b41 #[sv x29.1,iv x29.2.1,iv x29.2.2.1,slW A35 x29.2.2.2.1 k36,slW A38 x29.2.2.2.2 k39] 41 :: bk b21 #[slW A14 r12.1 k15,slW A18 r12.2.1 k19] 33 :: h13 :: h17 :: bk b10 #[slW A3 r1.1 k4,slW A7 r1.2.1 k8] 25 :: h2 :: h6 :: X) (fun m t=>Amj.l1 m r1 x29 J44 t=some r) m27 0 h sb rfl ?_))))
         clear h
         rintro m63 x62 h
         cases m63 with
         | zero=>simp [Amj.l1] at h
         | succ m63 =>
          simp only [Amj.l1] at h
          refine Acx (ksr (kx 2 (kld 0 4 rfl (kx 2 (knt ?_)))))
          refine kcn h (fun h=>?_) fun h=>?_
          ·refine Adl (Abi (Acx (Aez (ksr (kx 1 (kld 0 4 rfl (kx 1 (bnd h fun x65 Bv9 h=>(Anq (T:=48) (kd:=.i64) Aj5 rfl Bv9 o40 fun p66 e67 y68=>?_)))))))))
           have e67:Elem _ p66 [iv x65.1,iv x65.2.1,iv x65.2.2.1,iv x65.2.2.2]:=e67
           refine keN rfl e67 (.tail _ (.tail _ (.tail _ (.tail _ (.tail _ (.head _)))))) (bnd h fun r69 hr69 h=>(kcv (A4i.ok hr69) trivial (kx 5 (knt (bnd h fun q70 Bup h=>?_)))))
           refine Ak3 [(3,pt b10),(5,pt b21),(7,iv x26),(8,pt b41),(9,iv x62),(145,bv q70)] (bk b41 #[sv x29.1,iv x29.2.1,iv x29.2.2.1,slW A35 x29.2.2.2.1 k36,slW A38 x29.2.2.2.2 k39] 41 :: bk b21 #[slW A14 r12.1 k15,slW A18 r12.2.1 k19] 33 :: h13 :: h17 :: bk b10 #[slW A3 r1.1 k4,slW A7 r1.2.1 k8] 25 :: h2 :: h6 :: X) ?_ ?_
           ·clear Bup
            refine kcn h (fun h=>?_) fun h=>?_
            ·refine ksr (kx 1 (knt (Aem (Ahj (Afx (Afx (Ahj (Afx (Ahj (Afx ?_))))))))))
             refine Afx (Ahj (Afx ?_))
             obtain rfl:=Aam h
             exact K.drop (K.drop (K.drop (K.drop (K.drop (K.drop (K.drop (kdn rfl)))))))
            ·exact Adl (Ade (Abi (Ab6 (kx 3 (knt (Ai4 m63 (IntKind.i64.wrap (x62+1)) (Nat.lt_succ_self _) h sb rfl))))))
           ·have h:=Bup
            clear Bup
            refine kpr [(0,0),(1,0),(2,0),(3,0),(4,0),(5,0),(6,0),(7,3),(8,0),(9,0),(10,0),(11,0),(12,0),(13,3),(14,3),(15,0),(16,3),(17,0),(18,0),(19,3)] [0,4,5] (kpx 2 ?_)
            refine kcs 124 h (fun h=>?_) fun h=>?_
            ·refine kpx 3 ?_
             refine kcs 127 h (fun h=>?_) fun h=>?_
             ·refine kpx 2 (Ajq (by kernel_rfl) (by kernel_rfl) (kpx 5 (Ajq (by kernel_rfl) (by kernel_rfl) (Ajq (by kernel_rfl) (by kernel_rfl) (kpx 1 (Ajq (by kernel_rfl) (by kernel_rfl) (kpx 2 (Ajq (by kernel_rfl) (by kernel_rfl) (kpz (kx 3 ?_))))))))))
              exact knt (Afa ⟨gr,gr,gr,gr,gr,gb (Aam h),trivial⟩)
             ·refine kpx 2 (kpd 0 4 rfl (kpx 5 ?_))
              refine kcs 135 h (fun h=>?_) fun h=>?_
              ·exact Ajq (by kernel_rfl) (by kernel_rfl) (Ajq (by kernel_rfl) (by kernel_rfl) (kpx 1 (Ajq (by kernel_rfl) (by kernel_rfl) (kpx 2 (Ajq (by kernel_rfl) (by kernel_rfl) (kpz (kx 3 (knt (Afa ⟨gr,gr,gr,gr,gr,gb (Aam h),trivial⟩)))))))))
              ·refine kpa 1 0 2 rfl (kpa 0 0 5 rfl (kpx 1 (kpd 0 4 rfl (kpx 1 (bnd h fun x75 Bwc h=>(A4h (T:=48) (kd:=.i64) Aj5 rfl Bwc o40 fun p76 e77 y78=>?_))))))
               have e77:Elem _ p76 [iv x75.1,iv x75.2.1,iv x75.2.2.1,iv x75.2.2.2]:=e77
               exact Aqy rfl e77 (fun w h_=>h_.mem _ (.tail _ (.tail _ (.head _)))) (kpz (bnd h fun r79 C0i h=>(kcv (Azu.ok C0i (Abf.rd o5) (Aaf.rd o9) o37 o40) ⟨(.tail _ (.tail _ (.tail _ (.tail _ (.tail _ (.head _)))))),(.tail _ (.tail _ (.tail _ (.tail _ (.tail _ (.tail _ (.head _))))))),(.tail _ (.tail _ (.tail _ (.tail _ (.tail _ (.head _)))))),(.tail _ (.tail _ (.tail _ (.tail _ (.tail _ (.head _)))))),trivial⟩ (kx 2 (knt (Afa ⟨gr,gr,gr,gr,gr,gb (Aam h),trivial⟩))))))
            ·refine kpx 5 (Ajq (by kernel_rfl) (by kernel_rfl) (kpx 5 (kpa 1 0 2 rfl (kpa 0 0 5 rfl (kpx 1 (kpd 0 4 rfl (kpx 1 (bnd h fun x80 Bwd h=>(A4h (T:=48) (kd:=.i64) Aj5 rfl Bwd o40 fun p81 e82 y83=>?_)))))))))
             have e82:Elem _ p81 [iv x80.1,iv x80.2.1,iv x80.2.2.1,iv x80.2.2.2]:=e82
             exact Aqy rfl e82 (fun w h_=>h_.mem _ (.tail _ (.tail _ (.head _)))) (kpz (bnd h fun r84 Bf6 h=>(kcv (Azu.ok Bf6 (Abf.rd o5) (Aaf.rd o9) o37 o40) ⟨(.tail _ (.tail _ (.tail _ (.tail _ (.tail _ (.head _)))))),(.tail _ (.tail _ (.tail _ (.tail _ (.tail _ (.tail _ (.head _))))))),(.tail _ (.tail _ (.tail _ (.tail _ (.tail _ (.head _)))))),(.tail _ (.tail _ (.tail _ (.tail _ (.tail _ (.head _)))))),trivial⟩ (kx 2 (knt (Afa ⟨gr,gr,gr,gr,gr,gb (Aam h),trivial⟩))))))
          ·exact Aj9 (Agh (Agh (Aka (Abi (Ac1 () h sb rfl)))))
      ·have h:=A6w
       clear A6w
       refine kpr [(0,0),(1,3),(2,0),(3,3),(4,0),(5,0),(6,0),(7,3),(8,0),(9,0),(10,0),(11,3),(12,0),(13,3),(14,0),(15,0),(16,0),(17,3),(18,0),(19,0),(20,0),(21,0),(22,3),(23,0),(24,3),(25,0),(26,0),(27,0),(28,3),(29,0),(30,0),(31,0),(32,0),(33,3),(34,0),(35,3),(36,0),(37,0),(38,0),(39,3)] [0,1,2] (kpx 1 (kpd 0 0 rfl (kpx 1 (kpd 1 0 rfl (kpx 1 (bnd h fun x85 C21 h=>(Ap9 (T:=43) (kd:=.i64) (R:=Ak8) rfl C21 (Abf.rd o16) fun p86 u89 q90 e87 y88=>?_)))))))
       obtain ⟨A91,k92,rfl,o93⟩:=Bii q90
       refine Bbq (off:=0) rfl e87 y88 fun p94 e95 y96=>?_
       have e95:Elem _ p94 [sv x85.1,iv x85.2.1,iv x85.2.2.1,iv x85.2.2.2.1,slW A91 x85.2.2.2.2 k92]:=e95
       refine A2j rfl (by kernel_rfl) (by kernel_rfl) (by kernel_rfl) (by kernel_rfl) e95 (fun w h_=>h_.mem _ (.tail _ (.tail _ (.head _)))) (kpx 2 ?_)
       refine kcs 67 h (fun h=>?_) fun h=>?_
       ·refine kpx 1 (Ajq (by kernel_rfl) (by kernel_rfl) (kpx 1 (Ajq (by kernel_rfl) (by kernel_rfl) (kpx 3 (Ajq (by kernel_rfl) (by kernel_rfl) (kpx 4 (Ajq (by kernel_rfl) (by kernel_rfl) (kpx 1 (Ajq (by kernel_rfl) (by kernel_rfl) (kpx 3 ?_))))))))))
        exact Ajq (by kernel_rfl) (by kernel_rfl) (kpx 4 (Ajq (by kernel_rfl) (by kernel_rfl) (kpx 1 (Ajq (by kernel_rfl) (by kernel_rfl) (kpx 3 (Ajq (by kernel_rfl) (by kernel_rfl) (kpz (kx 9 (knt (Afa ⟨gr,gr,gr,gr,gb (Aam h),trivial⟩))))))))))
       ·refine kpx 1 (kpd 0 1 rfl (kpx 1 (kpd 1 0 rfl (kpx 1 (bnd h fun x98 hx98 h=>(Ap9 (T:=43) (kd:=.i64) (R:=Ak8) rfl hx98 (Abf.rd o16) fun p99 Dmq Dcb Crk y101=>?_))))))
        obtain ⟨Bkc,Bme,rfl,Cho⟩:=Bii Dcb
        refine Bbq (off:=2) rfl Crk y101 fun Da8 e108 Dnk=>?_
        have e108:Elem _ Da8 [iv x98.2.2.1,iv x98.2.2.2.1,slW Bkc x98.2.2.2.2 Bme]:=e108
        refine A2j rfl (by kernel_rfl) (by kernel_rfl) (by kernel_rfl) (by kernel_rfl) e108 (fun w h_=>h_.mem _ (.tail _ (.tail _ (.head _)))) (kpx 3 ?_)
        refine kcs 78 h (fun h=>?_) fun h=>?_
        ·refine kpx 1 (Ajq (by kernel_rfl) (by kernel_rfl) (kpx 1 (Ajq (by kernel_rfl) (by kernel_rfl) (kpx 3 (Ajq (by kernel_rfl) (by kernel_rfl) (kpx 4 (Ajq (by kernel_rfl) (by kernel_rfl) (kpx 1 (Ajq (by kernel_rfl) (by kernel_rfl) (kpx 3 ?_))))))))))
         exact Ajq (by kernel_rfl) (by kernel_rfl) (kpz (kx 9 (knt (Afa ⟨gr,gr,gr,gr,gb (Aam h),trivial⟩))))
        ·refine kpx 1 (kpd 0 2 rfl (kpx 1 (kpd 1 0 rfl (kpx 1 (bnd h fun Bpu C1n h=>(Ap9 (T:=43) (kd:=.i64) (R:=Ak8) rfl C1n (Abf.rd o16) fun Dl4 Dmw Dcg Crp y114=>?_))))))
         obtain ⟨Cm2,C3r,rfl,Dlv⟩:=Bii Dcg
         refine Bbq (off:=3) rfl Crp y114 fun Dbb Br3 Dnp=>?_
         have Br3:Elem _ Dbb [iv Bpu.2.2.2.1,slW Cm2 Bpu.2.2.2.2 C3r]:=Br3
         refine A2j rfl (by kernel_rfl) (by kernel_rfl) (by kernel_rfl) (by kernel_rfl) Br3 (fun w h_=>h_.mem _ (.tail _ (.tail _ (.head _)))) (kpx 3 ?_)
         refine kcs 89 h (fun h=>?_) fun h=>?_
         ·exact kpx 1 (Ajq (by kernel_rfl) (by kernel_rfl) (kpx 1 (Ajq (by kernel_rfl) (by kernel_rfl) (kpx 3 (Ajq (by kernel_rfl) (by kernel_rfl) (kpz (kx 9 (knt (Afa ⟨gr,gr,gr,gr,gb (Aam h),trivial⟩)))))))))
         ·refine kpx 1 (kpd 0 3 rfl (kpx 1 (kpd 1 0 rfl (kpx 1 (bnd h fun B3k C1s h=>(Ap9 (T:=43) (kd:=.i64) (R:=Ak8) rfl C1s (Abf.rd o16) fun Dl8 Dmz Dck e126 Dgj=>?_))))))
          obtain ⟨Bp6,Bwt,rfl,Byw⟩:=Bii Dck
          refine Bbq (off:=4) rfl e126 Dgj fun Dbd Br4 Dnr=>?_
          have Br4:Elem _ Dbd [slW Bp6 B3k.2.2.2.2 Bwt]:=Br4
          refine A2j rfl (by kernel_rfl) (by kernel_rfl) (by kernel_rfl) (by kernel_rfl) Br4 (fun w h_=>h_.mem _ (.tail _ (.tail _ (.head _)))) (kpz (bnd h fun A4s Buy h=>(kcv (Atb.ok Buy o37 Byw) ⟨(.tail _ (.tail _ (.tail _ (.tail _ (.tail _ (.head _)))))),(.tail _ (.tail _ (.head _))),trivial⟩ (kx 3 ?_))))
          refine kcs 101 h (fun h=>?_) fun h=>?_
          ·exact kx 5 (knt (Afa ⟨gr,gr,gr,gr,gb (Aam h),trivial⟩))
          ·exact kx 1 (kld 0 4 rfl (kx 3 (knt (Afa ⟨gr,gr,gr,gr,gb (Aam h),trivial⟩))))
     ·refine Aj9 (Agh (Agh (Aka (Abi (K.drop (K.drop (K.drop (K.drop (K.drop (K.drop ?_))))))))))
      exact Ac1 () h trivial rfl
 ·have h:=Buh
  clear Buh
  refine Ab6 (bnd h fun Az1 Bu0 h=>(kcv (A8n.ok Bu0 hG) ⟨(t8 Ad1),trivial⟩ (kx 2 ?_)))
  refine kcs 24 h (fun h=>?_) fun h=>?_
  ·exact kx 21 (knt (K.drop (K.mv3 (K.drop (Afa ⟨gr,gr,gb (Aam h),trivial⟩)))))
  ·refine kla 4 0 2 rfl (K.mv4 (K.drop (kla 0 0 2 rfl (K.drop (Bbp (r:=((r1.2.2.1 == r12.2.2.1) && ((r1.2.2.2 == r12.2.2.2) && true))) (xs:=#[iv r1.2.2.1,iv r1.2.2.2]) (ys:=#[iv r12.2.2.1,iv r12.2.2.2]) true (by kernel_rfl) rfl (by kernel_rfl) (by kernel_rfl) (by kernel_rfl) (by kernel_rfl) (by kernel_rfl) (by kernel_rfl) (by kernel_rfl) (kx 2 ?_))))))
   refine kcs 29 h (fun h=>?_) fun h=>?_
   ·exact kx 16 (knt (Afa ⟨gr,gr,gb (Aam h),trivial⟩))
   ·refine kx 1 (kld 3 0 rfl (kx 2 (kld 0 0 rfl (kx 4 ?_))))
    refine kcs 38 h (fun h=>?_) fun h=>?_
    ·exact kx 7 (knt (Afa ⟨gr,gr,gb (Aam h),trivial⟩))
    ·exact kx 1 (kld 3 1 rfl (kx 1 (kld 0 1 rfl (bnd h fun Bos Cyr h=>(kcv (Ar1.ok Cyr (Aaf.rd o9) (Aaf.rd o20)) ⟨(.tail _ (.tail _ (.tail _ (.tail _ (.tail _ (.head _)))))),(.tail _ (.tail _ (.head _))),trivial⟩ (kx 2 (knt (Afa ⟨gr,gr,gb (Aam h),trivial⟩))))))))
end
section
open Go Go.RowKit Lx
theorem Cti (k:Nat) (hk:950000≤k):A8n.f k=some true:=by
 unfold A8n.f
 rw [gen_eq k hk]
 kernel_rfl
def Cn7 (nU:Nat) (gl:List ByteArray) (u:Agk):Prop:=u.2.2.2.1.length≤400000∧u.2.2.1≤60∧∃ c:Cd,u.2.2.2.2=c++[i0 22]++[i0 25]∧c.length≤450000∧∀ z ∈ c,okI ⟨nU,gl.length,u.2.2.2.1.length,u.2.2.1⟩ c.length z
def Bed (nU:Nat) (gl:List ByteArray):List Arj→List Agk→Prop
 | [],[]=>True
 | r :: rs,u :: us=>(u.1=r.1∧u.2.1=r.2.2.1∧u.2.2.1=r.2.2.2.1∧u.2.2.2.1=r.2.2.2.2∧Cn7 nU gl u)∧Bed nU gl rs us
 | _,_=>False
theorem Bsv (x:Tree) (l:List Tree):Ba4 (x :: l)=(if x.kind=31 then 1 else 0)+Ba4 l:=by
 unfold Ba4
 by_cases h:x.kind=31
 ·rw [List.filter_cons,if_pos (by simpa using h),if_pos h,Aa4];omega
 ·rw [List.filter_cons,if_neg (by simpa using h),if_neg h];omega
theorem B2j {E:Qty} {gl:TyC} {cs:List V3} {src:ByteArray} {d2:Nat}:∀ (l:List Tree) (d' nx:Nat) (s s':CSt),(∀ x ∈ l,IsS x∨Au6 x)→(∀ x ∈ l,Bpi x)→Agg (fun s x=>Adm d' [] s x false) s l=.ok s'→Up E gl cs s.lo s s'→s.lp=0→szs l≤d2→d2≤85000→pot s+4 * szs l+100≤400000→1≤nx→nx+Ba4 l≤E.nU →
  Mo s s'∧∃ fs2,s'.fs=s.fs++fs2∧fs2.length=Ba4 l∧(∀ p q,p+(Amv ⟨cs,gl,src⟩ d2 s.lo p nx l).length≤q→∀ z,some z ∈ Amv ⟨cs,gl,src⟩ d2 s.lo p nx l→okI E q z)∧Bed E.nU gl fs2 (Atv gl src d2 l (fs2.map A0e))
 | [],d',nx,s,s',_,_,h,_,_,_,_,_,_,_=>by cases h;exact ⟨Mo.refl _,[],by simp,rfl,fun _ _ _ _ h=>(nomatch h),trivial⟩
 | x :: l,d',nx,s,s',hI,hT,h,hU,h0,hd,hd9,hpt,hnx,hn=>by
  unfold Agg at h
  obtain ⟨s1,h1,h⟩:=Acf h
  simp only [szs] at hd hpt
  rw [Bsv] at hn
  have hIl:∀ y ∈ l,IsS y∨Au6 y:=fun y hy=>hI y (Ahb _ hy)
  have hTl:∀ y ∈ l,Bpi y:=fun y hy=>hT y (Ahb _ hy)
  have hgx:gw x:=(hT x (Af5 ..)).elim Azc B9a
  have hp:=Aml hgx h1
  have hpp:=hp.pot
  rcases hI x (Af5 ..) with hx | hx
  ·have h31:=Bwl hx
   have hw:wfT x:=(hT x (Af5 ..)).elim id fun h=>absurd (by cases x;exact h.2.1) h31
   have m1:=Akc hw h1
   rw [if_neg h31] at hn
   obtain ⟨m2,fs2,e1,e2,k1,k2⟩:=B2j l d' nx s1 s' hIl hTl h (hU.mk' m1 (Mo.refl s')) (by rw [hp.lp];exact h0) (by omega) hd9 (by omega) hnx (by omega)
   refine ⟨m1.trans m2,fs2,by rw [e1,A4l hw h1],by rw [Bsv,if_neg h31];omega,fun p q hq z hz=>?_,by simp only [Atv,if_neg h31];exact k2⟩
   obtain ⟨e3,k3⟩:=B1x (src:=src) d2 x hx hw (by omega) d' [] s s1 h1 (hU.fst m2) (p+1)
   simp only [Amv,if_neg h31] at hq hz
   rw [e3] at hq hz
   simp only [Aa4,Abj] at hq
   rcases List.mem_cons.1 hz with hz | hz
   ·cases hz;exact Alc rfl
   rcases Agb.1 hz with hz | hz
   ·exact k3 q (by omega) z hz
   ·exact k1 _ q (by omega) z hz
  ·have hfn:fnT x:=(hT x (Af5 ..)).elim (fun h=>by obtain ⟨_,_,_,_,rfl,_⟩:=A7z hx;exact absurd rfl h.1.2.1) id
   obtain ⟨a,t,m,b,rfl,hb⟩:=A7z hx
   obtain ⟨_,_,_,hws⟩:=hfn
   have hwb:wfT b:=by rw [Ajz] at hws;exact hws b (by simp)
   have hk:Adu (m++[b]) m.length=b:=by simp [Adu]
   rw [show (Tree.mk 31 t (m.length:Nat) a (m++[b])).kind=31 from rfl,if_pos rfl] at hn
   cases d' with
   | zero=>unfold Adm at h1;cases h1
   | succ d' =>
    unfold Adm at h1
    rw [if_neg (by decide),if_pos rfl] at h1
    obtain ⟨_,_,h1⟩:=Acf h1
    split at h1
    ·cases h1
    obtain ⟨_,_,h1⟩:=Acf h1
    obtain ⟨r,hr,h1⟩:=Acf h1
    obtain ⟨sb,h2,h1⟩:=Acf h1
    rw [Int.toNat_natCast] at h2 hr
    rw [hk] at h2
    rw [List.take_left] at hr
    cases h1
    have hbr:=Azi hr
    have mb:=Akc hwb h2
    have pb:=(Aml (Azc hwb) h2).pot
    have hgl:=Bek s.gl t
    have hfs:=A4l hwb h2
    simp only [sz,szs,Ah6] at hpt hd hpp
    have m1:Mo s { s with fs:=sb.fs++[(t,a,(m.length:Int),sb.sl,sb.cs)],gl:=sb.gl }:=⟨(B53 _ _).trans mb.gl,List.prefix_refl _,Int.le_refl _,id,id⟩
    obtain ⟨m2,fs2,e1,e2,k1,k2⟩:=B2j l (d'+1) (nx+1) _ s' hIl hTl h (hU.mk' m1 (Mo.refl s')) h0 (by omega) hd9 (by simp only [pot] at hpp hpt ⊢;omega) (by omega) (by omega)
    have hU1:=hU.fst m2
    have Cbc:sb.gl <+: gl:=hU1.gl
    have htF:Aox gl t=true:=Bty (B51 s.gl t) (mb.gl.trans Cbc)
    refine ⟨m1.trans m2,(t,a,(m.length:Int),sb.sl,sb.cs) :: fs2,by rw [e1,hfs];simp,by rw [Bsv,show (Tree.mk 31 t (m.length:Nat) a (m++[b])).kind=31 from rfl,if_pos rfl,Aa4];omega,fun p q hq z hz=>?_,?_⟩
    ·simp only [Amv,Bbo,if_true,Aa4] at hq hz
     rcases List.mem_cons.1 hz with hz | hz
     ·cases hz;exact Alc rfl
     rcases List.mem_cons.1 hz with hz | hz
     ·cases hz;exact Dax (by omega)
     rcases List.mem_cons.1 hz with hz | hz
     ·cases hz;exact Bzt (.inr rfl) (by rw [hU.eg];exact Bwp htF)
     ·exact k1 (p+3) q (by show p+3+(Amv ⟨cs,gl,src⟩ d2 s.lo (p+3) (nx+1) l).length≤q;omega) z hz
    ·simp only [Atv,Bbo,if_true,List.map_cons]
     refine ⟨⟨rfl,rfl,rfl,rfl,?_,mb.hi (by show r.1≤60;omega),?_⟩,k2⟩
     ·show sb.cs.length≤400000
      simp only [pot,Acg] at pb hpt
      omega
     ·have hlo:r.2=m.map (·.text):=by rw [hbr.1,List.nil_append]
      have eb:A0v gl src d2 sb.cs (.mk 31 t (m.length:Nat) a (m++[b]))=Agc ⟨sb.cs,gl,src⟩ d2 r.2 0 b:=by
       show Agc ⟨sb.cs,gl,src⟩ d2 (((m++[b]).take ((m.length:Nat):Int).toNat).map (·.text)) 0 (Adu (m++[b]) ((m.length:Nat):Int).toNat)=_
       rw [Int.toNat_natCast,List.take_left,hk,hlo]
      obtain ⟨hbk,hbs,_⟩:=Bgg hb
      have hB:Bei ⟨E.nU,gl.length,sb.cs.length,sb.sl⟩ gl sb.cs src d2 b:=B6p hb hwb fun y hy=>B1x d2 y (hbk y hy) (Ajz.1 (by cases b;exact hwb.2) y hy) (by have:=A94 hy;omega)
      obtain ⟨_,kb⟩:=hB d' s.lo ⟨s.fs,Ava s.gl t,r.1,[],r.2,0⟩ sb h2 ⟨rfl,by show (r.2.length:Int)≤r.1;omega,Cbc,List.prefix_refl _,Int.le_refl _,rfl,rfl⟩
      have hl:=A3p (cx:=⟨sb.cs,gl,src⟩) (d:=d2) hb r.2 0
      refine ⟨Aec 0 (A0v gl src d2 sb.cs (.mk 31 t (m.length:Nat) a (m++[b]))),rfl,by rw [Am2,eb];omega,fun z hz=>?_⟩
      rw [eb] at hz ⊢
      rw [Am2]
      rcases Bxz hz with hz | rfl
      ·exact kb 0 _ (Nat.le_of_eq (Nat.zero_add _)) z hz
      ·exact A2n (o:=18) (a:=0) (by simp) (by omega)
theorem C3d {E:Qty} {q:Nat} {z:Ins} (m:Nat) (h:okI E q z):∃ t y,A4i.f m z.1 z.2.1 z.2.2.1 z.2.2.2=some (t,y)∧(y=true→0≤t∧t≤q):=by
 unfold A4i.f Adj
 by_cases h18:z.1=18
 ·rw [eqC h18];exact ⟨_,_,rfl,fun _=>h.ja (.inl h18)⟩
 by_cases h19:z.1=19
 ·rw [neC h18,eqC h19];exact ⟨_,_,rfl,fun _=>h.ja (.inr (.inl h19))⟩
 by_cases h20:z.1=20
 ·rw [neC h18,neC h19,eqC h20];exact ⟨_,_,rfl,fun _=>h.ja (.inr (.inr (.inl h20)))⟩
 by_cases h21:z.1=21
 ·rw [neC h18,neC h19,neC h20,eqC h21];exact ⟨_,_,rfl,fun _=>h.ja (.inr (.inr (.inr h21)))⟩
 by_cases h30:z.1=30
 ·rw [neC h18,neC h19,neC h20,neC h21,eqC h30];exact ⟨_,_,rfl,fun _=>h.jb (.inl h30)⟩
 by_cases h31:z.1=31
 ·rw [neC h18,neC h19,neC h20,neC h21,neC h30,eqC h31];exact ⟨_,_,rfl,fun _=>h.jb (.inr (.inl h31))⟩
 by_cases h33:z.1=33
 ·rw [neC h18,neC h19,neC h20,neC h21,neC h30,neC h31,eqC h33];exact ⟨_,_,rfl,fun _=>h.jb (.inr (.inr h33))⟩
 ·rw [neC h18,neC h19,neC h20,neC h21,neC h30,neC h31,neC h33];exact ⟨_,_,rfl,fun h=>by cases h⟩
theorem De0 {E:Qty} {q:Nat} {z:Ins} (m:Nat) (h:okI E q z) (us:List Agk) (gl:TyC) (u0:ByteArray) (u1 u2:Int) (u3:List V3) (u4:Cd) (e1:E.nU=us.length) (e2:E.gl=gl.length) (e3:E.cs=u3.length) (e4:E.sl=u2) (hs:u2≤60) :
  Azu.f m us gl u0 u1 u2 u3 u4 z.1 z.2.1 z.2.2.1 z.2.2.2=some true:=by
 have dT:∀ {p:Prop} [Decidable p],p→decide p=true:=fun h=>decide_eq_true h
 unfold Azu.f
 dsimp only [Adj]
 by_cases h2:z.1=2
 ·have:=h.c2 h2
  rw [eqC h2]
  simp only [cond_true]
  rw [dT this.1,dT (by omega:z.2.1≤((u3.length:Nat):Int))];rfl
 rw [neC h2]
 simp only [cond_false]
 by_cases h6:z.1=6
 ·have:=h.c6 (.inl h6)
  rw [eqC h6]
  simp only [cond_true]
  rw [dT this.1,dT (by omega:z.2.1≤u2)];rfl
 rw [neC h6]
 simp only [cond_false]
 by_cases h7:z.1=7
 ·have:=h.c6 (.inr h7)
  rw [eqC h7]
  simp only [cond_true]
  rw [dT this.1,dT (by omega:z.2.1≤u2)];rfl
 rw [neC h7]
 simp only [cond_false]
 by_cases h8:z.1=8
 ·have:=h.c8 (.inl h8)
  rw [eqC h8]
  simp only [cond_true]
  rw [dT this.1,dT (by omega:z.2.1≤((gl.length:Nat):Int))];rfl
 rw [neC h8]
 simp only [cond_false]
 by_cases h9:z.1=9
 ·have:=h.c8 (.inr h9)
  rw [eqC h9]
  simp only [cond_true]
  rw [dT this.1,dT (by omega:z.2.1≤((gl.length:Nat):Int))];rfl
 rw [neC h9]
 simp only [cond_false]
 by_cases h11:z.1=11
 ·have:=h.c11 h11
  rw [eqC h11]
  simp only [cond_true]
  rw [dT this.1,dT (by omega:z.2.1 < ((us.length:Nat):Int))];rfl
 rw [neC h11]
 simp only [cond_false]
 by_cases h10:z.1=10
 ·have:=h.c10 h10
  rw [eqC h10]
  simp only [cond_true]
  rw [dT (by omega:z.2.1 ≥ 12),dT this.2];rfl
 rw [neC h10]
 simp only [cond_false]
 by_cases h30:z.1=30
 ·have:=h.c30 (.inl h30)
  rw [eqC h30]
  simp only [cond_true]
  rw [wiC (u2 - 3) (by omega) (by omega),dT this.1,dT (by omega:z.2.1≤u2 - 3)];rfl
 rw [neC h30]
 simp only [cond_false]
 by_cases h31:z.1=31
 ·have:=h.c30 (.inr h31)
  rw [eqC h31]
  simp only [cond_true]
  rw [wiC (u2 - 3) (by omega) (by omega),dT this.1,dT (by omega:z.2.1≤u2 - 3)];rfl
 rw [neC h31]
 simp only [cond_false]
 by_cases h32:z.1=32
 ·have:=h.c32 h32
  rw [eqC h32]
  simp only [cond_true]
  rw [wiC (u2 - 2) (by omega) (by omega),dT this.1,dT (by omega:z.2.1≤u2 - 2)];rfl
 rw [neC h32]
 simp only [cond_false]
 by_cases h33:z.1=33
 ·have:=h.c33 h33
  rw [eqC h33]
  simp only [cond_true]
  rw [wiC (u2 - 2) (by omega) (by omega),wiC (u2 - 2 - z.2.2.2) (by omega) (by omega),dT this.1,dT this.2.1,dT (by omega:z.2.2.2≤u2),dT (by omega:z.2.1≤u2 - 2 - z.2.2.2)];rfl
 rw [neC h33,cond_false,dT h.op.1,dT h.op.2];rfl
theorem B7j (m0:Nat) (r1:List Agk×TyC×Int×Int) (u:Agk) (J:Unit→Option Bool) (hJ:∀ (m:Nat) (z:Ins),z ∈ u.2.2.2.2→(∃ t y,A4i.f m z.1 z.2.1 z.2.2.1 z.2.2.2=some (t,y)∧(y=true→0≤t∧t < (u.2.2.2.2.length:Int)))∧Azu.f m r1.1 r1.2.1 u.1 u.2.1 u.2.2.1 u.2.2.2.1 u.2.2.2.2 z.1 z.2.1 z.2.2.1 z.2.2.2=some true) :
  ∀ (t pre:Cd) (m:Nat),u.2.2.2.2=pre++t→pre.length+t.length≤1000000→t.length < m→Amj.l1 m r1 u J (pre.length:Int)=J ()
 | [],pre,m,he,hl,hm=>by
  obtain ⟨m,rfl⟩:∃ m',m=m'+1:=⟨m - 1,by omega⟩
  simp only [Amj.l1]
  rw [he,ltF (by simp),cond_false]
 | z :: t,pre,m,he,hl,hm=>by
  obtain ⟨m,rfl⟩:∃ m',m=m'+1:=⟨m - 1,by omega⟩
  simp only [Aa4] at hl hm
  have ih:=B7j m0 r1 u J hJ t (pre++[z]) m (by rw [he];simp) (by simp;omega) (by omega)
  rw [show ((pre++[z]).length:Int)=(pre.length:Int)+1 by simp] at ih
  have hi:Ack u.2.2.2.2 (pre.length:Int)=some z:=by rw [he];exact Ah5 pre z t
  obtain ⟨⟨t0,y,h1,h2⟩,h3⟩:=hJ m z (by rw [he];simp)
  simp only [Amj.l1]
  rw [ltT (by rw [he];simp;omega),cond_true,hi,Aai,h1,Aai,Aai,h3,Aai,wiC _ (by omega) (by omega)]
  cases y with
  | false=>exact ih
  | true =>
   have:=h2 rfl
   simp only [cond_true]
   rw [decide_eq_false (by omega),cond_false,decide_eq_false (by omega),cond_false]
   exact ih
theorem Cmd (J:Unit→Option Bool):∀ (t pre:List V3) (m:Nat),pre.length+t.length≤1000000→t.length < m→Atb.l0 m (pre++t) (pre++t) J (pre.length:Int)=J ()
 | [],pre,m,hl,hm=>by
  obtain ⟨m,rfl⟩:∃ m',m=m'+1:=⟨m - 1,by omega⟩
  simp only [Atb.l0]
  rw [ltF (by simp),cond_false]
 | x :: t,pre,m,hl,hm=>by
  obtain ⟨m,rfl⟩:∃ m',m=m'+1:=⟨m - 1,by omega⟩
  simp only [Aa4] at hl hm
  have ih:=Cmd J t (pre++[x]) m (by simp;omega) (by omega)
  rw [show (pre++[x])++t=pre++x :: t by simp,show ((pre++[x]).length:Int)=(pre.length:Int)+1 by simp] at ih
  simp only [Atb.l0]
  rw [ltT (by simp;omega),cond_true,Ah5,Aai,Aai,wiC _ (by omega) (by omega)]
  simp only [beq_self_eq_true,Bool.and_true,Bool.not_true,cond_false]
  exact ih
theorem Df2 (k:Nat) (l:List V3) (hl:l.length≤1000000) (hk:l.length < k):Atb.f k l l=some true:=by
 unfold Atb.f
 rw [bne_self_eq_false,cond_false]
 exact Cmd _ l [] k (by simpa using hl) hk
theorem Cll (J:Unit→Option Bool):∀ (t pre:List ByteArray) (m:Nat),pre.length+t.length≤1000000→t.length < m→Ar1.l0 m (pre++t) (pre++t) J (pre.length:Int)=J ()
 | [],pre,m,hl,hm=>by
  obtain ⟨m,rfl⟩:∃ m',m=m'+1:=⟨m - 1,by omega⟩
  simp only [Ar1.l0]
  rw [ltF (by simp),cond_false]
 | x :: t,pre,m,hl,hm=>by
  obtain ⟨m,rfl⟩:∃ m',m=m'+1:=⟨m - 1,by omega⟩
  simp only [Aa4] at hl hm
  have ih:=Cll J t (pre++[x]) m (by simp;omega) (by omega)
  rw [show (pre++[x])++t=pre++x :: t by simp,show ((pre++[x]).length:Int)=(pre.length:Int)+1 by simp] at ih
  simp only [Ar1.l0]
  rw [ltT (by simp;omega),cond_true,Ah5,Aai,Aai,wiC _ (by omega) (by omega)]
  simp only [beq_self_eq_true,Bool.not_true,cond_false]
  exact ih
theorem Clm (k:Nat) (l:List ByteArray) (hl:l.length≤1000000) (hk:l.length < k):Ar1.f k l l=some true:=by
 unfold Ar1.f
 rw [bne_self_eq_false,cond_false]
 exact Cll _ l [] k (by simpa using hl) hk
theorem Cl1 (r1:List Agk×TyC×Int×Int) (r12:Rep) (J:Unit→Option Bool) (hg:r1.1.length≤400000):∀ (us pre:List Agk) (rs rp:List Arj) (m:Nat),r1.1=pre++us→r12.1=rp++rs→rp.length=pre.length→Bed r1.1.length r1.2.1 rs us→500000+us.length≤m→Amj.l0 m r1 r12 J (pre.length:Int)=J ()
 | [],pre,rs,rp,m,h1,h2,h3,hR,hm=>by
  obtain ⟨m,rfl⟩:∃ m',m=m'+1:=⟨m - 1,by omega⟩
  simp only [Amj.l0]
  rw [h1,ltF (by simp),cond_false]
 | u :: us,pre,[],rp,m,h1,h2,h3,hR,hm=>hR.elim
 | u :: us,pre,r :: rs,rp,m,h1,h2,h3,hR,hm=>by
  obtain ⟨m,rfl⟩:∃ m',m=m'+1:=⟨m - 1,by omega⟩
  simp only [Aa4] at hm
  obtain ⟨⟨e1,e2,e3,e4,hc,hsl,c,e5,hcl,hz⟩,hR⟩:=hR
  have hpl:pre.length+us.length+1≤400000:=by rw [h1] at hg;simp at hg;omega
  have ih:=Cl1 r1 r12 J hg us (pre++[u]) rs (rp++[r]) m (by rw [h1];simp) (by rw [h2];simp) (by simp [h3]) hR (by omega)
  rw [show ((pre++[u]).length:Int)=(pre.length:Int)+1 by simp] at ih
  have i1:Ack r1.1 (pre.length:Int)=some u:=by rw [h1];exact Ah5 pre u us
  have i2:Ack r12.1 (pre.length:Int)=some r:=by rw [h2,← h3];exact Ah5 rp r rs
  have hlen:u.2.2.2.2.length=c.length+2:=by rw [e5];simp
  simp only [Amj.l0]
  rw [ltT (by rw [h1];simp;omega),cond_true,i1,Aai,i2]
  simp only [Aai]
  rw [← e1,← e2,← e3,← e4,Df2 m _ (by omega) (by omega),decide_eq_false (by omega)]
  simp only [beq_self_eq_true,Bool.not_true,cond_false,bne_self_eq_false,Aai]
  dsimp only [Adj]
  refine (B7j 0 r1 u _ (fun m z hz'=>?_) u.2.2.2.2 [] m rfl (by simp only [Acg];omega) (by omega)).trans ?_
  ·have hq:okI ⟨r1.1.length,r1.2.1.length,u.2.2.2.1.length,u.2.2.1⟩ c.length z:=by
    rw [e5] at hz'
    rcases Agb.1 hz' with hz' | hz'
    ·rcases Agb.1 hz' with hz' | hz'
     ·exact hz z hz'
     ·rw [Ag1.1 hz'];exact Alc rfl
    ·rw [Ag1.1 hz'];exact Alc rfl
   obtain ⟨t0,y,j1,j2⟩:=C3d m hq
   exact ⟨⟨t0,y,j1,fun h=>by have:=j2 h;omega⟩,De0 m hq r1.1 r1.2.1 _ _ _ _ _ rfl rfl rfl rfl hsl⟩
  ·have a1:Ack u.2.2.2.2 (c.length:Int)=some (i0 22):=by rw [e5,Aep];exact Ah5 c (i0 22) [i0 25]
   have a2:Ack u.2.2.2.2 ((c.length+1:Nat):Int)=some (i0 25):=by
    rw [e5]
    have:=Ah5 (c++[i0 22]) (i0 25) []
    rw [Abj] at this
    exact this
   rw [wiC _ (by omega) (by omega),wiC _ (by omega) (by omega),show (u.2.2.2.2.length:Int) - 2=(c.length:Int) by omega,show (u.2.2.2.2.length:Int) - 1=((c.length+1:Nat):Int) by omega,a1,a2,Aai,Aai,wiC _ (by omega) (by omega)]
   exact ih
theorem Dec (k:Nat) (hk:1000000≤k) (s:ByteArray):Amj.f k s=some true:=by
 unfold Amj.f
 rw [gen_eq k (by omega),check_eq k (by omega),Cti k (by omega),Aai,Aai,Aai]
 have none:∀ c p:Int,((cond (!true) (some true) (cond (!((c == c) && ((p == p) && true))) (some true) (cond (((([]:List Agk).length:Nat):Int) != ((([]:List Arj).length:Nat):Int)) (some true) ((Ar1.f k [] []).bind fun Bos=>some (!Bos)))):Option Bool).bind fun q23=>cond q23 (some (false)) (Adj (fun (_:Unit)=>some (true)) (fun J25=>Amj.l0 k ([],[],c,p) ([],[],c,p) J25 (0:Int))))=some true:=fun c p=>by
  rw [beq_self_eq_true,beq_self_eq_true,Clm k [] (by decide) (by simp only [Acg];omega)]
  obtain ⟨m,rfl⟩:∃ m,k=m+1:=⟨k - 1,by omega⟩
  rfl
 unfold Bsw
 rcases Cin s with ⟨c,p,hc,he⟩ | ⟨n,he,hw,hz,hI,hs⟩
 ·rw [he]
  unfold A2o
  simp only
  rw [if_pos hc,if_pos hc]
  exact none c p
 ·rw [he]
  unfold Bae
  simp only [ne_eq,not_true_eq_false,if_false]
  have e:Tree.mk n.kind n.text n.n n.at_ n.kids=n:=by cases n;rfl
  rw [e]
  cases hn:A5a 100000 n with
  | bad e=>exact none e.1 e.2
  | ok s' =>
   obtain ⟨hg,_⟩:=B3a hw
   unfold A5a at hn
   split at hn
   ·cases hn
   cases hI with
   | chunk hI =>
    rename_i n0 a0 t0 l _ _
    obtain ⟨_,_,hT⟩:=hw
    have hpp:=(Aml hg hn).pot
    unfold Adm at hn
    rw [if_pos rfl] at hn
    obtain ⟨s1,h1,hn⟩:=Acf hn
    simp only [sz] at hz hpp
    cases hn
    obtain ⟨fs,gl,sl,cs,lo,lp⟩:=s1
    simp only [pot,st0,Aa4,Acg] at hpp
    have key:=fun nU (hnU:1+Ba4 l≤nU)=>B2j (E:=⟨nU,gl.length,cs.length,sl⟩) (gl:=gl) (cs:=cs) (src:=s) (d2:=dG) l 99999 1 st0 ⟨fs,gl,sl,cs,lo,lp⟩ hI hT h1 ⟨rfl,Int.le_refl _,List.prefix_refl _,List.prefix_refl _,Int.le_refl _,rfl,rfl⟩ rfl (by unfold dG;omega) (by decide) (by show 1+0+0+0+_+_≤_;omega) (by omega) hnU
    obtain ⟨_,fs2,e1,e2,_,hR0⟩:=key _ (Nat.le_refl _)
    have e1:fs=(⟨#[]⟩,0,0,0,[]) :: fs2:=e1
    subst e1
    have Ddb:∀ (nU:Nat) (rs:List Arj) (us:List Agk),Bed nU gl rs us→us.length=rs.length:=fun nU rs=>by
     induction rs with
     | nil=>intro us h;cases us with
      | nil=>rfl
      | cons=>exact h.elim
     | cons r rs ih=>intro us h;cases us with
      | nil=>exact h.elim
      | cons u us=>exact congrArg (·+1) (ih us h.2)
    have hul:=Ddb _ _ _ hR0
    obtain ⟨mo,fs3,e3,_,k1,hR⟩:=key (1+fs2.length) (by omega)
    have e3:((⟨#[]⟩,0,0,0,[]):Arj) :: fs2=(⟨#[]⟩,0,0,0,[]) :: fs3:=e3
    cases e3
    simp only [Aa4] at hpp
    have hlen:=B2e (cx:=⟨cs,gl,s⟩) (d:=dG) l [] 0 1 hI
    have hsl:sl≤60:=mo.hi (by decide)
    simp only [Boy,List.tail_cons]
    have ht:B9n s (.mk 20 t0 n0 a0 l) ⟨((⟨#[]⟩,0,0,0,[]):Arj) :: fs2,gl,sl,cs,lo.take st0.lo.length,lp⟩=(⟨#[]⟩,0,sl,cs,Aec 0 (Amv ⟨cs,gl,s⟩ dG [] 0 1 l)++[i0 22]++[i0 25]) :: Atv gl s dG l (fs2.map A0e):=rfl
    rw [ht]
    obtain ⟨C,hC⟩:∃ C,C=Aec 0 (Amv ⟨cs,gl,s⟩ dG [] 0 1 l):=⟨_,rfl⟩
    have hCl:C.length≤450000:=by rw [hC,Am2];omega
    have hCz:∀ z ∈ C,okI ⟨1+fs2.length,gl.length,cs.length,sl⟩ C.length z:=fun z hz=>by
     rw [hC,Am2]
     rw [hC] at hz
     rcases Bxz hz with hz | rfl
     ·exact k1 0 _ (Nat.le_of_eq (Nat.zero_add _)) z hz
     ·exact A2n (o:=18) (a:=0) (by simp) (by omega)
    rw [← hC]
    obtain ⟨F,hF⟩:∃ F,F=Atv gl s dG l (fs2.map A0e):=⟨_,rfl⟩
    rw [← hF] at hR hul ⊢
    have hN:(((⟨#[]⟩,0,sl,cs,C++[i0 22]++[i0 25]) :: F:List Agk)).length=1+fs2.length:=by rw [Aa4,hul];omega
    have hR2:Bed (((⟨#[]⟩,0,sl,cs,C++[i0 22]++[i0 25]) :: F:List Agk)).length gl ((⟨#[]⟩,a0,0,sl,cs) :: fs2) ((⟨#[]⟩,0,sl,cs,C++[i0 22]++[i0 25]) :: F):=by
     rw [hN]
     exact ⟨⟨rfl,rfl,rfl,rfl,by show cs.length≤_;omega,hsl,C,rfl,hCl,hCz⟩,hR⟩
    rw [beq_self_eq_true,Clm k gl (by omega) (by omega),hN,show (((⟨#[]⟩,Tree.at_ (.mk 20 t0 n0 a0 l),0,sl,cs) :: fs2:List Arj).length:Int)=((1+fs2.length:Nat):Int) by rw [Aa4];omega,bne_self_eq_false]
    show Adj (fun (_:Unit)=>some true) (fun J25=>Amj.l0 k ((⟨#[]⟩,0,sl,cs,C++[i0 22]++[i0 25]) :: F,gl,0,0) ((⟨#[]⟩,a0,0,sl,cs) :: fs2,gl,0,0) J25 0)=some true
    exact Cl1 ((⟨#[]⟩,0,sl,cs,C++[i0 22]++[i0 25]) :: F,gl,0,0) ((⟨#[]⟩,a0,0,sl,cs) :: fs2,gl,0,0) _ (by show List.length _≤_;rw [hN];omega) _ [] _ [] k rfl rfl rfl hR2 (by rw [hN];omega)
theorem Dee (s:ByteArray):Amj.f 1000000 s=some true:=Dec 1000000 (Nat.le_refl _) s
end
end Go.Proofs.YtkdjiehclahliaaGreatDoor
