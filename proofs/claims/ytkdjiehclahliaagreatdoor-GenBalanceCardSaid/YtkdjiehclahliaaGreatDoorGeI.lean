/- Texts of mine for genBalance_card, part 9. -/
import Derived.Test.YtkdjiehclahliaaGreatDoorGeH
set_option linter.unusedSimpArgs false
set_option linter.unusedVariables false
set_option linter.unusedSectionVars false
namespace Go.Proofs.YtkdjiehclahliaaGreatDoor
set_option maxRecDepth 100000
section
open Go Go.RowKit Lx
abbrev z0:Hgt:=(0,[])
section
variable {W:Nat} {f:Int→Nat→Tree→Cd}
theorem ok0:okH W z0:=⟨Int.le_refl _,by show (0:Int)≤W;omega,Nat.zero_le _⟩
theorem Av3 {M:List Int} (hM:M.length≤W):∀ (n p:Nat) (N:Int),0≤N→N+n≤W→Fr W p (List.replicate n (i0 3)) (N,M) (N+n,M)
 | 0,p,N,_,_=>by
  rw [show N+((0:Nat):Int)=N by omega]
  exact BE.nil
 | n+1,p,N,h0,h1=>by
  rw [List.replicate_succ]
  refine Fr.cons (st1 0 1 rfl rfl (by omega) (N':=N+1) (by omega) (by omega) (by omega) hM) ?_
  rw [show N+((n+1:Nat):Int)=N+1+n by omega]
  exact Av3 hM n (p+1) (N+1) (by omega) (by omega)
theorem Af0 {l:List Tree} {n p:Nat} {N:Int} {M:List Int} (h:∀ x ∈ l,LQ W f x) (h0:0≤N) (h1:N+4 * At l+n+2≤W) (h2:M.length+4 * At l+2≤W):Fr W p (GM f p l n) (N,M) (N+n,M):=by
 unfold GM
 split
 ·rename_i e
  subst e
  exact Qo l p N M h h0 (by omega) (by omega)
 split
 ·exact Av3 (by omega) n p N h0 (by omega)
 ·have hs:=DR l
  obtain ⟨N',a1,a2,a3⟩:=W6 (f:=f) l (p+1) N (M++[N]) h h0 (by omega) (by rw [AM,List.length_singleton];omega)
  refine Fr.cons (Up h0 (by omega) (by omega)) (Fr.app a3 (Fr.cons (Brx h0 (by omega) rfl (by omega) (by omega) (by omega) (by omega)) BE.nil))
theorem Awr {there:Nat} {M:List Int} (hM:M.length≤W):∀ (i p:Nat) (N:Int),0≤N→N+i≤W→Fr W p (NX there i) (N+i,M) (N,M)
 | 0,p,N,_,_=>by
  rw [show N+((0:Nat):Int)=N by omega]
  exact BE.nil
 | i+1,p,N,h0,h1=>by
  refine Fr.cons (st1 1 0 rfl rfl (by omega) (N':=N+i) (by omega) (by omega) (by omega) hM) ?_
  exact Awr hM i (p+1) N h0 (by omega)
theorem Axp:∀ (l:List Tree) (p:Nat) (N:Int) (M:List Int),(∀ x ∈ l,IsE x)→(∀ x ∈ l,∀ y ∈ x.kids,LQ W f y)→0≤N→N+4 * At l≤W→M.length+4 * At l≤W→Fr W p (IA (D6 (f 1)) p l) (N,M) (N+FV l,M)
 | [],p,N,M,_,_,_,_,_=>by
  simp only [IA,FV]
  rw [show N+((0:Nat):Int)=N by omega]
  exact BE.nil
 | x :: l,p,N,M,hI,h,h0,h1,h2=>by
  simp only [At] at h1 h2
  have ih:=fun p N=>Axp l p N M (fun y hy=>hI y (CV _ hy)) fun y hy=>h y (CV _ hy)
  simp only [IA,FV]
  split
  ·rename_i hk
   obtain ⟨tx,n,a,u,v,rfl,_,_⟩:=VN (hI x (Cy ..)) hk
   simp only [sz] at h1 h2
   have k:=Qo (f:=f) [u,v] p N M (h _ (Cy ..)) h0 (by omega) (by omega)
   simp only [AD,Be] at k
   rw [show N+((2+FV l:Nat):Int)=N+((0+1+1:Nat):Int)+FV l by omega]
   simp only [At] at h1
   have:=ED u
   have:=ED v
   exact Fr.app k (ih _ _ (by omega) (by omega) (by omega))
  ·exact ih _ _ h0 (by omega) (by omega)
theorem Ado {cx:GCx} {lo:List ByteArray} {n:Nat} {N:Int} {M:List Int} (h0:0≤N) (h1:N+1≤W) (h2:M.length≤W):∀ (l:List Tree) (p:Nat),Fr W p (Ml cx lo n l) (N,M) (N,M)
 | [],_=>BE.nil
 | x :: l,p=>by
  simp only [Ml]
  split
  ·exact Fr.cons (st1 0 0 rfl rfl h0 (by omega) (by omega) (by omega) h2) (Ado h0 h1 h2 l _)
  ·refine Fr.cons (st1 0 1 rfl rfl h0 (N':=N+1) (by omega) (by omega) (by omega) h2) (Fr.cons ?_ (Ado h0 h1 h2 l _))
   unfold Aa0
   split
   ·exact st1 1 0 rfl rfl (by omega) (by omega) (by omega) (by omega) h2
   ·exact st1 1 0 rfl rfl (by omega) (by omega) (by omega) (by omega) h2
theorem XO {cx:GCx} {g:SG}:∀ (l:List Tree) (lo:List ByteArray) (p:Nat),(∀ x ∈ l,∀ lo p,FrX W p (g lo p x).1 z0 z0)→FrX W p (H7 cx g lo p l) z0 z0
 | [],_,_,_=>BE.nil
 | x :: l,lo,p,h=>by
  refine BE.app (X:=[_]) (BE.one (h':=z0) (stp 0 0 rfl (by decide) (by decide)) ok0 ok0 rfl fun _=>rfl) ?_
  refine BE.app (h x (Cy ..) lo (p+1)) ?_
  exact XO l _ _ fun y hy=>h y (CV _ hy)
theorem Aay {T:List (Nat×Hgt)} {X:Hx} {back:Ins} {p m:Nat} (hX:FrX W p X z0 z0) (hb:MT back=some (m:Int)) (ho:back.1=18∨back.1=31) (h1:(p+X.length+1,z0) ∈ T) (h2:(m,z0) ∈ T):BE W T p (CO (IR X back p)) z0 z0:=by
 unfold IR
 refine Fr.app (BE.A6t (BE.up hX) h1) ?_
 obtain ⟨op,a,b,c⟩:=back
 refine Fr.cons (BE.jmp (h':=z0) (stp 0 0 (by rcases ho with rfl | rfl <;> rfl) (by decide) (by decide)) ok0 ok0 hb ?_ (by show ¬ op=1;have:op=18∨op=31:=ho;omega) (.inr rfl)) BE.nil
 unfold hTo
 rw [if_neg (by show ¬ (op=20∨op=21);have:op=18∨op=31:=ho;omega)]
 exact h2
theorem Btp {E:Cd} {X:Hx} {p:Nat} (hW:1≤W) (hE:Fr W p E z0 (1,[])) (hX:FrX W (p+E.length+2) X z0 z0):Fr W p (PO E X p) z0 z0:=by
 have hl:(PO E X p).length=E.length+2+(X.length+1):=by unfold PO;rw [AM,AD,AD,Ko];omega
 have key:BE W [(p+E.length+2+X.length+1,z0),(p,z0)] p (CO (PO E X p)) z0 z0:=by
  refine Fr.app (BE.up hE) (Fr.cons (BE.jmp (m:=p+E.length+2+X.length+1) (h':=z0) (stp 1 0 rfl (by decide) (by decide)) ⟨by decide,by show (1:Int)≤W;omega,Nat.zero_le _⟩ ok0 rfl (Cy ..) (by show ¬ (19:Int)=1;decide) (.inr rfl)) ?_)
  refine Fr.cons (st1 0 0 rfl rfl (by decide) (N':=0) (by decide) (by omega) (by omega) (Nat.zero_le _)) ?_
  exact Aay hX rfl (.inl rfl) (Cy ..) (CV _ (DG.2 rfl))
 refine BE.close key fun x hx=>.inr ?_
 rcases List.mem_cons.1 hx with rfl | hx
 ·exact .inr (by rw [Gj,hl];simp only [Prod.mk.injEq,and_true];omega)
 ·exact .inl (DG.1 hx)
theorem A7b {E:Cd} {X:Hx} {s m p:Nat} (hm:2≤m) (hW:m≤W) (hE:Fr W p E z0 (m,[])) (hX:FrX W (p+E.length+1) X z0 z0):Fr W p (S4 E X s m p) z0 z0:=by
 have hL:Fr W (p+E.length+1) (IR X (i2 31 (s:Int) ((p+E.length+1:Nat):Int)) (p+E.length+1)) z0 z0:=by
  refine BE.close (Aay (T:=[(p+E.length+1+X.length+1,z0),(p+E.length+1,z0)]) hX rfl (.inr rfl) (Cy ..) (CV _ (DG.2 rfl))) fun x hx=>.inr ?_
  rcases List.mem_cons.1 hx with rfl | hx
  ·exact .inr (by rw [Gj,Ko];simp only [Prod.mk.injEq,and_true];omega)
  ·exact .inl (DG.1 hx)
 unfold S4
 refine Fr.app hE (BE.close (T:=[(p+E.length+1+X.length+1,z0)]) (Fr.cons (BE.jmp (m:=p+E.length+1+X.length+1) (h':=z0) ?_ ⟨by show (0:Int)≤m;omega,by show (m:Int)≤W;omega,Nat.zero_le _⟩ ok0 rfl (Cy ..) (by show ¬ (30:Int)=1;decide) (.inr rfl)) (BE.up hL)) fun x hx=>.inr (.inr ?_))
 ·have:=Stp.forP (N:=(m:Int)) (M:=[]) (a:=(s:Int)) (b:=((p+E.length+1+(X.length+1):Nat):Int)) (c:=(m:Int) - 2) (by omega) (by omega)
  rw [show (m:Int) - (2+((m:Int) - 2))=0 by omega] at this
  exact this
 ·rw [DG.1 hx,Gj,AD,Ko]
  simp only [Prod.mk.injEq,and_true]
  omega
theorem Bgs {E:Cd} {X:Hx} {s n p:Nat} (hW:n+3≤W) (hE:Fr W p E z0 (3,[])) (hX:FrX W (p+E.length+7) X z0 z0):Fr W p (inG E X s (n:Int) p) z0 z0:=by
 unfold inG
 refine Fr.app hE (Fr.cons (st1 3 0 rfl rfl (by decide) (N':=0) (by decide) (by omega) (by omega) (Nat.zero_le _)) ?_)
 have key:BE W [(p+E.length+7+X.length+1,z0),(p+E.length+1,z0)] (p+E.length+1) (CO (i1 6 (s:Int) :: i0 22 :: i1 6 ((s:Int)+1) :: i1 6 ((s:Int)+2) :: i1 24 (n:Int) :: i3 33 (s:Int) ((p+E.length+7+(X.length+1):Nat):Int) (n:Int) :: IR X (i1 18 ((p+E.length+1:Nat):Int)) (p+E.length+7))) z0 z0:=by
  refine Fr.cons (st1 0 1 rfl rfl (by decide) (N':=1) (by decide) (by omega) (by omega) (Nat.zero_le _)) ?_
  refine Fr.cons (Up (by decide) (by omega) (by simp only [Be];omega)) ?_
  refine Fr.cons (st1 0 1 rfl rfl (by decide) (N':=2) (by decide) (by omega) (by omega) (by simp only [Be,AM,List.length_singleton];omega)) ?_
  refine Fr.cons (st1 0 1 rfl rfl (by decide) (N':=3) (by decide) (by omega) (by omega) (by simp only [Be,AM,List.length_singleton];omega)) ?_
  refine Fr.cons (Aw4 (N':=(n:Int)) (by decide) (by omega) (by decide) (by omega) (by omega) (by simp only [Be];omega)) ?_
  refine Fr.cons (BE.jmp (m:=p+E.length+7+X.length+1) (h':=z0) ?_ ⟨by show (0:Int)≤n;omega,by show (n:Int)≤W;omega,Nat.zero_le _⟩ ok0 rfl (Cy ..) (by show ¬ (33:Int)=1;decide) (.inr rfl)) ?_
  ·have:=Stp.inN (N:=(n:Int)) (M:=[]) (a:=(s:Int)) (b:=((p+E.length+7+(X.length+1):Nat):Int)) (c:=(n:Int)) (by omega) (by omega)
   rw [show (n:Int) - (n:Int)=0 by omega] at this
   exact this
  ·exact Aay hX rfl (.inl rfl) (Cy ..) (CV _ (DG.2 rfl))
 refine BE.close key fun x hx=>.inr ?_
 rcases List.mem_cons.1 hx with rfl | hx
 ·exact .inr (by rw [Gj];simp only [AD,Ko,Prod.mk.injEq,and_true];omega)
 ·exact .inl (DG.1 hx)
def jn (X:HHx):Hx:=X.map fun o=>o.getD none
theorem ZE {X Y:HHx}:jn (X++Y)=jn X++jn Y:=List.map_append ..
theorem Ao2:∀ {E:Cd},jn (E.map fun i=>some (some i))=CO E
 | []=>rfl
 | x :: E=>congrArg (some x :: ·) (Ao2 (E:=E))
theorem ZF:∀ {B:Hx},jn (B.map some)=B
 | []=>rfl
 | x :: B=>congrArg (x :: ·) (ZF (B:=B))
theorem Ajm {e:Nat→Tree→Cd} {b:Nat→Tree→Hx} (hW:1≤W):∀ (l:List Tree) (p:Nat),IsR l→(∀ x ∈ l,∀ p,IsE x→Fr W p (e p x) z0 (1,[]))→(∀ x ∈ l,∀ p,EF x→FrX W p (b p x) z0 z0)→FrX W p (jn (brX e b p l)) z0 z0
 | [],_,_,_,_=>BE.nil
 | [x],p,hr,_,hb=>by
  have hx:EF x:=by cases hr with | last h=>exact h
  simp only [brX]
  rw [ZF]
  exact hb x (Cy ..) p hx
 | x :: y :: l,p,hr,he,hb=>by
  obtain ⟨hx,hy,hl⟩:IsE x∧EF y∧IsR l:=by cases hr with | more h1 h2 h3=>exact ⟨h1,h2,h3⟩
  have kE:=he x (Cy ..) p hx
  have kB:=hb y (CV _ (Cy ..)) (p+(e p x).length+1) hy
  have kR:=fun q=>Ajm hW l q hl (fun z hz=>he z (CV _ (CV _ hz))) (fun z hz=>hb z (CV _ (CV _ hz)))
  simp only [brX]
  generalize hEe:e p x=E at *
  generalize hBe:b (p+E.length+1) y=B at *
  have first:∀ Z:Hx,Z=[]∨Z=[none]→FrX W p (CO E++([some (i1 19 ((p+E.length+1+B.length+Z.length:Nat):Int))]++(B++Z))) z0 z0:=fun Z hZ=>by
   refine BE.close (T:=[(p+E.length+1+B.length+Z.length,z0)]) (BE.app (BE.up kE) (BE.app (X:=[_]) (BE.jmp (h':=z0) (m:=p+E.length+1+B.length+Z.length) (stp 1 0 rfl (by decide) (by decide)) ⟨by decide,by show (1:Int)≤W;omega,Nat.zero_le _⟩ ok0 rfl (Cy ..) (by show ¬ (19:Int)=1;decide) (.inr rfl)) (BE.app (h1:=z0) ?_ ?_))) fun q hq=>.inr (.inr ?_)
   ·rw [Gj,List.length_singleton];exact BE.up kB
   ·rcases hZ with rfl | rfl
    ·exact BE.nil
    ·exact BE.hole
   ·rw [DG.1 hq]
    simp only [AM,Gj,List.length_singleton,Prod.mk.injEq,and_true]
    omega
  rw [ZE,Ao2]
  show FrX W p (CO E++([some _]++jn (B.map some++(if l.isEmpty then [] else [none])++_))) _ _
  rw [ZE,ZE,ZF]
  cases l with
  | nil =>
   have k:=first [] (.inl rfl)
   simp only [List.append_nil,Be] at k
   simpa [jn,brX] using k
  | cons u v =>
   have k:=first [none] (.inr rfl)
   have:=BE.app k (kR _)
   simp only [AM,Gj,List.length_singleton] at this
   rw [show p+(E.length+(1+(B.length+1)))=p+E.length+1+B.length+1 by omega] at this
   simpa [jn,Cj] using this
theorem Bgp {e:Nat→Tree→Cd} {b:Nat→Tree→Hx} {l:List Tree} {p:Nat} (h:FrX W p (jn (brX e b p l)) z0 z0):FrX W p (ifH e b p l) z0 z0:=by
 have hl:(jn (brX e b p l)).length=(brX e b p l).length:=List.length_map ..
 have hl2:(ifH e b p l).length=(brX e b p l).length:=List.length_map ..
 have k:=BE.fill (m:=p+(brX e b p l).length) (T:=[(p+(brX e b p l).length,z0)]) (BE.up h) (Cy ..) (Y:=ifH e b p l) (by rw [hl,hl2]) fun i o ho=>by
  unfold jn at ho
  unfold ifH
  rw [List.getElem?_map] at ho ⊢
  cases hx:(brX e b p l)[i]? with
  | none=>rw [hx] at ho;cases ho
  | some w =>
   rw [hx] at ho
   cases w with
   | none=>exact .inr ⟨(Ap ho).symm,rfl⟩
   | some w=>exact .inl ho
 refine BE.close k fun q hq=>.inr (.inr ?_)
 rw [DG.1 hq,hl2]
theorem Ae2 {cx:GCx}:∀ (d:Nat) (lo:List ByteArray) (p:Nat) (t:Tree),IsS t→sz t≤d→4 * sz t+8≤W→FrX W p (Ch cx d lo p t).1 z0 z0
 | 0,_,_,t,_,hd,_=>by have:=ED t;omega
 | d+1,lo,p,t,hI,hd,hW=>by
  have KE:∀ {l:List Tree},(∀ x ∈ l,IsE x)→At l≤d→∀ x ∈ l,LQ W (AW cx lo d) x:=fun hl hs x hx=>LW d x (hl x hx) (Nat.le_trans (JN hx) hs)
  have K1:∀ {x:Tree} (p:Nat),IsE x→sz x≤d→4 * sz x≤W→Fr W p (AW cx lo d 1 p x) z0 (1,[]):=fun {x} p hx hs hw=>by
   have:=LW (W:=W) (cx:=cx) (lo:=lo) d x hx hs 1 p 0 [] (Int.le_refl _) (Int.le_refl _) (by omega) (by simp only [Be];omega)
   rwa [Ns] at this
  have KB:∀ {b:Tree} (lo:List ByteArray) (p:Nat),EF b→sz b≤d→4 * sz b+8≤W→FrX W p (Dd cx d lo p b) z0 z0:=fun {b} lo p hb hs hw=>by
   cases hb with
   | block hl =>
    refine XO _ lo p fun x hx lo p=>?_
    have:=JN hx
    simp only [Tree.kids] at this
    simp only [sz] at hs hw
    exact Ae2 d lo p x (hl x hx) (by omega) (by omega)
  cases hI with
  | loc hn hm =>
   rename_i a t l m
   rw [Uv]
   simp only [sz,D9] at hd hW
   have:=DR l
   have kv:=Af0 (f:=AW cx lo d) (l:=m) (n:=l.length) (p:=p) (N:=0) (M:=[]) (KE hm (by omega)) (Int.le_refl _) (by omega) (by simp only [Be];omega)
   have ks:=Awr (W:=W) (there:=lo.length) (M:=[]) (Nat.zero_le _) l.length (p+(GM (AW cx lo d) p m l.length).length) 0 (Int.le_refl _) (by omega)
   exact Fr.app kv ks
  | asg hn hl hm hm2 =>
   rename_i a t l m
   rw [Uq]
   simp only [sz,D9] at hd hW
   have h7:∀ x ∈ l,∀ y ∈ x.kids,LQ W (AW cx lo d) y:=fun x hx y hy=>by
    have hs:=JN hx
    have he:=(hl x hx).1
    have hk:∀ z ∈ x.kids,IsE z:=fun z hz=>by
     rcases (hl x hx).2 with h6 | h7
     ·cases he with
      | atom=>cases hz
      | _=>simp only [Tree.kind] at h6;omega
     ·obtain ⟨_,_,_,u,v,rfl,hu,hv⟩:=VN he h7
      rcases List.mem_cons.1 hz with rfl | hz
      ·exact hu
      ·obtain rfl:=DG.1 hz;exact hv
    refine LW d y (hk y hy) ?_
    have:sz y≤At x.kids:=JN hy
    cases x
    simp only [sz] at hs
    simp only [Tree.kids] at this
    omega
   have h2:∀ l:List Tree,(∀ x ∈ l,IsE x)→FV l+l.length≤At l:=fun l=>by
    induction l with
    | nil=>intro _;exact Nat.le_refl _
    | cons x l ih =>
     intro h
     have:=ih fun y hy=>h y (CV _ hy)
     have hp:=ED x
     simp only [FV,At,AD]
     split
     ·rename_i hk
      obtain ⟨_,_,_,u,v,rfl,hu,hv⟩:=VN (h x (Cy ..)) hk
      have:=ED u
      have:=ED v
      simp only [sz,At]
      omega
     ·omega
   have hle:∀ x ∈ l,IsE x:=fun x hx=>(hl x hx).1
   have h2:=h2 l hle
   have k1:=Axp (f:=AW cx lo d) l p 0 [] hle h7 (Int.le_refl _) (by omega) (by simp only [Be];omega)
   rw [Int.zero_add] at k1
   have k2:=Af0 (f:=AW cx lo d) (l:=m) (n:=l.length) (p:=p+(IA (D6 (AW cx lo d 1)) p l).length) (N:=(FV l:Int)) (M:=[]) (KE hm2 (by omega)) (by omega) (by omega) (by simp only [Be];omega)
   have k3:=Ado (W:=W) (cx:=cx) (lo:=lo) (n:=l.length) (N:=(FV l:Int)+l.length) (M:=[]) (by omega) (by omega) (Nat.zero_le _) l
   refine Fr.app k1 (Fr.app k2 (Fr.app (k3 _) (Fr.cons (Aez (.inl rfl) (by omega) (by omega) (by omega) (by omega) (Nat.zero_le _)) BE.nil)))
  | run he hk =>
   rename_i n a t x
   rw [Ux]
   simp only [sz,At] at hd hW
   have:=LW (W:=W) (cx:=cx) (lo:=lo) d x he (by omega) 0 p 0 [] (by decide) (Int.le_refl _) (by omega) (by simp only [Be];omega)
   rw [show (0:Int)+wid 0 x=0 by unfold wid;rw [if_pos hk];rfl] at this
   exact this
  | if_ hr =>
   rename_i n a t l
   rw [R4]
   simp only [sz] at hd hW
   refine Bgp (Ajm (by omega) l p hr (fun x hx p he=>?_) fun x hx p hb=>?_)
   ·have:=JN hx
    exact K1 p he (by omega) (by omega)
   ·have:=JN hx
    exact KB lo p hb (by omega) (by omega)
  | while_ he hb =>
   rw [Uy]
   simp only [sz,At] at hd hW
   exact Btp (by omega) (K1 p he (by omega) (by omega)) (KB lo _ hb (by omega) (by omega))
  | for_ hl he hb =>
   rename_i n a t x b l
   rw [Us]
   have e:At (x :: l++[b])=sz x+At l+sz b:=by rw [D9];simp only [At,Nat.add_zero]
   simp only [sz,e] at hd hW
   have k:=Qo (f:=AW cx lo d) l p 0 [] (KE he (by omega)) (Int.le_refl _) (by omega) (by simp only [Be];omega)
   rw [Int.zero_add] at k
   have:=DR l
   exact A7b (by omega) (by omega) k (KB _ _ hb (by omega) (by omega))
  | forIn hl hm he hb =>
   rename_i a t b l m
   rw [Ut]
   have e:At (l++m++[b])=At l+At m+sz b:=by rw [D9,D9];simp only [At,Nat.add_zero]
   simp only [sz,e] at hd hW
   have:=DR l
   have kv:=Af0 (f:=AW cx lo d) (l:=m) (n:=3) (p:=p) (N:=0) (M:=[]) (KE he (by omega)) (Int.le_refl _) (by omega) (by simp only [Be];omega)
   exact Bgs (by omega) kv (KB _ _ hb (by omega) (by omega))
  | do_ hb =>
   rw [R3]
   simp only [sz,At] at hd hW
   exact KB lo p hb (by omega) (by omega)
  | break_ =>
   rw [Ur]
   exact BE.hole
  | ret he =>
   rename_i n a t l
   rw [Uw]
   simp only [sz] at hd hW
   have:=DR l
   obtain ⟨N',a1,a2,a3⟩:=W6 (f:=AW cx lo d) l (p+1) 0 ([]++[0]) (KE he (by omega)) (Int.le_refl _) (by omega) (by simp only [List.nil_append,List.length_singleton];omega)
   unfold Uj
   exact Fr.cons (Up (by decide) (by omega) (by simp only [Be];omega)) (Fr.app a3 (Fr.cons (Brz (Int.le_refl _) a1 (by omega) (by omega) (by simp only [Be];omega)) BE.nil))
end
end
section
open Go Go.RowKit
def NP.f (_k:Nat) (Ac:Int) (Ae:Int) (Ez:Int) (Ai:Int):Option (Int×Bool):=BA (fun (x2:Bool)=>cond x2 (some (Ae,true)) (BA (fun (x5:Bool)=>cond x5 (some (Ez,true)) (some (0,false))) (fun J6=>cond (Ac == 30) (J6 (Ac == 30)) (cond (Ac == 31) (J6 (Ac == 31)) (J6 (Ac == 33)))))) (fun J3=>cond (Ac == 18) (J3 (Ac == 18)) (cond (Ac == 19) (J3 (Ac == 19)) (cond (Ac == 20) (J3 (Ac == 20)) (J3 (Ac == 21)))))
theorem NP.ok {k:Nat} {Ac Ae Ez Ai:Int} {r:Int×Bool} (h:NP.f k Ac Ae Ez Ai=some r): Ct Tryz.prog 12 #[.agg #[iv Ac,iv Ae,iv Ez,iv Ai]] [] [] (fun e l1=>e=.returned (.tuple #[iv r.1,bv r.2])∧l1=[]):=by
 refine Cz (args:=[.agg #[iv Ac,iv Ae,iv Ez,iv Ai]]) Tryz.func12 rfl (B0 rfl) ?_
 intro A X hh_
 unfold NP.f at h
 refine ksr (knp #[iv Ac,iv Ae,iv Ez,iv Ai] 48 fun b1=>(kx 2 (Ad (Bz (ksr (kx 1 (kld 0 0 rfl (Ad (Co ?_)))))))))
 obtain ⟨J3,hJ3,h⟩:=CG h
 refine CH (τ:=Bool) (fun t=>[(1,pt b1),(5,iv Ac),(6,bv t)]) (fun t=>bk b1 #[iv Ac,iv Ae,iv Ez,iv Ai] 48 :: X) (fun t=>J3 t=some r) ?_ ?_
 ·rintro x2 h
  subst hJ3
  refine AF h (fun h=>?_) fun h=>?_
  ·refine ksr (kx 1 (kld 0 1 rfl (K.drop (kx 2 (Ad (Cr (DK (CZ ?_))))))))
   obtain rfl:=Ap h
   exact kdn rfl
  ·obtain ⟨J6,hJ6,h⟩:=CG h
   refine CH (τ:=Bool) (fun t=>[(1,pt b1),(13,bv t)]) (fun t=>bk b1 #[iv Ac,iv Ae,iv Ez,iv Ai] 48 :: X) (fun t=>J6 t=some r) ?_ ?_
   ·rintro x5 h
    subst hJ6
    refine AF h (fun h=>?_) fun h=>?_
    ·refine ksr (kx 1 (kld 0 2 rfl (K.drop (kx 2 (Ad (Cr (DK (CZ ?_))))))))
     obtain rfl:=Ap h
     exact kdn rfl
    ·refine Bt (Bo (AB (ksr (kx 2 (Ad (Cr ?_))))))
     obtain rfl:=Ap h
     exact K.drop (kdn rfl)
   ·skip
    refine ksr (kx 2 (Ad ?_))
    refine AF h (fun h=>?_) fun h=>?_
    ·exact Bt (AB (AV (Ac == 30) h sb rfl))
    ·refine ksr (kx 2 (Ad ?_))
     refine AF h (fun h=>?_) fun h=>?_
     ·exact Bt (AB (AV (Ac == 31) h sb rfl))
     ·exact Bc (kx 2 (Ad (AV (Ac == 33) h sb rfl)))
 ·skip
  refine ksr (kx 2 (Ad ?_))
  refine AF h (fun h=>?_) fun h=>?_
  ·exact Bt (AB (AV (Ac == 18) h sb rfl))
  ·refine ksr (kx 2 (Ad ?_))
   refine AF h (fun h=>?_) fun h=>?_
   ·exact Bt (AB (AV (Ac == 19) h sb rfl))
   ·refine ksr (kx 2 (Ad ?_))
    refine AF h (fun h=>?_) fun h=>?_
    ·exact Bt (AB (AV (Ac == 20) h sb rfl))
    ·exact Bc (kx 2 (Ad (AV (Ac == 21) h sb rfl)))
def Pp.f (k:Nat):Option (Bool):=(Gq.fS k (⟨#[119,104,105,108,101,32,120,32,100,111,32,98,114,101,97,107,32,101,110,100]⟩:ByteArray)).bind fun r1=>(cond (r1.2.2.1 != 0) (some true) (cond (((r1.1.length:Nat):Int) != 1) (some true) ((AZ r1.1 0).bind fun x54=>some (((x54.2.2.2.2.length:Nat):Int) != 9))):Option Bool).bind fun q12=>cond q12 (some (false)) ((AZ r1.1 0).bind fun x14=>((AZ x14.2.2.2.2 2).bind fun x30=>cond ((x30.1 == 19) && ((x30.2.1 == 7) && ((x30.2.2.1 == 0) && ((x30.2.2.2 == 0) && true)))) ((AZ x14.2.2.2.2 5).bind fun x35=>cond ((x35.1 == 18) && ((x35.2.1 == 7) && ((x35.2.2.1 == 0) && ((x35.2.2.2 == 0) && true)))) ((AZ x14.2.2.2.2 6).bind fun x40=>cond ((x40.1 == 18) && ((x40.2.1 == 1) && ((x40.2.2.1 == 0) && ((x40.2.2.2 == 0) && true)))) ((AZ x14.2.2.2.2 8).bind fun x45=>some (x45.1 == 25)) (some false)) (some false)) (some false):Option Bool).bind fun q29=>some (q29))
theorem Pp.ok {k:Nat} {G:Ab} {r:Bool} (h:Pp.f k=some r) (hG:E2 G): Ct Tryz.prog 9 #[] [] [G] (fun e l1=>e=.returned (bv r)∧l1=[]):=by
 refine Cz (args:=[]) Tryz.func9 rfl (B0 rfl) ?_
 intro A X hh_
 obtain ⟨BU,_⟩:=hh_
 unfold Pp.f at h
 refine ksr (kx 1 (AY (bnd h fun r1 hr1 h=>(B6 (Gq.okS hr1 hG) rfl ⟨BU,trivial⟩ ?_))))
 rintro _ _ ⟨h2,A3,k4,h6,A7,k8,o5,o9,rfl,rfl⟩
 refine Bn (kx 3 (knp #[nS,nS] 25 fun b10=>(knp #[iv 0,iv 0] 28 fun b11=>(K.Ao (AQ 0 2 #[Aa A3 r1.1 k4,Aa A7 r1.2.1 k8] (K.Ao (AQ 0 2 #[iv r1.2.2.1,iv r1.2.2.2] (Ad (Bz (bnd h fun q12 hq12 h=>?_))))))))))
 refine Gr [(1,pt b10),(25,bv q12)] (bk b10 #[Aa A3 r1.1 k4,Aa A7 r1.2.1 k8] 25 :: h2 :: h6 :: X) ?_ ?_
 ·clear hq12
  refine AF h (fun h=>?_) fun h=>?_
  ·refine ksr (kx 1 (Ad (Cr (CZ ?_))))
   obtain rfl:=Ap h
   exact K.drop (K.drop (K.drop (kdn rfl)))
  ·refine Bt (AB (ksr (kx 1 (kld 0 0 rfl (K.drop (K.Ao (K.drop (bnd h fun x14 Bfm h=>(DL (T:=41) (kd:=.i64) (R:=D4) rfl Bfm (AL.rd o5) fun p15 u18 q19 e16 y17=>?_)))))))))
   obtain ⟨A20,k21,A23,k24,rfl,Gv,F9⟩:=Aea q19
   refine GV (off:=4) rfl e16 y17 fun p26 e27 y28=>?_
   have e27:Elem _ p26 [Aa A23 x14.2.2.2.2 k24]:=e27
   refine Hk rfl (by kernel_rfl) (by kernel_rfl) (by kernel_rfl) (by kernel_rfl) e27 (.head _) (kx 1 (Ad (bnd h fun q29 YQ h=>?_)))
   refine Gr [(0,bv q29)] (X) ?_ ?_
   ·clear YQ
    refine Cr ?_
    obtain rfl:=Ap h
    exact kdn rfl
   ·have h:=YQ
    clear YQ
    refine Bc (kx 1 (bnd h fun x30 Bf4 h=>(F8 (T:=48) (kd:=.i64) Fi rfl Bf4 F9 fun p31 e32 y33=>?_)))
    have e32:Elem _ p31 [iv x30.1,iv x30.2.1,iv x30.2.2.1,iv x30.2.2.2]:=e32
    refine E8 rfl e32 (.head _) (kx 1 (Wf (r:=((x30.1 == 19) && ((x30.2.1 == 7) && ((x30.2.2.1 == 0) && ((x30.2.2.2 == 0) && true))))) (xs:=#[iv x30.1,iv x30.2.1,iv x30.2.2.1,iv x30.2.2.2]) (ys:=#[iv 19,iv 7,iv 0,iv 0]) false (by kernel_rfl) rfl (by kernel_rfl) (by kernel_rfl) (by kernel_rfl) (by kernel_rfl) (by kernel_rfl) (by kernel_rfl) (by kernel_rfl) (kx 1 ?_)))
    refine Dw 36 h (fun h=>?_) fun h=>?_
    ·refine kx 1 (bnd h fun x35 Z5 h=>(F8 (T:=48) (kd:=.i64) Fi rfl Z5 F9 fun p36 e37 y38=>?_))
     have e37:Elem _ p36 [iv x35.1,iv x35.2.1,iv x35.2.2.1,iv x35.2.2.2]:=e37
     refine E8 rfl e37 (.head _) (kx 1 (Wf (r:=((x35.1 == 18) && ((x35.2.1 == 7) && ((x35.2.2.1 == 0) && ((x35.2.2.2 == 0) && true))))) (xs:=#[iv x35.1,iv x35.2.1,iv x35.2.2.1,iv x35.2.2.2]) (ys:=#[iv 18,iv 7,iv 0,iv 0]) false (by kernel_rfl) rfl (by kernel_rfl) (by kernel_rfl) (by kernel_rfl) (by kernel_rfl) (by kernel_rfl) (by kernel_rfl) (by kernel_rfl) (kx 2 ?_)))
     refine Dw 43 h (fun h=>?_) fun h=>?_
     ·refine kx 1 (bnd h fun x40 Bf5 h=>(F8 (T:=48) (kd:=.i64) Fi rfl Bf5 F9 fun p41 e42 y43=>?_))
      have e42:Elem _ p41 [iv x40.1,iv x40.2.1,iv x40.2.2.1,iv x40.2.2.2]:=e42
      refine E8 rfl e42 (.head _) (kx 1 (Wf (r:=((x40.1 == 18) && ((x40.2.1 == 1) && ((x40.2.2.1 == 0) && ((x40.2.2.2 == 0) && true))))) (xs:=#[iv x40.1,iv x40.2.1,iv x40.2.2.1,iv x40.2.2.2]) (ys:=#[iv 18,iv 1,iv 0,iv 0]) false (by kernel_rfl) rfl (by kernel_rfl) (by kernel_rfl) (by kernel_rfl) (by kernel_rfl) (by kernel_rfl) (by kernel_rfl) (by kernel_rfl) (kx 2 ?_)))
      refine Dw 50 h (fun h=>?_) fun h=>?_
      ·refine kx 1 (bnd h fun x45 Bf6 h=>(F8 (T:=48) (kd:=.i64) Fi rfl Bf6 F9 fun p46 e47 y48=>?_))
       have e47:Elem _ p46 [iv x45.1,iv x45.2.1,iv x45.2.2.1,iv x45.2.2.2]:=e47
       refine GV (off:=0) rfl e47 y48 fun p49 e50 y51=>?_
       have e50:Elem _ p49 [iv x45.1,iv x45.2.1,iv x45.2.2.1,iv x45.2.2.2]:=e50
       exact Hk rfl (by kernel_rfl) (by kernel_rfl) (by kernel_rfl) (by kernel_rfl) e50 (.head _) (K.drop (kx 3 (Ad (C2 ⟨gb (Ap h),trivial⟩))))
      ·exact kx 7 (Ad (K.drop (C2 ⟨gb (Ap h),trivial⟩)))
     ·exact kx 14 (Ad (K.drop (C2 ⟨gb (Ap h),trivial⟩)))
    ·exact kx 21 (Ad (K.drop (C2 ⟨gb (Ap h),trivial⟩)))
 ·have h:=hq12
  clear hq12
  refine Bc (kx 1 (kld 0 0 rfl (K.drop (kx 2 ?_))))
  refine Dw 11 h (fun h=>?_) fun h=>?_
  ·exact kx 14 (Ad (C2 ⟨gr,gb (Ap h),trivial⟩))
  ·refine kx 1 (kld 0 0 rfl (kx 4 ?_))
   refine Dw 17 h (fun h=>?_) fun h=>?_
   ·exact kx 8 (Ad (C2 ⟨gr,gb (Ap h),trivial⟩))
   ·refine kx 1 (kld 0 0 rfl (bnd h fun x54 Bgc h=>(DL (T:=41) (kd:=.i64) (R:=D4) rfl Bgc (AL.rd o5) fun p55 u58 q59 e56 y57=>?_)))
    obtain ⟨Sd,Tn,A63,k64,rfl,TM,o65⟩:=Aea q59
    refine GV (off:=4) rfl e56 y57 fun p66 e67 y68=>?_
    have e67:Elem _ p66 [Aa A63 x54.2.2.2.2 k64]:=e67
    exact Hk rfl (by kernel_rfl) (by kernel_rfl) (by kernel_rfl) (by kernel_rfl) e67 (.tail _ (.head _)) (kx 3 (Ad (C2 ⟨gr,gb (Ap h),trivial⟩)))
end
section
open Go Go.RowKit Lx
theorem A6u (k:Nat) (hk:950000≤k):Pp.f k=some true:=by
 unfold Pp.f
 rw [gen_eq k hk]
 kernel_rfl
end
section
open Go Go.RowKit
def hdE (x:Int×Option Addr×Nat×Nat):List Value:=[.int .i64 x.1,.slice x.2.1 x.2.2.1 x.2.2.2]
theorem VB:Ex hdE 2:=⟨fun _=>rfl,fun _=>rfl⟩
def HdR (HP:Ab) (y:Int×Option Addr×Nat×Nat) (x:Int×List Int):Prop:=y.1=x.1∧y.2.2.1=x.2.length∧Bf (encI .i64) 1 HP (Aa y.2.1 x.2 y.2.2.2) x.2
def Jq (T:TypeId) (HP Ho:Ab) (v:Value) (l:List (Int×List Int)):Prop :=
 ∃ L:List (Int×Option Addr×Nat×Nat),L.length=l.length∧Ah hdE T 2 Ho v L∧∀ (i:Nat) y x,L[i]? = some y→l[i]? = some x→HdR HP y x
theorem Jq.mono {T:TypeId} {HP HP' Ho:Ab} {v:Value} {l:List (Int×List Int)} (h:Jq T HP Ho v l) (hi:HP.In HP'):Jq T HP' Ho v l:=by
 obtain ⟨L,h1,h2,h3⟩:=h
 exact ⟨L,h1,h2,fun i y x hy hx=>⟨(h3 i y x hy hx).1,(h3 i y x hy hx).2.1,(h3 i y x hy hx).2.2.mono hi⟩⟩
section
variable {A:World} {ds:List Deferred} {n0:Nat} {env env':Env} {l l' X:List Ab} {q:Act→World→Prop} {P:Program} {Q:Exit→Act→World→Prop} {ops:Array Oper} {os rest:List Oper} {o:Oper}
theorem Bh0 {x:Code} (Jt:Env) (l1:List Ab) (hy:K ds A n0 Jt l1 (Q .normal)) (hx:K ds A n0 env l (x.wp P (Exit.then (fun a w=>Holds ds n0 Jt a∧St A l1 w) Q))):K ds A n0 env l (x.wp P Q):=fun a w ha hw =>
 wp_mono (hx a w ha hw) fun e a w h=>by
  cases e with
  | normal=>exact hy a w h.1 h.2
  | exit id=>exact h
  | goto l=>exact h
  | ret=>exact h
  | panic c=>exact h
  | outgrown=>exact h
theorem Bh5 (h:∀ H:Ab,K ds A n0 env (H :: l) q):K ds A n0 env l q:=Di (h none_)
theorem Bh4 {f g:Ab} (h:∀ H:Ab,f.In H→g.In H→K ds A n0 env (H :: l) q):K ds A n0 env (f :: g :: l) q :=
 J9 fun ha=>h _ (Ab.Q8 f g) (Ab.Pa ha)
theorem Biv {HP:Ab} {xs:List (Int×List Int)} {n:Int} {T TS:TypeId} {bytes:Nat} {i:TypeInfo} {z:Value} {kl kc:IntKind} {x y:Operand} (hz:z.cells=#[.int .i64 0,.slice none 0 0]) (ho:o.op=.makeSlice TS x y) (he:Ft P TS T 2 bytes i z) (hg:Cn ops env o=some true)
  (hd:inB n0 o.dst=true) (hx:BV env x=some (.int kl n)) (hy:BV env y=some (.int kc n)) (hmk:mkd bytes ((0:Int),([]:List Int)) n=some xs) (hk:∀ h' a' c',Jq T HP h' (.slice a' xs.length c') xs→K ds A n0 (Bp env o.dst (.slice a' xs.length c')) (h' :: l) (wpList P ops Q rest)):K ds A n0 env l (wpList P ops Q (o :: rest)):=by
 obtain ⟨hb,hxs⟩:=IH hmk
 have hxs:=Ap hxs
 have hm:mkd bytes ((0:Int),(none:Option Addr),0,0) n=some (List.replicate n.toNat ((0:Int),(none:Option Addr),0,0)):=by unfold mkd;rw [hb];rfl
 refine Arw (kl:=kl) (kc:=kc) (E:=hdE) ((0:Int),(none:Option Addr),0,0) VB hz ho he hg hd hx hy hm fun h' a' c' hO=>?_
 have hl:(List.replicate n.toNat ((0:Int),(none:Option Addr),0,0)).length=xs.length:=by rw [← hxs];simp
 rw [hl] at hO ⊢
 refine hk h' a' c' ⟨_,hl,hO,fun i y x hy hx=>?_⟩
 rw [← hxs] at hx
 have e1:=List.eq_of_mem_replicate (List.mem_of_getElem? hy)
 have e2:=List.eq_of_mem_replicate (List.mem_of_getElem? hx)
 subst e1 e2
 exact ⟨rfl,rfl,Bf.nil _ _ _⟩
theorem Jq.get {T:TypeId} {HP h:Ab} {A':Option Addr} {c:Nat} {xs:List (Int×List Int)} {a:Int×List Int} {ix:Int} (hO:Jq T HP h (.slice A' xs.length c) xs) (hi:AZ xs ix=some a) :
  ∃ (L:List (Int×Ar×Nat×Nat)) (y:Int×Ar×Nat×Nat),L.length=xs.length∧Ah hdE T 2 h (.slice A' L.length c) L∧AZ L ix=some y∧HdR HP y a∧∀ (i:Nat) y x,L[i]? = some y→xs[i]? = some x→HdR HP y x:=by
 obtain ⟨L,h1,h2,h3⟩:=hO
 obtain ⟨hi0,hi1,hi2⟩:=KL hi
 have hlt:ix.toNat < L.length:=by omega
 refine ⟨L,L[ix.toNat],h1,by rw [h1];exact h2,?_,h3 ix.toNat _ _ (List.getElem?_eq_getElem hlt) hi2,h3⟩
 unfold AZ
 rw [if_pos hi0]
 exact List.getElem?_eq_getElem hlt
theorem Aad {HP:Ab} {xs:List (Int×List Int)} {a:Int×List Int} {ix:Int} {kd:IntKind} {h:Ab} {A':Ar} {c:Nat} {T TS:TypeId} {x y:Operand} (ho:o.op=.indexAddr TS x y) (hg:Cn ops env o=some true) (hd:inB n0 o.dst=true) (hx:BV env x=some (.slice A' xs.length c)) (hy:BV env y=some (.int kd ix))
  (h1:P.underlying TS=some (.slice T)) (h2:(P.info? T).map (·.size)=some 2) (hi:AZ xs ix=some a) (hO:Jq T HP h (.slice A' xs.length c) xs)
  (hk:∀ p A1 c1,Bf (encI .i64) 1 HP (Aa A1 a.2 c1) a.2→Elem h p [.int .i64 a.1,Aa A1 a.2 c1]→Place A' (ix.toNat * 2) p→K ds A n0 (Bp env o.dst p) l (wpList P ops Q rest)):K ds A n0 env l (wpList P ops Q (o :: rest)):=by
 obtain ⟨L,y0,hl,h3,h4,⟨e1,e2,h5⟩,_⟩:=hO.get hi
 rw [← hl] at hx
 refine Art (T:=T) (kd:=kd) VB ho hg hd hx hy h1 h2 h4 h3.rd fun p f pl=>hk p _ _ h5 ?_ pl
 unfold hdE at f;rw [e1,e2] at f;exact f
theorem Ar0 {S:World→Prop} {tail:Act→World→Prop} {pl:List (Oper×Nat)} {HP:Ab} {xs:List (Int×List Int)} {a:Int×List Int} {ix:Int} {kd:IntKind} {h:Ab} {A':Ar} {c:Nat} {T TS:TypeId} {x y:Operand} (ho:o.op=.indexAddr TS x y) (hg:Cn ops env o=some true) (hd:inB n0 o.dst=true) (hx:BV env x=some (.slice A' xs.length c)) (hy:BV env y=some (.int kd ix))
  (h1:P.underlying TS=some (.slice T)) (h2:(P.info? T).map (·.size)=some 2) (hi:AZ xs ix=some a) (hO:Jq T HP h (.slice A' xs.length c) xs)
  (hk:∀ p A1 c1,Bf (encI .i64) 1 HP (Aa A1 a.2 c1) a.2→Elem h p [.int .i64 a.1,Aa A1 a.2 c1]→Place A' (ix.toNat * 2) p→K ds A n0 (Bp env o.dst p) l (Ce P ops Q S tail pl)):K ds A n0 env l (Ce P ops Q S tail ((o,0) :: pl)):=by
 obtain ⟨L,y0,hl,h3,h4,⟨e1,e2,h5⟩,_⟩:=hO.get hi
 rw [← hl] at hx
 refine Arz (T:=T) (kd:=kd) VB ho hg hd hx hy h1 h2 h4 h3.rd fun p f pl=>hk p _ _ h5 ?_ pl
 unfold hdE at f;rw [e1,e2] at f;exact f
theorem Aru {HP:Ab} {xs xs':List (Int×List Int)} {N:Int} {m:List Int} {A1:Ar} {c1:Nat} {ix:Int} {h:Ab} {A':Ar} {c:Nat} {T T1:TypeId} {p:Value} {s y:Operand} (ho:o.op=.store T1 s y) (hg:Cn ops env o=some true) (hd:inB n0 o.dst=true)
  (hs:BV env s=some p) (hy:BV env y=some (.agg #[.int .i64 N,Aa A1 m c1])) (hsz:(P.info? T1).map (·.size)=some 2) (hp:Place A' (ix.toNat * 2) p) (hO:Jq T HP h (.slice A' xs.length c) xs)
  (hm:Bf (encI .i64) 1 HP (Aa A1 m c1) m) (hset:Du xs ix (N,m)=some xs') (hk:∀ h',Jq T HP h' (.slice A' xs'.length c) xs'→K ds A n0 (Bp env o.dst undef) (h' :: l) (wpList P ops Q rest)):K ds A n0 env (h :: l) (wpList P ops Q (o :: rest)):=by
 obtain ⟨h0,h1,rfl⟩:=Aan hset
 have hi:AZ xs ix=some (xs[ix.toNat]'(by omega)):=by
  unfold AZ
  rw [if_pos h0]
  exact List.getElem?_eq_getElem _
 obtain ⟨L,y0,hl,h3,h4,_,h5⟩:=hO.get hi
 have hset':Du L ix (N,A1,m.length,c1)=some (L.set ix.toNat (N,A1,m.length,c1)):=by
  unfold Du at hset ⊢
  obtain ⟨hb,_⟩:=IH hset
  rw [hl,hb];rfl
 refine JA (v:=.agg #[.int .i64 N,Aa A1 m c1]) (off:=0) (x':=(N,A1,m.length,c1)) VB ho hg hd hs hy hsz hp h3 h4 (by simp [hdE,Value.cells]) rfl hset' fun h' hO'=>?_
 have e:(L.set ix.toNat (N,A1,m.length,c1)).length=(xs.set ix.toNat (N,m)).length:=by simp [hl]
 rw [e] at hO'
 refine hk h' ⟨_,e,hO',fun i y x hy hx=>?_⟩
 rw [List.getElem?_set] at hy hx
 by_cases hc:ix.toNat=i
 ·subst hc
  rw [if_pos rfl] at hy hx
  split at hy
  ·split at hx
   ·cases hy;cases hx;exact ⟨rfl,rfl,hm⟩
   ·cases hx
  ·cases hy
 ·rw [if_neg hc] at hy hx
  exact h5 i y x hy hx
end
def Gu.l0:Nat→(Ae:List Int)→(As:List Int)→(J5:(Unit→Option (Bool)))→(x6:Int)→Option (Bool)
 | 0,_,_,_,_=>none
 | m7+1,Ae,As,J5,x6=>cond (decide (x6 < ((Ae.length:Nat):Int))) ((AZ Ae x6).bind fun x9=>(AZ As x6).bind fun FW=>cond (x9 != FW) (some (false)) (Gu.l0 m7 Ae As J5 (IntKind.i64.wrap (x6+1)))) (J5 ())
def Gu.f (k:Nat) (Ac:Int) (Ae:List Int) (Af:Int) (As:List Int):Option (Bool):=(cond (Ac != Af) (some true) (some (((Ae.length:Nat):Int) != ((As.length:Nat):Int))):Option Bool).bind fun q3=>cond q3 (some (false)) (BA (fun (_:Unit)=>some (true)) (fun J5=>Gu.l0 k Ae As J5 0))
theorem Gu.ok {k BN Oz:Nat} {Ac Af:Int} {Ae As:List Int} {C7 X9:Ab} {BM Oo:Ar} {r:Bool} (h:Gu.f k Ac Ae Af As=some r) (Ds:Bf (encI .i64) 1 C7 (Aa BM Ae BN) Ae) (Az1:Bf (encI .i64) 1 X9 (Aa Oo As Oz) As): Ct Tryz.prog 22 #[.agg #[iv Ac,Aa BM Ae BN],.agg #[iv Af,Aa Oo As Oz]] [] [C7,X9] (fun e l1=>e=.returned (bv r)∧l1=[]):=by
 refine Cz (args:=[.agg #[iv Ac,Aa BM Ae BN],.agg #[iv Af,Aa Oo As Oz]]) Tryz.func22 rfl (B0 rfl) ?_
 intro A X hh_
 obtain ⟨YH,Bbu,_⟩:=hh_
 unfold Gu.f at h
 refine ksr (knp #[iv Ac,Aa BM Ae BN] 83 fun b1=>(knp #[iv Af,Aa Oo As Oz] 83 fun b2=>(kx 1 (Ad (Bz (bnd h fun q3 hq3 h=>?_))))))
 refine Gr [(2,pt b1),(3,pt b2),(19,bv q3)] (bk b2 #[iv Af,Aa Oo As Oz] 83 :: bk b1 #[iv Ac,Aa BM Ae BN] 83 :: X) ?_ ?_
 ·clear hq3
  refine AF h (fun h=>?_) fun h=>?_
  ·refine ksr (kx 1 (Ad (Cr (CZ ?_))))
   obtain rfl:=Ap h
   exact K.drop (K.drop (kdn rfl))
  ·refine Bt (AB ?_)
   obtain ⟨J5,hJ5,h⟩:=CG h
   refine CH (τ:=Unit) (fun t=>[]) (fun t=>X) (fun t=>J5 ()=some r) ?_ ?_
   ·rintro ⟨⟩ h
    subst hJ5
    refine ksr (kx 1 (Ad (Cr ?_)))
    obtain rfl:=Ap h
    exact kdn rfl
   ·skip
    refine ksr (kx 1 (Ad (Co (EL (τ:=Int) (fun t=>[(2,pt b1),(3,pt b2),(5,iv t)]) (fun t=>bk b2 #[iv Af,Aa Oo As Oz] 83 :: bk b1 #[iv Ac,Aa BM Ae BN] 83 :: X) (fun m t=>Gu.l0 m Ae As J5 t=some r) k 0 h sb rfl ?_))))
    clear h
    rintro m7 x6 h
    cases m7 with
    | zero=>simp [Gu.l0] at h
    | succ m7 =>
     simp only [Gu.l0] at h
     refine Bz (ksr (kx 2 (kld 1 1 rfl (kx 2 (Ad ?_)))))
     refine AF h (fun h=>?_) fun h=>?_
     ·refine Bt (AB (Bz (Co (Bz (IN [(0,0),(1,3),(2,0),(3,0),(4,3),(5,0),(6,3),(7,0),(8,0),(9,3)] [bk b2 #[iv Af,Aa Oo As Oz] 83,bk b1 #[iv Ac,Aa BM Ae BN] 83,C7,X9] (fun w h_=>⟨h_.sat.on _ (.head _),h_.sat.on _ (.tail _ (.head _)),h_.sat.on _ (t2 YH),h_.sat.on _ (t2 Bbu),trivial⟩) (Ax 1 (AU 1 1 rfl (Ax 1 (bnd h fun x9 hx9 h=>(QK (T:=3) (kd:=.i64) (D7 .i64) rfl hx9 Ds fun p10 e11 y12=>?_))))))))))
      have e11:Elem _ p10 [iv x9]:=e11
      refine Pk rfl (by kernel_rfl) (by kernel_rfl) (by kernel_rfl) (by kernel_rfl) e11 (fun w h_=>h_.mem _ (.tail _ (.tail _ (.head _)))) (Ax 1 (AU 0 1 rfl (Ax 1 (bnd h fun FW Bfi h=>(QK (T:=3) (kd:=.i64) (D7 .i64) rfl Bfi Az1 fun p14 e15 y16=>?_)))))
      have e15:Elem _ p14 [iv FW]:=e15
      refine Pk rfl (by kernel_rfl) (by kernel_rfl) (by kernel_rfl) (by kernel_rfl) e15 (fun w h_=>h_.mem _ (.tail _ (.tail _ (.tail _ (.head _))))) (BY (kx 1 (Ad ?_)))
      refine AF h (fun h=>?_) fun h=>?_
      ·refine ksr (kx 1 (Ad (Cr (DK (CZ (CZ (DK (CZ ?_))))))))
       obtain rfl:=Ap h
       exact K.drop (K.drop (kdn rfl))
      ·exact Bt (Bo (AB (Bc (kx 3 (Ad (Ea m7 (IntKind.i64.wrap (x6+1)) (Nat.lt_succ_self _) h sb rfl))))))
     ·exact E6 (CY (CY (E7 (AB (K.drop (K.drop (AV () h trivial rfl)))))))
 ·have h:=hq3
  clear hq3
  refine Bc (kx 1 (kld 1 0 rfl (kx 1 (kld 0 0 rfl (kx 2 ?_)))))
  refine Dw 11 h (fun h=>?_) fun h=>?_
  ·exact kx 8 (Ad (C2 ⟨gr,gr,gb (Ap h),trivial⟩))
  ·exact kx 1 (kld 1 1 rfl (kx 2 (kld 0 1 rfl (kx 3 (Ad (C2 ⟨gr,gr,gb (Ap h),trivial⟩))))))
def NO.f (_k:Nat) (Ac:Int) (Ae:List Int) (Af:Int) (As:Int) (Aq:Int) (AC:Int):Option (Int×List Int×Bool):=(apd 8 [] Ae).bind fun l5=>BA (fun (l10:List Int) (x15:Int) (x16:Int) (x17:Int)=>cond (decide (x15 < x16)) (some (Ac,Ae,false)) (some (IntKind.i64.wrap ((IntKind.i64.wrap (x15 - x16))+x17),l10,true))) (fun EV=>BA (fun (x25:Bool)=>cond x25 (EV l5 Ac 0 1) (BA (fun (x28:Bool)=>cond x28 (EV l5 Ac 1 0) (BA (fun (x31:Bool)=>cond x31 (EV l5 Ac 2 1) (cond (Af == 16) (EV l5 Ac 1 1) (BA (fun (x35:Bool)=>cond x35 (EV l5 Ac As 0) (cond (Af == 27) (EV l5 Ac 2 0) (cond (Af == 30) (EV l5 Ac (IntKind.i64.wrap (2+AC)) 0) (cond (Af == 32) (EV l5 Ac 3 0) (cond (Af == 33) (EV l5 Ac AC 0) (cond (Af == 22) ((apd 8 l5 [Ac]).bind fun l44=>EV l44 Ac 0 0) (BA (fun (x49:Bool)=>cond x49 (cond (((l5.length:Nat):Int) == 0) (some (Ac,Ae,false)) ((AZ l5 (IntKind.i64.wrap (((l5.length:Nat):Int) - 1))).bind fun x53=>(D8 l5 0 (IntKind.i64.wrap (((l5.length:Nat):Int) - 1))).bind fun Pn=>cond (Af == 23) (EV Pn x53 0 As) (cond (Af == 24) (EV Pn x53 1 (if 0 > As then 0 else As)) (EV Pn x53 0 0)))) (EV l5 Ac 0 0)) (fun J50=>cond (Af == 23) (J50 (Af == 23)) (cond (Af == 24) (J50 (Af == 24)) (cond (Af == 25) (J50 (Af == 25)) (J50 (Af == 29)))))))))))) (fun J36=>cond (Af == 15) (J36 (Af == 15)) (J36 (Af == 28)))))) (fun Kc=>cond (Af == 12) (Kc (Af == 12)) (Kc (Af == 17))))) (fun J29=>cond (Af == 7) (J29 (Af == 7)) (cond (Af == 9) (J29 (Af == 9)) (cond (Af == 19) (J29 (Af == 19)) (cond (Af == 20) (J29 (Af == 20)) (J29 (Af == 21)))))))) (fun GF=>cond (Af == 2) (GF (Af == 2)) (cond (Af == 3) (GF (Af == 3)) (cond (Af == 4) (GF (Af == 4)) (cond (Af == 5) (GF (Af == 5)) (cond (Af == 6) (GF (Af == 6)) (cond (Af == 8) (GF (Af == 8)) (cond (Af == 10) (GF (Af == 10)) (cond (Af == 11) (GF (Af == 11)) (cond (Af == 14) (GF (Af == 14)) (GF (Af == 26))))))))))))
theorem NO.ok {k BN:Nat} {Ac Af As Aq AC:Int} {Ae:List Int} {HP_:Ab} {BM:Ar} {r:Int×List Int×Bool} (h:NO.f k Ac Ae Af As Aq AC=some r) (Ds:Bf (encI .i64) 1 HP_ (Aa BM Ae BN) Ae): Ct Tryz.prog 23 #[.agg #[iv Ac,Aa BM Ae BN],.agg #[iv Af,iv As,iv Aq,iv AC]] [HP_] [] (fun e l1=>∃ (HP':Ab) (A0_:Ar) (c0_:Nat),HP_.In HP'∧Bf (encI .i64) 1 HP' (Aa A0_ r.2.1 c0_) r.2.1∧e=.returned (.tuple #[.agg #[iv r.1,Aa A0_ r.2.1 c0_],bv r.2.2])∧l1=[HP']):=by
 refine Cz (args:=[.agg #[iv Ac,Aa BM Ae BN],.agg #[iv Af,iv As,iv Aq,iv AC]]) Tryz.func23 rfl (B0 rfl) ?_
 intro A X hh_
 unfold NO.f at h
 refine K.eq (env':=[(0,.agg #[iv Ac,Aa BM Ae BN]),(1,.agg #[iv Af,iv As,iv Aq,iv AC])]) (l':=HP_ :: X) rfl rfl (ksr (knp #[iv Ac,Aa BM Ae BN] 83 fun b1=>(knp #[iv Af,iv As,iv Aq,iv AC] 48 fun b2=>(knp #[iv 0,nS] 83 fun b3=>(kx 1 (AY (De #[] 3 0 fun b4=>(kx 1 (kld 3 1 rfl (bnd h fun l5 hl5 h=>?_))))))))))
 refine QJ (ys:=Ae) (D7 .i64) rfl Vy hl5 (Ah.blk 3 (D7 .i64) b4 [] #[] 0 (by kernel_rfl) rfl (by decide)) (Brv Ds (.tail _ (.tail _ (.tail _ (.tail _ (.head _)))))) fun h6 A7 k8 o9=>(kx 1 (AY (kx 1 (kld 3 0 rfl (kx 1 (AY (kx 2 (Ad ?_))))))))
 obtain ⟨EV,SC,h⟩:=CG h
 refine CH (τ:=(List Int)×Int×Int×Int×Ab×Ar×Nat) (fun t=>[(2,pt b1),(4,pt b3),(6,Aa t.2.2.2.2.2.1 t.1 t.2.2.2.2.2.2),(7,iv t.2.1),(8,iv t.2.2.1),(9,iv t.2.2.2.1)]) (fun t=>bk b3 #[iv 0,nS] 83 :: bk b1 #[iv Ac,Aa BM Ae BN] 83 :: HP_ :: t.2.2.2.2.1 :: X) (fun t=>EV t.1 t.2.1 t.2.2.1 t.2.2.2.1=some r∧Ah (encI .i64) 3 1 t.2.2.2.2.1 (Aa t.2.2.2.2.2.1 t.1 t.2.2.2.2.2.2) t.1) ?_ ?_
 ·rintro ⟨l10,x15,x16,x17,h11,A12,k13⟩ ⟨h,IT⟩
  subst SC
  refine Bz (ksr (kx 3 (Ad ?_)))
  refine AF h (fun h=>?_) fun h=>?_
  ·refine ksr (CE 1 0 2 rfl (K.Ao (K.drop (K.Ak (K.drop (AQ 0 2 #[iv Ac,Aa BM Ae BN] (kx 1 (Ad (Cr (CZ ?_))))))))))
   obtain rfl:=Ap h
   exact Ma (v:=.tuple #[.agg #[iv Ac,Aa BM Ae BN],bv false]) [.val (iv Ac),.val (Aa BM Ae BN)] [.ld ⟨b3,0,none⟩ (iv Ac),.ld ⟨b3,1,none⟩ (Aa BM Ae BN)] [HP_] (by kernel_rfl) (by kernel_rfl) ⟨⟨0,_,_,_,rfl,rfl,rfl⟩,⟨0,_,_,_,rfl,rfl,rfl⟩,trivial⟩ (K.drop (BH ⟨HP_,BM,BN,(Ab.In.refl HP_),Ds,rfl,rfl⟩))
  ·refine Bt (AB (ksr (kx 7 (AQ 0 2 #[iv (IntKind.i64.wrap ((IntKind.i64.wrap (x15 - x16))+x17)),Aa A12 l10 k13] (K.Ao (K.drop (kx 1 (Ad (Cr (K.Ao ?_))))))))))
   refine K.Ak (Bh4 fun h20 o21 Gv=>?_)
   have Hp:=Bf.mono (Ah.rd IT) o21
   have IU:=Ab.In.trans (Ab.In.refl HP_) Gv
   obtain rfl:=Ap h
   exact Ma (v:=.tuple #[.agg #[iv (IntKind.i64.wrap ((IntKind.i64.wrap (x15 - x16))+x17)),Aa A12 l10 k13],bv true]) [.val (iv (IntKind.i64.wrap ((IntKind.i64.wrap (x15 - x16))+x17))),.val (Aa A12 l10 k13)] [.ld ⟨b3,0,none⟩ (iv (IntKind.i64.wrap ((IntKind.i64.wrap (x15 - x16))+x17))),.ld ⟨b3,1,none⟩ (Aa A12 l10 k13)] [h20] (by kernel_rfl) (by kernel_rfl) ⟨⟨1,_,_,_,rfl,rfl,rfl⟩,⟨1,_,_,_,rfl,rfl,rfl⟩,trivial⟩ (K.Ao (K.drop (BH ⟨h20,A12,k13,IU,Hp,rfl,rfl⟩)))
 ·skip
  refine ksr (kx 1 (kld 2 0 rfl (Ad (Co ?_))))
  obtain ⟨GF,Y4,h⟩:=CG h
  refine CH (τ:=Bool) (fun t=>[(2,pt b1),(3,pt b2),(4,pt b3),(6,Aa A7 l5 k8),(7,iv Ac),(8,iv 0),(9,iv 0),(17,iv Af),(18,bv t)]) (fun t=>h6 :: bk b3 #[iv 0,nS] 83 :: bk b2 #[iv Af,iv As,iv Aq,iv AC] 48 :: bk b1 #[iv Ac,Aa BM Ae BN] 83 :: HP_ :: X) (fun t=>GF t=some r) ?_ ?_
  ·rintro x25 h
   subst Y4
   refine AF h (fun h=>?_) fun h=>?_
   ·exact Bc (kx 1 (knl (Bo (AB (K.Ak (K.drop (K.mv3 (K.mv3 (K.mv3 (AV (l5,Ac,0,1,h6,A7,k8) ⟨h,o9⟩ sb rfl))))))))))
   ·obtain ⟨J29,hJ29,h⟩:=CG h
    refine CH (τ:=Bool) (fun t=>[(2,pt b1),(3,pt b2),(4,pt b3),(6,Aa A7 l5 k8),(7,iv Ac),(8,iv 0),(9,iv 0),(17,iv Af),(29,bv t)]) (fun t=>h6 :: bk b3 #[iv 0,nS] 83 :: bk b2 #[iv Af,iv As,iv Aq,iv AC] 48 :: bk b1 #[iv Ac,Aa BM Ae BN] 83 :: HP_ :: X) (fun t=>J29 t=some r) ?_ ?_
    ·rintro x28 h
     subst hJ29
     refine AF h (fun h=>?_) fun h=>?_
     ·exact Bc (kx 1 (knl (Bo (AB (K.Ak (K.drop (K.mv3 (K.mv3 (K.mv3 (AV (l5,Ac,1,0,h6,A7,k8) ⟨h,o9⟩ sb rfl))))))))))
     ·obtain ⟨Kc,Y6,h⟩:=CG h
      refine CH (τ:=Bool) (fun t=>[(2,pt b1),(3,pt b2),(4,pt b3),(6,Aa A7 l5 k8),(7,iv Ac),(8,iv 0),(9,iv 0),(17,iv Af),(35,bv t)]) (fun t=>h6 :: bk b3 #[iv 0,nS] 83 :: bk b2 #[iv Af,iv As,iv Aq,iv AC] 48 :: bk b1 #[iv Ac,Aa BM Ae BN] 83 :: HP_ :: X) (fun t=>Kc t=some r) ?_ ?_
      ·rintro x31 h
       subst Y6
       refine AF h (fun h=>?_) fun h=>?_
       ·exact Bc (kx 2 (knl (Bo (AB (K.Ak (K.drop (K.mv3 (K.mv3 (K.mv3 (AV (l5,Ac,2,1,h6,A7,k8) ⟨h,o9⟩ sb rfl))))))))))
       ·refine ksr (kx 2 (Ad ?_))
        refine AF h (fun h=>?_) fun h=>?_
        ·exact Bc (kx 2 (knl (Bo (AB (K.Ak (K.drop (K.mv3 (K.mv3 (K.mv3 (AV (l5,Ac,1,1,h6,A7,k8) ⟨h,o9⟩ sb rfl))))))))))
        ·obtain ⟨J36,A9f,h⟩:=CG h
         refine CH (τ:=Bool) (fun t=>[(2,pt b1),(3,pt b2),(4,pt b3),(6,Aa A7 l5 k8),(7,iv Ac),(8,iv 0),(9,iv 0),(17,iv Af),(40,bv t)]) (fun t=>h6 :: bk b3 #[iv 0,nS] 83 :: bk b2 #[iv Af,iv As,iv Aq,iv AC] 48 :: bk b1 #[iv Ac,Aa BM Ae BN] 83 :: HP_ :: X) (fun t=>J36 t=some r) ?_ ?_
         ·rintro x35 h
          subst A9f
          refine AF h (fun h=>?_) fun h=>?_
          ·refine Bc (kx 1 (kld 2 1 rfl (K.Ak (K.drop (kx 1 (knl (Bo (AB (K.mv3 (K.mv3 ?_))))))))))
           exact K.mv3 (AV (l5,Ac,As,0,h6,A7,k8) ⟨h,o9⟩ sb rfl)
          ·refine ksr (kx 2 (Ad ?_))
           refine AF h (fun h=>?_) fun h=>?_
           ·exact Bc (kx 1 (knl (Bo (AB (K.Ak (K.drop (K.mv3 (K.mv3 (K.mv3 (AV (l5,Ac,2,0,h6,A7,k8) ⟨h,o9⟩ sb rfl))))))))))
           ·refine ksr (kx 2 (Ad ?_))
            refine AF h (fun h=>?_) fun h=>?_
            ·refine Bc (kx 1 (kld 2 3 rfl (K.Ak (K.drop (kx 2 (knl (Bo (AB (K.mv3 (K.mv3 ?_))))))))))
             exact K.mv3 (AV (l5,Ac,IntKind.i64.wrap (2+AC),0,h6,A7,k8) ⟨h,o9⟩ sb rfl)
            ·refine ksr (kx 2 (Ad ?_))
             refine AF h (fun h=>?_) fun h=>?_
             ·exact Bc (kx 1 (knl (Bo (AB (K.Ak (K.drop (K.mv3 (K.mv3 (K.mv3 (AV (l5,Ac,3,0,h6,A7,k8) ⟨h,o9⟩ sb rfl))))))))))
             ·refine ksr (kx 2 (Ad ?_))
              refine AF h (fun h=>?_) fun h=>?_
              ·refine Bc (kx 1 (kld 2 3 rfl (K.Ak (K.drop (kx 1 (knl (Bo (AB (K.mv3 (K.mv3 ?_))))))))))
               exact K.mv3 (AV (l5,Ac,AC,0,h6,A7,k8) ⟨h,o9⟩ sb rfl)
              ·refine ksr (kx 2 (Ad ?_))
               refine AF h (fun h=>?_) fun h=>?_
               ·refine Bc (kx 2 (De #[iv Ac] 3 1 fun b43=>(K.mv3 (K.drop (K.Ao (bnd h fun l44 Bbh h=>(QJ (ys:=[Ac]) (D7 .i64) rfl Vy Bbh o9 (NY (n:=1) (D7 .i64) [Ac] (by kernel_rfl) rfl (by decide) 1 rfl) fun h45 Nw k47 Nb=>(K.Ao (K.drop (kx 1 ?_))))))))))
                exact knl (Bo (AB (K.mv3 (K.mv3 (K.mv3 (AV (l44,Ac,0,0,h45,Nw,k47) ⟨h,Nb⟩ sb rfl))))))
               ·obtain ⟨J50,A9l,h⟩:=CG h
                refine CH (τ:=Bool) (fun t=>[(2,pt b1),(3,pt b2),(4,pt b3),(6,Aa A7 l5 k8),(7,iv Ac),(8,iv 0),(9,iv 0),(64,bv t)]) (fun t=>h6 :: bk b3 #[iv 0,nS] 83 :: bk b2 #[iv Af,iv As,iv Aq,iv AC] 48 :: bk b1 #[iv Ac,Aa BM Ae BN] 83 :: HP_ :: X) (fun t=>J50 t=some r) ?_ ?_
                ·rintro x49 h
                 subst A9l
                 refine AF h (fun h=>?_) fun h=>?_
                 ·refine Bz (ksr (kx 3 (Ad ?_)))
                  refine AF h (fun h=>?_) fun h=>?_
                  ·refine ksr (CE 3 0 2 rfl (K.drop (K.Ao (K.drop (K.Ao (K.drop (AQ 0 2 #[iv Ac,Aa BM Ae BN] (kx 1 (Ad (Cr ?_))))))))))
                   refine CZ (DK (CZ ?_))
                   obtain rfl:=Ap h
                   exact Ma (v:=.tuple #[.agg #[iv Ac,Aa BM Ae BN],bv false]) [.val (iv Ac),.val (Aa BM Ae BN)] [.ld ⟨b3,0,none⟩ (iv Ac),.ld ⟨b3,1,none⟩ (Aa BM Ae BN)] [HP_] (by kernel_rfl) (by kernel_rfl) ⟨⟨0,_,_,_,rfl,rfl,rfl⟩,⟨0,_,_,_,rfl,rfl,rfl⟩,trivial⟩ (K.drop (BH ⟨HP_,BM,BN,(Ab.In.refl HP_),Ds,rfl,rfl⟩))
                  ·refine Bt (AB (ksr (kx 4 (bnd h fun x53 Bgb h=>(F8 (T:=3) (kd:=.i64) (D7 .i64) rfl Bgb (Ah.rd o9) fun p54 e55 y56=>?_)))))
                   have e55:Elem _ p54 [iv x53]:=e55
                   refine Hk rfl (by kernel_rfl) (by kernel_rfl) (by kernel_rfl) (by kernel_rfl) e55 (.head _) (kx 1 (AY (kx 4 (bnd h fun Pn Bbo h=>(Aaa (T:=3) (sz:=1) (k:=.i64) (xs:=l5) (IntKind.i64.wrap (((l5.length:Nat):Int) - 1)) (D7 .i64) rfl (by kernel_rfl) (by kernel_rfl) (by kernel_rfl) (by kernel_rfl) (by kernel_rfl) (by kernel_rfl) Bbo o9 fun Px=>(kx 1 (AY (kx 1 (kld 2 0 rfl (Ad ?_))))))))))
                   refine Co (ksr (kx 2 (Ad ?_)))
                   refine AF h (fun h=>?_) fun h=>?_
                   ·refine Bc (kx 1 (kld 2 1 rfl (K.Ak (K.drop (kx 1 (knl (Bo (Bo (AB (K.mv3 ?_))))))))))
                    exact K.mv3 (K.mv3 (AV (Pn,x53,0,As,h6,A7,k8) ⟨h,Px⟩ sb rfl))
                   ·refine ksr (kx 2 (Ad ?_))
                    refine AF h (fun h=>?_) fun h=>?_
                    ·refine kpr [(0,0),(1,3),(2,0),(3,0)] [2] (Ax 1 (AU 0 1 rfl (Ax 2 (BY (kx 1 (knl (Bo (Bo (AB (K.Ak ?_))))))))))
                     exact K.drop (K.mv3 (K.mv3 (K.mv3 (AV (Pn,x53,1,(if 0 > As then 0 else As),h6,A7,k8) ⟨h,Px⟩ sb rfl))))
                    ·exact Bt (Bo (Bo (AB (K.Ak (K.drop (K.mv3 (K.mv3 (K.mv3 (AV (Pn,x53,0,0,h6,A7,k8) ⟨h,Px⟩ sb rfl)))))))))
                 ·exact Bt (Bo (AB (K.Ak (K.drop (K.mv3 (K.mv3 (K.mv3 (AV (l5,Ac,0,0,h6,A7,k8) ⟨h,o9⟩ sb rfl))))))))
                ·skip
                 refine ksr (kx 2 (Ad ?_))
                 refine AF h (fun h=>?_) fun h=>?_
                 ·exact Bt (AB (AV (Af == 23) h sb rfl))
                 ·refine ksr (kx 2 (Ad ?_))
                  refine AF h (fun h=>?_) fun h=>?_
                  ·exact Bt (AB (AV (Af == 24) h sb rfl))
                  ·refine ksr (kx 2 (Ad ?_))
                   refine AF h (fun h=>?_) fun h=>?_
                   ·exact Bt (AB (AV (Af == 25) h sb rfl))
                   ·exact Bc (kx 2 (Ad (AV (Af == 29) h sb rfl)))
         ·skip
          refine ksr (kx 2 (Ad ?_))
          refine AF h (fun h=>?_) fun h=>?_
          ·exact Bt (AB (AV (Af == 15) h sb rfl))
          ·exact Bc (kx 2 (Ad (AV (Af == 28) h sb rfl)))
      ·skip
       refine ksr (kx 2 (Ad ?_))
       refine AF h (fun h=>?_) fun h=>?_
       ·exact Bt (AB (AV (Af == 12) h sb rfl))
       ·exact Bc (kx 2 (Ad (AV (Af == 17) h sb rfl)))
    ·skip
     refine ksr (kx 2 (Ad ?_))
     refine AF h (fun h=>?_) fun h=>?_
     ·exact Bt (AB (AV (Af == 7) h sb rfl))
     ·refine ksr (kx 2 (Ad ?_))
      refine AF h (fun h=>?_) fun h=>?_
      ·exact Bt (AB (AV (Af == 9) h sb rfl))
      ·refine ksr (kx 2 (Ad ?_))
       refine AF h (fun h=>?_) fun h=>?_
       ·exact Bt (AB (AV (Af == 19) h sb rfl))
       ·refine ksr (kx 2 (Ad ?_))
        refine AF h (fun h=>?_) fun h=>?_
        ·exact Bt (AB (AV (Af == 20) h sb rfl))
        ·exact Bc (kx 2 (Ad (AV (Af == 21) h sb rfl)))
  ·skip
   refine ksr (kx 2 (Ad ?_))
   refine AF h (fun h=>?_) fun h=>?_
   ·exact Bt (AB (AV (Af == 2) h sb rfl))
   ·refine ksr (kx 2 (Ad ?_))
    refine AF h (fun h=>?_) fun h=>?_
    ·exact Bt (AB (AV (Af == 3) h sb rfl))
    ·refine ksr (kx 2 (Ad ?_))
     refine AF h (fun h=>?_) fun h=>?_
     ·exact Bt (AB (AV (Af == 4) h sb rfl))
     ·refine ksr (kx 2 (Ad ?_))
      refine AF h (fun h=>?_) fun h=>?_
      ·exact Bt (AB (AV (Af == 5) h sb rfl))
      ·refine ksr (kx 2 (Ad ?_))
       refine AF h (fun h=>?_) fun h=>?_
       ·exact Bt (AB (AV (Af == 6) h sb rfl))
       ·refine ksr (kx 2 (Ad ?_))
        refine AF h (fun h=>?_) fun h=>?_
        ·exact Bt (AB (AV (Af == 8) h sb rfl))
        ·refine ksr (kx 2 (Ad ?_))
         refine AF h (fun h=>?_) fun h=>?_
         ·exact Bt (AB (AV (Af == 10) h sb rfl))
         ·refine ksr (kx 2 (Ad ?_))
          refine AF h (fun h=>?_) fun h=>?_
          ·exact Bt (AB (AV (Af == 11) h sb rfl))
          ·refine ksr (kx 2 (Ad ?_))
           refine AF h (fun h=>?_) fun h=>?_
           ·exact Bt (AB (AV (Af == 14) h sb rfl))
           ·exact Bc (kx 2 (Ad (AV (Af == 26) h sb rfl)))
theorem A5l:Ft Tryz.prog 79 83 2 32 Tryz.t83 (.agg #[iv 0,nS]):=⟨by kernel_rfl,by kernel_rfl,by kernel_rfl,by kernel_rfl,by kernel_rfl,by kernel_rfl,by decide⟩
theorem A5m:Ft Tryz.prog 80 4 1 1 Tryz.t4 (bv false):=⟨by kernel_rfl,by kernel_rfl,by kernel_rfl,by kernel_rfl,by kernel_rfl,by kernel_rfl,by decide⟩
def GX.l0:Nat→(a0:List (Int×Int×Int×Int))→(J14:(Unit→Option (Bool)))→(IP:List (Int×List Int))→(l21:List Bool)→(x26:Bool)→(x27:Int)→(x28:Int)→(l29:List Int)→Option (Bool)
 | 0,_,_,_,_,_,_,_,_=>none
 | Na+1,a0,J14,IP,l21,x26,x27,x28,l29=>cond (decide (x27 < ((a0.length:Nat):Int))) (BA (fun (l37:List (Int×List Int)) (l42:List Bool) (x47:Bool) (x48:Int) (l49:List Int)=>GX.l0 Na a0 J14 l37 l42 x47 (IntKind.i64.wrap (x27+1)) x48 l49) (fun J54=>(AZ a0 x27).bind fun x55=>(cond x26 ((AZ l21 x27).bind fun Agh=>cond Agh ((AZ IP x27).bind fun Agi=>(Gu.f Na x28 l29 Agi.1 Agi.2).bind fun WU=>cond (!WU) (some true) (cond x26 (cond (x55.1 == 1) (cond (x28 != 0) (some true) (some (((l29.length:Nat):Int) != 0))) (some false)) (some false))) (cond x26 (cond (x55.1 == 1) (cond (x28 != 0) (some true) (some (((l29.length:Nat):Int) != 0))) (some false)) (some false))) (cond x26 (cond (x55.1 == 1) (cond (x28 != 0) (some true) (some (((l29.length:Nat):Int) != 0))) (some false)) (some false)):Option Bool).bind fun q60=>cond q60 (some (false)) (BA (fun (x62:Bool) (x63:Int) (HZ:List Int)=>cond (!x62) (J54 IP l21 x62 x63 HZ) ((AZ IP x27).bind fun x71=>(Du IP x27 (x63,HZ)).bind fun Hl=>(AZ l21 x27).bind fun x82=>(Du l21 x27 true).bind fun Eg=>(NO.f Na x63 HZ x55.1 x55.2.1 x55.2.2.1 x55.2.2.2).bind fun DB=>cond (!DB.2.2) (some (false)) ((NP.f Na x55.1 x55.2.1 x55.2.2.1 x55.2.2.2).bind fun Ei=>BA (fun (Lv:List (Int×List Int)) (Wk:List Bool)=>(cond (x55.1 != 18) (some (x55.1 != 25)) (some false):Option Bool).bind fun JJ=>J54 Lv Wk JJ DB.1 DB.2.1) (fun U_=>cond Ei.2 (BA (fun (RO:Int) (QL:List Int)=>(cond (decide (Ei.1 < 0)) (some true) (cond (decide (Ei.1 ≥ ((a0.length:Nat):Int))) (some true) ((AZ Eg Ei.1).bind fun Nu=>cond Nu ((AZ Hl Ei.1).bind fun x152=>(Gu.f Na x152.1 x152.2 RO QL).bind fun Mm=>some (!Mm)) (some false))):Option Bool).bind fun Nj=>cond Nj (some (false)) ((AZ Hl Ei.1).bind fun Xo=>(Du Hl Ei.1 (RO,QL)).bind fun Lz=>(AZ Eg Ei.1).bind fun Hf=>(Du Eg Ei.1 true).bind fun Mb=>U_ Lz Mb)) (fun Va=>(cond (x55.1 == 20) (some true) (some (x55.1 == 21)):Option Bool).bind fun TZ=>cond TZ (Va x63 HZ) (Va DB.1 DB.2.1))) (U_ Hl Eg))))) (fun J69=>(cond (!x26) ((AZ l21 x27).bind fun Mw=>some Mw) (some false):Option Bool).bind fun P6=>cond P6 ((AZ IP x27).bind fun JZ=>J69 true JZ.1 JZ.2) (J69 x26 x28 l29))))) (J14 ())
def GX.f (k:Nat) (a0:TyA):Option (Bool):=(mkd 32 (0,([]:List Int)) ((a0.length:Nat):Int)).bind fun l2=>(mkd 1 false ((a0.length:Nat):Int)).bind fun l7=>BA (fun (_:Unit)=>some (true)) (fun J14=>GX.l0 k a0 J14 l2 l7 true 0 0 ([]))
theorem GX.ok {k Eo:Nat} {a0:TyA} {IY:Ab} {Ej:Ar} {r:Bool} (h:GX.f k a0=some r) (M3:Bf e48 4 IY (Aa Ej a0 Eo) a0): Ct Tryz.prog 14 #[Aa Ej a0 Eo] [] [IY] (fun e l1=>e=.returned (bv r)∧l1=[]):=by
 refine Cz (args:=[Aa Ej a0 Eo]) Tryz.func14 rfl (B0 rfl) ?_
 intro A X hh_
 obtain ⟨MK,_⟩:=hh_
 unfold GX.f at h
 refine Bh5 fun h1=>(ksr (kx 1 (AY (kx 2 (bnd h fun l2 hl2 h=>(Biv (HP:=h1) (kl:=.i64) (kc:=.i64) rfl rfl A5l (by kernel_rfl) (by kernel_rfl) (by kernel_rfl) (by kernel_rfl) hl2 fun h3 A4 k5 o6=>(kx 1 (AY (kx 2 (bnd h fun l7 hl7 h=>?_))))))))))
 refine Arw (kl:=.i64) (kc:=.i64) (E:=Sz) false N7 rfl rfl A5m (by kernel_rfl) (by kernel_rfl) (by kernel_rfl) (by kernel_rfl) hl7 fun h8 A9 k10 GJ=>(kx 1 (AY (kx 1 (knp #[iv 0,nS] 83 fun b12=>(AQ 0 2 #[iv 0,nS] (kx 1 (Ad ?_)))))))
 obtain ⟨J14,I_,h⟩:=CG h
 refine CH (τ:=Ab) (fun t=>[]) (fun t=>t :: X) (fun t=>J14 ()=some r) ?_ ?_
 ·rintro h13 h
  subst I_
  refine ksr (kx 1 (Ad (Cr ?_)))
  obtain rfl:=Ap h
  exact K.drop (kdn rfl)
 ·skip
  refine ksr (kx 1 (Ad (Co (K.Ao (K.Ak (K.mv3 (K.mv3 (EL (τ:=(List (Int×List Int))×(List Bool)×Bool×Int×Int×(List Int)×Ab×Ab×Ar×Nat×Ab×Ar×Nat×Ar×Nat) (fun t=>[(0,Aa Ej a0 Eo),(3,Aa t.2.2.2.2.2.2.2.2.1 t.1 t.2.2.2.2.2.2.2.2.2.1),(4,Aa t.2.2.2.2.2.2.2.2.2.2.2.1 t.2.1 t.2.2.2.2.2.2.2.2.2.2.2.2.1),(5,pt b12),(6,bv t.2.2.1),(7,iv t.2.2.2.1)]) (fun t=>bk b12 #[iv t.2.2.2.2.1,Aa t.2.2.2.2.2.2.2.2.2.2.2.2.2.1 t.2.2.2.2.2.1 t.2.2.2.2.2.2.2.2.2.2.2.2.2.2] 83 :: t.2.2.2.2.2.2.1 :: t.2.2.2.2.2.2.2.1 :: t.2.2.2.2.2.2.2.2.2.2.1 :: X) (fun m t=>GX.l0 m a0 J14 t.1 t.2.1 t.2.2.1 t.2.2.2.1 t.2.2.2.2.1 t.2.2.2.2.2.1=some r∧Jq 83 t.2.2.2.2.2.2.1 t.2.2.2.2.2.2.2.1 (Aa t.2.2.2.2.2.2.2.2.1 t.1 t.2.2.2.2.2.2.2.2.2.1) t.1∧Ah Sz 4 1 t.2.2.2.2.2.2.2.2.2.2.1 (Aa t.2.2.2.2.2.2.2.2.2.2.2.1 t.2.1 t.2.2.2.2.2.2.2.2.2.2.2.2.1) t.2.1∧Bf (encI .i64) 1 t.2.2.2.2.2.2.1 (Aa t.2.2.2.2.2.2.2.2.2.2.2.2.2.1 t.2.2.2.2.2.1 t.2.2.2.2.2.2.2.2.2.2.2.2.2.2) t.2.2.2.2.2.1) k (l2,l7,true,0,0,[],h1,h3,A4,k5,h8,A9,k10,none,0) ⟨h,o6,GJ,(Bf.nil (encI .i64) 1 h1)⟩ sb rfl ?_))))))))
  clear h
  rintro Na ⟨IP,l21,x26,x27,x28,l29,h15,h17,Fh,k19,h22,A23,k24,Io,k32⟩ ⟨h,o20,F9,Kq⟩
  cases Na with
  | zero=>simp [GX.l0] at h
  | succ Na =>
   simp only [GX.l0] at h
   refine Bz (ksr (kx 4 (Ad ?_)))
   refine AF h (fun h=>?_) fun h=>?_
   ·refine Bt (AB ?_)
    obtain ⟨J54,Y8,h⟩:=CG h
    refine CH (τ:=(List (Int×List Int))×(List Bool)×Bool×Int×(List Int)×Ab×Ab×Ar×Nat×Ab×Ar×Nat×Ar×Nat) (fun t=>[(0,Aa Ej a0 Eo),(3,Aa t.2.2.2.2.2.2.2.1 t.1 t.2.2.2.2.2.2.2.2.1),(4,Aa t.2.2.2.2.2.2.2.2.2.2.1 t.2.1 t.2.2.2.2.2.2.2.2.2.2.2.1),(5,pt b12),(6,bv t.2.2.1),(7,iv x27)]) (fun t=>bk b12 #[iv t.2.2.2.1,Aa t.2.2.2.2.2.2.2.2.2.2.2.2.1 t.2.2.2.2.1 t.2.2.2.2.2.2.2.2.2.2.2.2.2] 83 :: t.2.2.2.2.2.1 :: t.2.2.2.2.2.2.1 :: t.2.2.2.2.2.2.2.2.2.1 :: X) (fun t=>J54 t.1 t.2.1 t.2.2.1 t.2.2.2.1 t.2.2.2.2.1=some r∧Jq 83 t.2.2.2.2.2.1 t.2.2.2.2.2.2.1 (Aa t.2.2.2.2.2.2.2.1 t.1 t.2.2.2.2.2.2.2.2.1) t.1∧Ah Sz 4 1 t.2.2.2.2.2.2.2.2.2.1 (Aa t.2.2.2.2.2.2.2.2.2.2.1 t.2.1 t.2.2.2.2.2.2.2.2.2.2.2.1) t.2.1∧Bf (encI .i64) 1 t.2.2.2.2.2.1 (Aa t.2.2.2.2.2.2.2.2.2.2.2.2.1 t.2.2.2.2.1 t.2.2.2.2.2.2.2.2.2.2.2.2.2) t.2.2.2.2.1) ?_ ?_
    ·rintro ⟨l37,l42,x47,x48,l49,h36,h38,A39,Jc,h43,A44,k45,Jn,k52⟩ ⟨h,o41,Pw,L6⟩
     subst Y8
     exact Bc (kx 3 (Ad (Ea Na (l37,l42,x47,IntKind.i64.wrap (x27+1),x48,l49,h36,h38,A39,Jc,h43,A44,k45,Jn,k52) (Nat.lt_succ_self _) ⟨h,o41,Pw,L6⟩ sb rfl)))
    ·skip
     refine Co (ksr (kx 2 (bnd h fun x55 Bge h=>(F8 (T:=48) (kd:=.i64) Fi rfl Bge M3 fun p56 e57 y58=>?_))))
     have e57:Elem _ p56 [iv x55.1,iv x55.2.1,iv x55.2.2.1,iv x55.2.2.2]:=e57
     refine E8 rfl e57 (t4 MK) (knp #[iv 0,iv 0,iv 0,iv 0] 48 fun b59=>(AQ 0 4 #[iv x55.1,iv x55.2.1,iv x55.2.2.1,iv x55.2.2.2] (Ad (Bz (bnd h fun q60 YU h=>?_)))))
     refine Gr [(0,Aa Ej a0 Eo),(3,Aa Fh IP k19),(4,Aa A23 l21 k24),(5,pt b12),(6,bv x26),(7,iv x27),(8,pt b59),(65,bv q60)] (bk b59 #[iv x55.1,iv x55.2.1,iv x55.2.2.1,iv x55.2.2.2] 48 :: bk b12 #[iv x28,Aa Io l29 k32] 83 :: h15 :: h17 :: h22 :: X) ?_ ?_
     ·clear YU
      refine AF h (fun h=>?_) fun h=>?_
      ·refine ksr (kx 1 (Ad (Cr (CZ (DK (CZ (CZ (DK (CZ ?_)))))))))
       obtain rfl:=Ap h
       exact K.drop (K.drop (K.drop (K.drop (K.drop (kdn rfl)))))
      ·refine Bt (AB ?_)
       obtain ⟨J69,A9s,h⟩:=CG h
       refine CH (τ:=Bool×Int×(List Int)×Ar×Nat) (fun t=>[(0,Aa Ej a0 Eo),(3,Aa Fh IP k19),(4,Aa A23 l21 k24),(5,pt b12),(6,bv t.1),(7,iv x27),(8,pt b59)]) (fun t=>bk b59 #[iv x55.1,iv x55.2.1,iv x55.2.2.1,iv x55.2.2.2] 48 :: bk b12 #[iv t.2.1,Aa t.2.2.2.1 t.2.2.1 t.2.2.2.2] 83 :: h15 :: h17 :: h22 :: X) (fun t=>J69 t.1 t.2.1 t.2.2.1=some r∧Bf (encI .i64) 1 h15 (Aa t.2.2.2.1 t.2.2.1 t.2.2.2.2) t.2.2.1) ?_ ?_
       ·rintro ⟨x62,x63,HZ,Jo,Jw⟩ ⟨h,Rl⟩
        subst A9s
        refine Bz (ksr (kx 2 (Ad ?_)))
        refine AF h (fun h=>?_) fun h=>?_
        ·exact E6 (CY (E7 (AB (K.drop (AV (IP,l21,x62,x63,HZ,h15,h17,Fh,k19,h22,A23,k24,Jo,Jw) ⟨h,o20,F9,Rl⟩ sb rfl)))))
        ·refine Bt (AB (ksr (kx 4 (CE 1 0 2 rfl (bnd h fun x71 Bgj h=>(Aad (T:=83) (kd:=.i64) rfl (by kernel_rfl) (by kernel_rfl) (by kernel_rfl) (by kernel_rfl) (by kernel_rfl) (by kernel_rfl) Bgj o20 fun p72 A75 Pg NU e73 y74=>(K.mv3 (bnd h fun Hl An0 h=>(Aru (N:=x63) (m:=HZ) (A1:=Jo) (c1:=Jw) rfl (by kernel_rfl) (by kernel_rfl) (by kernel_rfl) (by kernel_rfl) (by kernel_rfl) y74 o20 Rl An0 fun h79 o80=>?_)))))))))
         have Qt:=GH An0
         refine K.weak (env':=[(0,Aa Ej a0 Eo),(3,Aa Fh Hl k19),(4,Aa A23 l21 k24),(5,pt b12),(7,iv x27),(8,pt b59),(82,Aa A23 l21 k24),(83,iv x27),(84,.agg #[iv x63,Aa Jo HZ Jw])]) ?_ ⟨(by first | rfl | (unfold Aa;rw [Qt];rfl)),(by first | rfl | (unfold Aa;rw [Qt];rfl)),(by first | rfl | (unfold Aa;rw [Qt];rfl)),gr,gr,gr,(by first | rfl | (unfold Aa;rw [Qt];rfl)),gr,(by first | rfl | (unfold Aa;rw [Qt];rfl)),trivial⟩
         refine K.eq (l':=h79 :: bk b59 #[iv x55.1,iv x55.2.1,iv x55.2.2.1,iv x55.2.2.2] 48 :: bk b12 #[iv x63,Aa Jo HZ Jw] 83 :: h15 :: h22 :: X) rfl (by first | rfl | (unfold Aa;rw [Qt];first | done | rfl)) (bnd h fun x82 Aoe h=>(F8 (T:=4) (kd:=.i64) N7 rfl Aoe (Ah.rd F9) fun p83 e84 y85=>?_))
         have e84:Elem _ p83 [bv x82]:=e84
         refine K.Bq (bnd h fun Eg SK h=>(JA (v:=bv true) (off:=0) (x':=true) N7 rfl (by kernel_rfl) (by kernel_rfl) (by kernel_rfl) (by kernel_rfl) (by kernel_rfl) y85 F9 Aoe (by kernel_rfl) (by kernel_rfl) SK fun h87 o88=>?_))
         have V7:=GH SK
         refine K.weak (env':=[(0,Aa Ej a0 Eo),(3,Aa Fh Hl k19),(4,Aa A23 Eg k24),(5,pt b12),(7,iv x27),(8,pt b59)]) ?_ ⟨(by first | rfl | (unfold Aa;rw [V7];rfl)),(by first | rfl | (unfold Aa;rw [V7];rfl)),(by first | rfl | (unfold Aa;rw [V7];rfl)),gr,gr,gr,trivial⟩
         refine K.eq (l':=h87 :: h79 :: bk b59 #[iv x55.1,iv x55.2.1,iv x55.2.2.1,iv x55.2.2.2] 48 :: bk b12 #[iv x63,Aa Jo HZ Jw] 83 :: h15 :: X) rfl (by first | rfl | (unfold Aa;rw [V7];first | done | rfl)) (AY (CE 3 0 2 rfl (CE 2 0 4 rfl (K.Bq (bnd h fun DB Beo h=>(B6 (NO.ok Beo Rl) rfl trivial ?_))))))
         rintro _ _ ⟨h91,Ka,Kn,Rn,o96,rfl,rfl⟩
         refine Fb ?_
         have NV:=Jq.mono o80 Rn
         have o98:=Bf.mono Rl Rn
         refine kx 3 (knp #[iv 0,nS] 83 fun K8=>(AQ 0 2 #[iv DB.1,Aa Ka DB.2.1 Kn] (kx 1 (Ad (Bz (ksr (kx 2 (Ad ?_))))))))
         refine AF h (fun h=>?_) fun h=>?_
         ·refine ksr (kx 1 (Ad (Cr (CZ (DK (CZ (CZ (DK (CZ ?_)))))))))
          obtain rfl:=Ap h
          exact K.drop (K.drop (K.drop (K.drop (K.drop (K.drop (kdn rfl))))))
         ·refine Bt (AB (ksr (CE 4 0 4 rfl (bnd h fun Ei YY h=>(FN (NP.ok YY) trivial (kx 5 (Ad ?_)))))))
          obtain ⟨U_,A8u,h⟩:=CG h
          refine CH (τ:=(List (Int×List Int))×(List Bool)×Ab×Ar×Nat×Ab×Ar×Nat) (fun t=>[(0,Aa Ej a0 Eo),(3,Aa t.2.2.2.1 t.1 t.2.2.2.2.1),(4,Aa t.2.2.2.2.2.2.1 t.2.1 t.2.2.2.2.2.2.2),(5,pt b12),(7,iv x27),(8,pt b59),(9,pt K8)]) (fun t=>bk K8 #[iv DB.1,Aa Ka DB.2.1 Kn] 83 :: h91 :: bk b59 #[iv x55.1,iv x55.2.1,iv x55.2.2.1,iv x55.2.2.2] 48 :: bk b12 #[iv x63,Aa Jo HZ Jw] 83 :: t.2.2.1 :: t.2.2.2.2.2.1 :: X) (fun t=>U_ t.1 t.2.1=some r∧Jq 83 h91 t.2.2.1 (Aa t.2.2.2.1 t.1 t.2.2.2.2.1) t.1∧Ah Sz 4 1 t.2.2.2.2.2.1 (Aa t.2.2.2.2.2.2.1 t.2.1 t.2.2.2.2.2.2.2) t.2.1) ?_ ?_
          ·rintro ⟨Lv,Wk,V8,RV,Tf,Alu,Xr,ZH⟩ ⟨h,Abb,o111⟩
           subst A8u
           refine ksr (CE 0 0 2 rfl (K.drop (K.Ak (AQ 0 2 #[iv DB.1,Aa Ka DB.2.1 Kn] (Ad (bnd h fun JJ YL h=>?_))))))
           refine Bh0 [(0,Aa Ej a0 Eo),(3,Aa RV Lv Tf),(4,Aa Xr Wk ZH),(5,pt b12),(7,iv x27),(6,bv JJ)] (bk b12 #[iv DB.1,Aa Ka DB.2.1 Kn] 83 :: h91 :: V8 :: Alu :: X) ?_ ?_
           ·clear YL
            exact Bo (AB (AV (Lv,Wk,JJ,DB.1,DB.2.1,h91,V8,RV,Tf,Alu,Xr,ZH,Ka,Kn) ⟨h,Abb,o111,o96⟩ sb rfl))
           ·have h:=YL
            clear YL
            refine Bc (kx 1 (kld 2 0 rfl (kx 2 ?_)))
            refine Dw 145 h (fun h=>?_) fun h=>?_
            ·exact kx 1 (kld 2 0 rfl (K.Ak (K.drop (kx 3 (Ad (C2 ⟨gr,gr,gr,gr,gr,gb (Ap h),trivial⟩))))))
            ·exact kx 5 (Ad (K.Ak (K.drop (C2 ⟨gr,gr,gr,gr,gr,gb (Ap h),trivial⟩))))
          ·skip
           refine ksr (kx 1 (Ad ?_))
           refine AF h (fun h=>?_) fun h=>?_
           ·refine ksr (CE 0 0 2 rfl (knp #[iv 0,nS] 83 fun M9=>(AQ 0 2 #[iv DB.1,Aa Ka DB.2.1 Kn] (Ad ?_))))
            obtain ⟨Va,A8v,h⟩:=CG h
            refine CH (τ:=Int×(List Int)×Ar×Nat) (fun t=>[(0,Aa Ej a0 Eo),(3,Aa Fh Hl k19),(4,Aa A23 Eg k24),(5,pt b12),(7,iv x27),(8,pt b59),(9,pt K8),(11,iv Ei.1),(13,pt M9)]) (fun t=>bk M9 #[iv t.1,Aa t.2.2.1 t.2.1 t.2.2.2] 83 :: bk K8 #[iv DB.1,Aa Ka DB.2.1 Kn] 83 :: h91 :: h87 :: h79 :: bk b59 #[iv x55.1,iv x55.2.1,iv x55.2.2.1,iv x55.2.2.2] 48 :: bk b12 #[iv x63,Aa Jo HZ Jw] 83 :: X) (fun t=>Va t.1 t.2.1=some r∧Bf (encI .i64) 1 h91 (Aa t.2.2.1 t.2.1 t.2.2.2) t.2.1) ?_ ?_
            ·rintro ⟨RO,QL,RW,Tg⟩ ⟨h,W1⟩
             subst A8v
             refine Bz (bnd h fun Nj YM h=>?_)
             refine Gr [(0,Aa Ej a0 Eo),(3,Aa Fh Hl k19),(4,Aa A23 Eg k24),(5,pt b12),(7,iv x27),(8,pt b59),(9,pt K8),(11,iv Ei.1),(13,pt M9),(133,bv Nj)] (bk M9 #[iv RO,Aa RW QL Tg] 83 :: bk K8 #[iv DB.1,Aa Ka DB.2.1 Kn] 83 :: h91 :: h87 :: h79 :: bk b59 #[iv x55.1,iv x55.2.1,iv x55.2.2.1,iv x55.2.2.2] 48 :: bk b12 #[iv x63,Aa Jo HZ Jw] 83 :: X) ?_ ?_
             ·clear YM
              refine AF h (fun h=>?_) fun h=>?_
              ·refine ksr (kx 1 (Ad (Cr (CZ (CZ (DK (CZ (CZ (DK (CZ ?_))))))))))
               obtain rfl:=Ap h
               exact K.drop (K.drop (K.drop (K.drop (K.drop (K.drop (K.drop (kdn rfl)))))))
              ·refine Bt (AB (Bc (kx 4 (CE 0 0 2 rfl (K.drop (bnd h fun Xo Bfh h=>(Aad (T:=83) (kd:=.i64) rfl (by kernel_rfl) (by kernel_rfl) (by kernel_rfl) (by kernel_rfl) (by kernel_rfl) (by kernel_rfl) Bfh NV fun Byz Agx Ao9 At1 e128 Btz=>(K.mv3 (bnd h fun Lz Anl h=>(Aru (N:=RO) (m:=QL) (A1:=RW) (c1:=Tg) rfl (by kernel_rfl) (by kernel_rfl) (by kernel_rfl) (by kernel_rfl) (by kernel_rfl) Btz NV W1 Anl fun Qv Abq=>?_))))))))))
               have Qs:=GH Anl
               refine K.weak (env':=[(0,Aa Ej a0 Eo),(3,Aa Fh Lz k19),(4,Aa A23 Eg k24),(5,pt b12),(7,iv x27),(8,pt b59),(9,pt K8),(136,Aa A23 Eg k24),(137,iv Ei.1),(138,.agg #[iv RO,Aa RW QL Tg])]) ?_ ⟨(by first | rfl | (unfold Aa;rw [Qs];rfl)),(by first | rfl | (unfold Aa;rw [Qs];rfl)),(by first | rfl | (unfold Aa;rw [Qs];rfl)),gr,gr,gr,gr,(by first | rfl | (unfold Aa;rw [Qs];rfl)),gr,(by first | rfl | (unfold Aa;rw [Qs];rfl)),trivial⟩
               refine K.eq (l':=Qv :: bk K8 #[iv DB.1,Aa Ka DB.2.1 Kn] 83 :: h91 :: h87 :: bk b59 #[iv x55.1,iv x55.2.1,iv x55.2.2.1,iv x55.2.2.2] 48 :: bk b12 #[iv x63,Aa Jo HZ Jw] 83 :: X) rfl (by first | rfl | (unfold Aa;rw [Qs];first | done | rfl)) (bnd h fun Hf Ta h=>(F8 (T:=4) (kd:=.i64) N7 rfl Ta (Ah.rd o88) fun Ac1 Qn Agm=>?_))
               have Qn:Elem _ Ac1 [bv Hf]:=Qn
               refine K.mv3 (bnd h fun Mb Ano h=>(JA (v:=bv true) (off:=0) (x':=true) N7 rfl (by kernel_rfl) (by kernel_rfl) (by kernel_rfl) (by kernel_rfl) (by kernel_rfl) Agm o88 Ta (by kernel_rfl) (by kernel_rfl) Ano fun Al3 Abr=>?_))
               have V6:=GH Ano
               refine K.weak (env':=[(0,Aa Ej a0 Eo),(3,Aa Fh Lz k19),(4,Aa A23 Mb k24),(5,pt b12),(7,iv x27),(8,pt b59),(9,pt K8)]) ?_ ⟨(by first | rfl | (unfold Aa;rw [V6];rfl)),(by first | rfl | (unfold Aa;rw [V6];rfl)),(by first | rfl | (unfold Aa;rw [V6];rfl)),gr,gr,gr,gr,trivial⟩
               exact K.eq (l':=Al3 :: Qv :: bk K8 #[iv DB.1,Aa Ka DB.2.1 Kn] 83 :: h91 :: bk b59 #[iv x55.1,iv x55.2.1,iv x55.2.2.1,iv x55.2.2.2] 48 :: bk b12 #[iv x63,Aa Jo HZ Jw] 83 :: X) rfl (by first | rfl | (unfold Aa;rw [V6];first | done | rfl)) (Ad (K.Ao (K.mv5 (K.mv5 (K.mv5 (K.mv5 (AV (Lz,Mb,Qv,Fh,k19,Al3,A23,k24) ⟨h,Abq,Abr⟩ sb rfl)))))))
             ·have h:=YM
              clear YM
              refine kpr [(0,0),(1,0),(2,0),(3,0),(4,0),(5,0),(6,0),(7,0),(8,0),(9,0),(10,0),(11,0),(12,3),(13,0),(14,0),(15,0),(16,0),(17,3),(18,3)] [0,3,4] (Ax 3 ?_)
              refine Dw 113 h (fun h=>?_) fun h=>?_
              ·exact Ax 9 (GW (by kernel_rfl) (by kernel_rfl) (Ax 4 (GW (by kernel_rfl) (by kernel_rfl) (GW (by kernel_rfl) (by kernel_rfl) (BY (kx 4 (Ad (C2 ⟨gr,gr,gr,gr,gr,gr,gr,gr,gr,gb (Ap h),trivial⟩))))))))
              ·refine Ax 6 ?_
               refine Dw 119 h (fun h=>?_) fun h=>?_
               ·exact Ax 3 (GW (by kernel_rfl) (by kernel_rfl) (Ax 4 (GW (by kernel_rfl) (by kernel_rfl) (GW (by kernel_rfl) (by kernel_rfl) (BY (kx 4 (Ad (C2 ⟨gr,gr,gr,gr,gr,gr,gr,gr,gr,gb (Ap h),trivial⟩))))))))
               ·refine Ax 2 (bnd h fun Nu Bfo h=>(QK (T:=4) (kd:=.i64) N7 rfl Bfo (Ah.rd o88) fun Bn7 X_ y150=>?_))
                have X_:Elem _ Bn7 [bv Nu]:=X_
                refine Pk rfl (by kernel_rfl) (by kernel_rfl) (by kernel_rfl) (by kernel_rfl) X_ (fun w h_=>h_.mem _ (.tail _ (.head _))) (Ax 1 ?_)
                refine Dw 124 h (fun h=>?_) fun h=>?_
                ·exact Ax 2 (bnd h fun x152 hx152 h=>(Ar0 (T:=83) (kd:=.i64) rfl (by kernel_rfl) (by kernel_rfl) (by kernel_rfl) (by kernel_rfl) (by kernel_rfl) (by kernel_rfl) hx152 NV fun By4 Bur Bxr Blo e154 Bz6=>(IM rfl e154 (fun w h_=>h_.mem _ (.tail _ (.tail _ (.head _)))) (Gt 0 0 2 rfl (BY (bnd h fun Mm Bco h=>(FN (Gu.ok Bco Blo W1) ⟨(.tail _ (.tail _ (.head _))),(.tail _ (.tail _ (.head _))),trivial⟩ (kx 3 (Ad (C2 ⟨gr,gr,gr,gr,gr,gr,gr,gr,gr,gb (Ap h),trivial⟩))))))))))
                ·exact Ax 3 (GW (by kernel_rfl) (by kernel_rfl) (GW (by kernel_rfl) (by kernel_rfl) (BY (kx 4 (Ad (C2 ⟨gr,gr,gr,gr,gr,gr,gr,gr,gr,gb (Ap h),trivial⟩))))))
            ·skip
             refine bnd h fun TZ YN h=>?_
             refine Gr [(0,Aa Ej a0 Eo),(3,Aa Fh Hl k19),(4,Aa A23 Eg k24),(5,pt b12),(7,iv x27),(8,pt b59),(9,pt K8),(11,iv Ei.1),(13,pt M9),(109,bv TZ)] (bk M9 #[iv DB.1,Aa Ka DB.2.1 Kn] 83 :: bk K8 #[iv DB.1,Aa Ka DB.2.1 Kn] 83 :: h91 :: h87 :: h79 :: bk b59 #[iv x55.1,iv x55.2.1,iv x55.2.2.1,iv x55.2.2.2] 48 :: bk b12 #[iv x63,Aa Jo HZ Jw] 83 :: X) ?_ ?_
             ·clear YN
              refine AF h (fun h=>?_) fun h=>?_
              ·exact Bc (CE 6 0 2 rfl (AQ 0 2 #[iv x63,Aa Jo HZ Jw] (Ad (AV (x63,HZ,Jo,Jw) ⟨h,o98⟩ sb rfl))))
              ·exact Bt (AB (AV (DB.1,DB.2.1,Ka,Kn) ⟨h,o96⟩ sb rfl))
             ·have h:=YN
              clear YN
              refine Bc (kx 1 (kld 5 0 rfl (kx 2 ?_)))
              refine Dw 105 h (fun h=>?_) fun h=>?_
              ·exact kx 4 (Ad (C2 ⟨gr,gr,gr,gr,gr,gr,gr,gr,gr,gb (Ap h),trivial⟩))
              ·exact kx 1 (kld 5 0 rfl (kx 2 (Ad (C2 ⟨gr,gr,gr,gr,gr,gr,gr,gr,gr,gb (Ap h),trivial⟩))))
           ·exact Bt (AB (K.Ak (K.mv3 (K.mv5 (K.mv5 (K.mv5 (K.mv5 (AV (Hl,Eg,h79,Fh,k19,h87,A23,k24) ⟨h,NV,o88⟩ sb rfl))))))))
       ·skip
        refine bnd h fun P6 YO h=>?_
        refine Gr [(0,Aa Ej a0 Eo),(3,Aa Fh IP k19),(4,Aa A23 l21 k24),(5,pt b12),(6,bv x26),(7,iv x27),(8,pt b59),(73,bv P6)] (bk b59 #[iv x55.1,iv x55.2.1,iv x55.2.2.1,iv x55.2.2.2] 48 :: bk b12 #[iv x28,Aa Io l29 k32] 83 :: h15 :: h17 :: h22 :: X) ?_ ?_
        ·clear YO
         refine AF h (fun h=>?_) fun h=>?_
         ·refine Bc (kx 2 (bnd h fun JZ Z2 h=>(Aad (T:=83) (kd:=.i64) rfl (by kernel_rfl) (by kernel_rfl) (by kernel_rfl) (by kernel_rfl) (by kernel_rfl) (by kernel_rfl) Z2 o20 fun Bob RY Ti Re e167 y168=>(E8 rfl e167 (.tail _ (.tail _ (.tail _ (.head _)))) (K.Ao (AQ 0 2 #[iv JZ.1,Aa RY JZ.2 Ti] (kx 1 (Ad (K.Bq (K.Bq ?_))))))))))
          exact K.Bq (K.mv3 (K.Bq (AV (true,JZ.1,JZ.2,RY,Ti) ⟨h,Re⟩ sb rfl)))
         ·exact Bt (AB (AV (x26,x28,l29,Io,k32) ⟨h,Kq⟩ sb rfl))
        ·have h:=YO
         clear YO
         refine Bc (kx 3 ?_)
         refine Dw 68 h (fun h=>?_) fun h=>?_
         ·refine kx 2 (bnd h fun Mw Z3 h=>(F8 (T:=4) (kd:=.i64) N7 rfl Z3 (Ah.rd F9) fun Aun Sw Bt4=>?_))
          have Sw:Elem _ Aun [bv Mw]:=Sw
          exact Hk rfl (by kernel_rfl) (by kernel_rfl) (by kernel_rfl) (by kernel_rfl) Sw (.tail _ (.tail _ (.tail _ (.tail _ (.head _))))) (kx 1 (Ad (C2 ⟨gr,gr,gr,gr,gr,gr,gr,gb (Ap h),trivial⟩)))
         ·exact kx 5 (Ad (C2 ⟨gr,gr,gr,gr,gr,gr,gr,gb (Ap h),trivial⟩))
     ·have h:=YU
      clear YU
      refine kpr [(0,0),(1,0),(2,0),(3,0),(4,0),(5,3),(6,0),(7,0),(8,3),(9,0),(10,0),(11,0),(12,3)] [1,3,4] (Ax 2 ?_)
      refine Dw 32 h (fun h=>?_) fun h=>?_
      ·refine Ax 2 (bnd h fun Agh Bfr h=>(QK (T:=4) (kd:=.i64) N7 rfl Bfr (Ah.rd F9) fun Ac2 O3 Bt5=>?_))
       have O3:Elem _ Ac2 [bv Agh]:=O3
       refine Pk rfl (by kernel_rfl) (by kernel_rfl) (by kernel_rfl) (by kernel_rfl) O3 (fun w h_=>h_.mem _ (.tail _ (.tail _ (.head _)))) (Ax 2 ?_)
       refine Dw 38 h (fun h=>?_) fun h=>?_
       ·refine Gt 0 0 2 rfl (Ax 2 (bnd h fun Agi Bfu h=>(Ar0 (T:=83) (kd:=.i64) rfl (by kernel_rfl) (by kernel_rfl) (by kernel_rfl) (by kernel_rfl) (by kernel_rfl) (by kernel_rfl) Bfu o20 fun By6 Buy Bxv Blx e185 B0c=>(IM rfl e185 (fun w h_=>h_.mem _ (.tail _ (.head _))) (BY (bnd h fun WU Bcw h=>(FN (Gu.ok Bcw Kq Blx) ⟨(.tail _ (.tail _ (.head _))),(.tail _ (.tail _ (.head _))),trivial⟩ (kx 3 ?_))))))))
        refine Dw 47 h (fun h=>?_) fun h=>?_
        ·exact kx 18 (Ad (C2 ⟨gr,gr,gr,gr,gr,gr,gr,gb (Ap h),trivial⟩))
        ·refine kx 2 ?_
         refine Dw 49 h (fun h=>?_) fun h=>?_
         ·refine kx 1 (kld 0 0 rfl (kx 3 ?_))
          refine Dw 54 h (fun h=>?_) fun h=>?_
          ·refine kx 1 (kld 1 0 rfl (kx 2 ?_))
           refine Dw 58 h (fun h=>?_) fun h=>?_
           ·exact kx 7 (Ad (C2 ⟨gr,gr,gr,gr,gr,gr,gr,gb (Ap h),trivial⟩))
           ·exact kx 1 (kld 1 1 rfl (kx 5 (Ad (C2 ⟨gr,gr,gr,gr,gr,gr,gr,gb (Ap h),trivial⟩))))
          ·exact kx 11 (Ad (C2 ⟨gr,gr,gr,gr,gr,gr,gr,gb (Ap h),trivial⟩))
         ·exact kx 16 (Ad (C2 ⟨gr,gr,gr,gr,gr,gr,gr,gb (Ap h),trivial⟩))
       ·refine GW (by kernel_rfl) (by kernel_rfl) (Ax 3 (GW (by kernel_rfl) (by kernel_rfl) (BY (kx 6 ?_))))
        refine Dw 49 h (fun h=>?_) fun h=>?_
        ·refine kx 1 (kld 0 0 rfl (kx 3 ?_))
         refine Dw 54 h (fun h=>?_) fun h=>?_
         ·refine kx 1 (kld 1 0 rfl (kx 2 ?_))
          refine Dw 58 h (fun h=>?_) fun h=>?_
          ·exact kx 7 (Ad (C2 ⟨gr,gr,gr,gr,gr,gr,gr,gb (Ap h),trivial⟩))
          ·exact kx 1 (kld 1 1 rfl (kx 5 (Ad (C2 ⟨gr,gr,gr,gr,gr,gr,gr,gb (Ap h),trivial⟩))))
         ·exact kx 11 (Ad (C2 ⟨gr,gr,gr,gr,gr,gr,gr,gb (Ap h),trivial⟩))
        ·exact kx 16 (Ad (C2 ⟨gr,gr,gr,gr,gr,gr,gr,gb (Ap h),trivial⟩))
      ·refine Ax 3 (GW (by kernel_rfl) (by kernel_rfl) (Ax 2 (GW (by kernel_rfl) (by kernel_rfl) (Ax 3 (GW (by kernel_rfl) (by kernel_rfl) (BY (kx 6 ?_)))))))
       refine Dw 49 h (fun h=>?_) fun h=>?_
       ·refine kx 1 (kld 0 0 rfl (kx 3 ?_))
        refine Dw 54 h (fun h=>?_) fun h=>?_
        ·refine kx 1 (kld 1 0 rfl (kx 2 ?_))
         refine Dw 58 h (fun h=>?_) fun h=>?_
         ·exact kx 7 (Ad (C2 ⟨gr,gr,gr,gr,gr,gr,gr,gb (Ap h),trivial⟩))
         ·exact kx 1 (kld 1 1 rfl (kx 5 (Ad (C2 ⟨gr,gr,gr,gr,gr,gr,gr,gb (Ap h),trivial⟩))))
        ·exact kx 11 (Ad (C2 ⟨gr,gr,gr,gr,gr,gr,gr,gb (Ap h),trivial⟩))
       ·exact kx 16 (Ad (C2 ⟨gr,gr,gr,gr,gr,gr,gr,gb (Ap h),trivial⟩))
   ·exact E6 (CY (CY (E7 (AB (K.drop (K.Ao (K.drop (K.Ao (K.drop (AV h15 h trivial rfl))))))))))
def Ia.l0:Nat→(r3:List (ByteArray×Int×Int×List (Int×Int×ByteArray)×List (Int×Int×Int×Int))×List ByteArray×Int×Int)→(J14:(Unit→Option (Bool)))→(x15:Int)→Option (Bool)
 | 0,_,_,_=>none
 | m16+1,r3,J14,x15=>(cond (decide (x15 < ((r3.1.length:Nat):Int))) (some (r3.2.2.1 == 0)) (some false):Option Bool).bind fun q17=>cond q17 ((AZ r3.1 x15).bind fun x19=>(GX.f m16 x19.2.2.2.2).bind fun r34=>cond (!r34) (some (false)) (Ia.l0 m16 r3 J14 (IntKind.i64.wrap (x15+1)))) (J14 ())
def Ia.f (k:Nat) (a0:ByteArray):Option (Bool):=(Pp.f k).bind fun r1=>cond (!r1) (some (false)) ((Gq.fS k a0).bind fun r3=>BA (fun (_:Unit)=>some (true)) (fun J14=>Ia.l0 k r3 J14 0))
theorem Ia.ok {k:Nat} {a0:ByteArray} {G:Ab} {r:Bool} (h:Ia.f k a0=some r) (hG:E2 G): Ct Tryz.prog 4 #[sv a0] [] [G] (fun e l1=>e=.returned (bv r)∧l1=[]):=by
 refine Cz (args:=[sv a0]) Tryz.func4 rfl (B0 rfl) ?_
 intro A X hh_
 obtain ⟨BU,_⟩:=hh_
 unfold Ia.f at h
 refine ksr (kx 1 (Ad (Bz (ksr (bnd h fun r1 hr1 h=>(FN (Pp.ok hr1 hG) ⟨BU,trivial⟩ (kx 1 (Ad ?_))))))))
 refine AF h (fun h=>?_) fun h=>?_
 ·refine ksr (kx 1 (Ad (Cr (CZ ?_))))
  obtain rfl:=Ap h
  exact kdn rfl
 ·refine Bt (AB (ksr (kx 1 (bnd h fun r3 hr3 h=>(B6 (Gq.okS hr3 hG) rfl ⟨BU,trivial⟩ ?_)))))
  rintro _ _ ⟨h4,A5,k6,h8,A9,k10,o7,GJ,rfl,rfl⟩
  refine Bn (kx 3 (knp #[nS,nS] 25 fun b12=>(knp #[iv 0,iv 0] 28 fun b13=>(K.Ao (AQ 0 2 #[Aa A5 r3.1 k6,Aa A9 r3.2.1 k10] (K.Ao (AQ 0 2 #[iv r3.2.2.1,iv r3.2.2.2] (Ad ?_))))))))
  obtain ⟨J14,I_,h⟩:=CG h
  refine CH (τ:=Unit) (fun t=>[]) (fun t=>X) (fun t=>J14 ()=some r) ?_ ?_
  ·rintro ⟨⟩ h
   subst I_
   refine ksr (kx 1 (Ad (Cr ?_)))
   obtain rfl:=Ap h
   exact kdn rfl
  ·skip
   refine ksr (kx 1 (Ad (Co (EL (τ:=Int) (fun t=>[(3,pt b12),(4,pt b13),(5,iv t)]) (fun t=>bk b13 #[iv r3.2.2.1,iv r3.2.2.2] 28 :: bk b12 #[Aa A5 r3.1 k6,Aa A9 r3.2.1 k10] 25 :: h4 :: h8 :: X) (fun m t=>Ia.l0 m r3 J14 t=some r) k 0 h sb rfl ?_))))
   clear h
   rintro m16 x15 h
   cases m16 with
   | zero=>simp [Ia.l0] at h
   | succ m16 =>
    simp only [Ia.l0] at h
    refine Bz (bnd h fun q17 YP h=>?_)
    refine Gr [(3,pt b12),(4,pt b13),(5,iv x15),(22,bv q17)] (bk b13 #[iv r3.2.2.1,iv r3.2.2.2] 28 :: bk b12 #[Aa A5 r3.1 k6,Aa A9 r3.2.1 k10] 25 :: h4 :: h8 :: X) ?_ ?_
    ·clear YP
     refine AF h (fun h=>?_) fun h=>?_
     ·refine Bt (AB (Bz (Co (ksr (kx 1 (kld 1 0 rfl (kx 1 (bnd h fun x19 Z4 h=>(DL (T:=41) (kd:=.i64) (R:=D4) rfl Z4 (AL.rd o7) fun p20 u23 q24 e21 y22=>?_)))))))))
      obtain ⟨A25,k26,A28,k29,rfl,JF,L4⟩:=Aea q24
      refine GV (off:=4) rfl e21 y22 fun p31 e32 y33=>?_
      have e32:Elem _ p31 [Aa A28 x19.2.2.2.2 k29]:=e32
      refine Hk rfl (by kernel_rfl) (by kernel_rfl) (by kernel_rfl) (by kernel_rfl) e32 (.tail _ (.tail _ (.head _))) (bnd h fun r34 SR h=>(FN (GX.ok SR L4) ⟨(.tail _ (.tail _ (.head _))),trivial⟩ (kx 1 (Ad ?_))))
      refine AF h (fun h=>?_) fun h=>?_
      ·refine ksr (kx 1 (Ad (Cr (DK (CZ (CZ (DK (CZ ?_))))))))
       obtain rfl:=Ap h
       exact K.drop (K.drop (K.drop (K.drop (kdn rfl))))
      ·exact Bt (Bo (AB (Bc (kx 3 (Ad (Ea m16 (IntKind.i64.wrap (x15+1)) (Nat.lt_succ_self _) h sb rfl))))))
     ·exact E6 (CY (CY (E7 (AB (K.drop (K.drop (K.drop (K.drop (AV () h trivial rfl)))))))))
    ·have h:=YP
     clear YP
     refine Bc (kx 2 (kld 1 0 rfl (kx 3 ?_)))
     refine Dw 18 h (fun h=>?_) fun h=>?_
     ·exact kx 1 (kld 0 0 rfl (kx 2 (Ad (C2 ⟨gr,gr,gr,gb (Ap h),trivial⟩))))
     ·exact kx 4 (Ad (C2 ⟨gr,gr,gr,gb (Ap h),trivial⟩))
end
section
open Go Go.RowKit Lx
theorem Bg4 {z:Ins} (m:Nat):∃ t y,NP.f m z.1 z.2.1 z.2.2.1 z.2.2.2=some (t,y)∧(y=true→MT z=some t):=by
 unfold NP.f BA MT
 by_cases h18:z.1=18
 ·rw [eqC h18,if_pos (.inl h18)];exact ⟨_,_,rfl,fun _=>rfl⟩
 by_cases h19:z.1=19
 ·rw [Dm h18,eqC h19,if_pos (.inr (.inl h19))];exact ⟨_,_,rfl,fun _=>rfl⟩
 by_cases h20:z.1=20
 ·rw [Dm h18,Dm h19,eqC h20,if_pos (.inr (.inr (.inl h20)))];exact ⟨_,_,rfl,fun _=>rfl⟩
 by_cases h21:z.1=21
 ·rw [Dm h18,Dm h19,Dm h20,eqC h21,if_pos (.inr (.inr (.inr h21)))];exact ⟨_,_,rfl,fun _=>rfl⟩
 rw [if_neg (by omega)]
 by_cases h30:z.1=30
 ·rw [Dm h18,Dm h19,Dm h20,Dm h21,eqC h30,if_pos (.inl h30)];exact ⟨_,_,rfl,fun _=>rfl⟩
 by_cases h31:z.1=31
 ·rw [Dm h18,Dm h19,Dm h20,Dm h21,Dm h30,eqC h31,if_pos (.inr (.inl h31))];exact ⟨_,_,rfl,fun _=>rfl⟩
 by_cases h33:z.1=33
 ·rw [Dm h18,Dm h19,Dm h20,Dm h21,Dm h30,Dm h31,eqC h33,if_pos (.inr (.inr h33))];exact ⟨_,_,rfl,fun _=>rfl⟩
 ·rw [Dm h18,Dm h19,Dm h20,Dm h21,Dm h30,Dm h31,Dm h33];exact ⟨_,_,rfl,fun h=>by cases h⟩
theorem Awi (J:Unit→Option Bool):∀ (t pre:List Int) (m:Nat),pre.length+t.length≤1000000→t.length < m→Gu.l0 m (pre++t) (pre++t) J (pre.length:Int)=J ()
 | [],pre,m,hl,hm=>by
  obtain ⟨m,rfl⟩:∃ m',m=m'+1:=⟨m - 1,by omega⟩
  simp only [Gu.l0]
  rw [ltF (by simp),cond_false]
 | x :: t,pre,m,hl,hm=>by
  obtain ⟨m,rfl⟩:∃ m',m=m'+1:=⟨m - 1,by omega⟩
  simp only [AD] at hl hm
  simp only [Gu.l0]
  rw [GY (by simp;omega),cond_true,DT,Aj,Aj,bne_self_eq_false,cond_false,wiC _ (by omega) (by omega)]
  have ih:=Awi J t (pre++[x]) m (by simp;omega) (by omega)
  rw [Cj,AM] at ih
  exact ih
theorem Bqj (k:Nat) (h:Hgt) (hl:h.2.length≤400000) (hk:400001≤k):Gu.f k h.1 h.2 h.1 h.2=some true:=by
 unfold Gu.f
 rw [bne_self_eq_false,bne_self_eq_false,cond_false,Aj,cond_false]
 exact Awi _ h.2 [] k (by simpa using (by omega)) (by omega)
theorem Xj {M:List Int} {n:Int} (hM:(M++[n]).length≤400000):AZ (M++[n]) (IntKind.i64.wrap ((((M++[n]).length:Nat):Int) - (1:Int)))=some n∧D8 (M++[n]) (0:Int) (IntKind.i64.wrap ((((M++[n]).length:Nat):Int) - (1:Int)))=some M∧((((M++[n]).length:Nat):Int) == (0:Int))=false:=by
 have e:(((M++[n]).length:Nat):Int) - 1=(M.length:Int):=by rw [AM,List.length_singleton];omega
 rw [AM,List.length_singleton] at hM
 rw [wiC _ (by omega) (by omega),e]
 refine ⟨DT M n [],?_,Dm (by rw [AM,List.length_singleton];omega)⟩
 rw [Gx (lo:=(0:Int)) (hi:=(M.length:Int)) 0 M.length rfl rfl (Nat.zero_le _) (by simp)]
 simp
set_option maxHeartbeats 4000000 in
theorem A0i (k:Nat) {h h1:Hgt} {z:Ins} (hs:Stp h z h1) (w:okH 400000 h) (w1:okH 400000 h1):NO.f k h.1 h.2 z.1 z.2.1 z.2.2.1 z.2.2.2=some (h1.1,h1.2,true):=by
 have hl:=w.ml
 have h0:=w.lo
 have h2:=w.hi
 have h3:=w1.lo
 have h4:=w1.hi
 unfold NO.f
 rw [Js (by simp only [Be];omega),Aj,List.nil_append]
 have fin:∀ (l:List Int) (x u v R:Int),0≤u→u≤x→0≤v→x≤800000→v≤800000→R=x - u+v→cond (decide (x < u)) (some (h.1,h.2,false)) (some (IntKind.i64.wrap ((IntKind.i64.wrap (x - u))+v),l,true))=some (R,l,true):=fun l x u v R a b c d e f=>by
  have e1:=wiC (x - u) (by omega) (by omega)
  have e2:=wiC (x - u+v) (by omega) (by omega)
  rw [ltF (by omega),cond_false,e1,e2,f]
 cases hs with
 | fix he hn =>
  rename_i N M op a b c u v
  simp only at *
  unfold Sy at he
  split at he
  ·rename_i ho
   cases he
   rcases ho with rfl | rfl | rfl | rfl | rfl | rfl | rfl | rfl | rfl | rfl <;> exact fin M N 0 1 _ (by decide) (by omega) (by decide) (by omega) (by decide) rfl
  split at he
  ·rename_i ho
   cases he
   rcases ho with rfl | rfl | rfl | rfl | rfl <;> exact fin M N 1 0 _ (by decide) (by omega) (by decide) (by omega) (by decide) rfl
  split at he
  ·rename_i ho
   cases he
   rcases ho with rfl | rfl <;> exact fin M N 2 1 _ (by decide) (by omega) (by decide) (by omega) (by decide) rfl
  split at he
  ·rename_i ho
   cases he
   subst ho
   exact fin M N 1 1 _ (by decide) (by omega) (by decide) (by omega) (by decide) rfl
  split at he
  ·rename_i ho
   cases he
   subst ho
   exact fin M N 2 0 _ (by decide) (by omega) (by decide) (by omega) (by decide) rfl
  split at he
  ·rename_i ho
   cases he
   subst ho
   exact fin M N 3 0 _ (by decide) (by omega) (by decide) (by omega) (by decide) rfl
  split at he
  ·rename_i ho
   cases he
   rcases ho with rfl | rfl | rfl | rfl | rfl <;> exact fin M N 0 0 _ (by decide) (by omega) (by decide) (by omega) (by decide) rfl
  ·cases he
 | popA ho ha hn =>
  rename_i N M op a b c
  simp only at *
  have:=fin M N a 0 (N - a) ha hn (by decide) (by omega) (by decide) (by omega)
  rcases ho with rfl | rfl <;> exact this
 | forP hc hn =>
  rename_i N M a b c
  simp only at *
  have:=fin M N (2+c) 0 (N - (2+c)) (by omega) hn (by decide) (by omega) (by decide) (by omega)
  have e:IntKind.i64.wrap ((2:Int)+c)=2+c:=wiC _ (by omega) (by omega)
  refine Eq.trans ?_ this
  show cond (decide (N < IntKind.i64.wrap ((2:Int)+c))) _ (some (IntKind.i64.wrap ((IntKind.i64.wrap (N - IntKind.i64.wrap ((2:Int)+c)))+0),M,true))=_
  rw [e]
 | inN hc hn =>
  rename_i N M a b c
  simp only at *
  have:=fin M N c 0 (N - c) hc hn (by decide) (by omega) (by decide) (by omega)
  exact this
 | mark =>
  rename_i N M a b c
  simp only at *
  have:=fin (M++[N]) N 0 0 N (by decide) (by omega) (by decide) (by omega) (by decide) (by omega)
  refine Eq.trans ?_ this
  show (apd 8 M [N]).bind _=_
  rw [Js (by simp only [List.length_singleton];omega)]
  rfl
 | adj ha hn =>
  rename_i N n M a b c
  simp only at *
  obtain ⟨e1,e2,e3⟩:=Xj hl
  have:=fin M n 0 a (n+a) (by decide) hn ha (by omega) (by omega) (by omega)
  refine Eq.trans ?_ this
  show cond _ _ ((AZ _ _).bind fun x53=>(D8 _ _ _).bind _)=_
  rw [e3,cond_false,e1,Aj,e2,Aj]
  rfl
 | call hn =>
  rename_i N n M a b c
  simp only at *
  obtain ⟨e1,e2,e3⟩:=Xj hl
  have hm:(if (0:Int) > a then (0:Int) else a)=max a 0:=by split <;> omega
  have:=fin M n 1 (max a 0) _ (by decide) hn (by omega) (by omega) (by omega) rfl
  refine Eq.trans ?_ this
  show cond _ _ ((AZ _ _).bind fun x53=>(D8 _ _ _).bind _)=_
  rw [e3,cond_false,e1,Aj,e2,Aj,← hm]
  rfl
 | ret hn =>
  rename_i N n M a b c
  simp only at *
  obtain ⟨e1,e2,e3⟩:=Xj hl
  have:=fin M n 0 0 n (by decide) hn (by decide) (by omega) (by decide) (by omega)
  refine Eq.trans ?_ this
  show cond _ _ ((AZ _ _).bind fun x53=>(D8 _ _ _).bind _)=_
  rw [e3,cond_false,e1,Aj,e2,Aj]
  rfl
 | rest hn =>
  rename_i N n M a b c
  simp only at *
  obtain ⟨e1,e2,e3⟩:=Xj hl
  have:=fin M n 0 0 n (by decide) hn (by decide) (by omega) (by decide) (by omega)
  refine Eq.trans ?_ this
  show cond _ _ ((AZ _ _).bind fun x53=>(D8 _ _ _).bind _)=_
  rw [e3,cond_false,e1,Aj,e2,Aj]
  rfl
structure X5 (code:Cd) (g:Nat→Hgt):Prop where
 zero:g 0=z0
 all:∀ k z,code[k]? = some z→∃ h1,Stp (g k) z h1∧okH 400000 (g k)∧okH 400000 h1∧(z.1=1→g k=z0)∧(z.1≠18→z.1≠25→k+1 < code.length→g (k+1)=h1)∧∀ t,MT z=some t→∃ m:Nat,t=m∧m < code.length∧g m=hTo z (g k) h1
structure Sk (code:Cd) (g:Nat→Hgt) (A:List Hgt) (K:List Bool):Prop where
 la:A.length=code.length
 lk:K.length=code.length
 eq:∀ j,K[j]? = some true→A[j]? = some (g j)
theorem Sk.set {code:Cd} {g:Nat→Hgt} {A:List Hgt} {K:List Bool} (h:Sk code g A K) (m:Nat) (hm:m < code.length) {y:Hgt} (hy:y=g m):Du A (m:Int) y=some (A.set m y)∧Du K (m:Int) true=some (K.set m true)∧Sk code g (A.set m y) (K.set m true):=by
 have ha:=h.la
 have hk:=h.lk
 refine ⟨?_,?_,⟨by simp [ha],by simp [hk],fun j hj=>?_⟩⟩
 ·unfold Du
  rw [decide_eq_true (by omega),cond_true,Int.toNat_natCast]
 ·unfold Du
  rw [decide_eq_true (by omega),cond_true,Int.toNat_natCast]
 ·rw [List.getElem?_set] at hj ⊢
  by_cases e:m=j
  ·subst e
   rw [if_pos rfl,if_pos (by omega),hy]
  ·rw [if_neg e] at hj ⊢
   exact h.eq j hj
theorem TC {α:Type} {l:List α} {i:Nat} {x:α} (h:l[i]? = some x):AZ l (i:Int)=some x:=by
 unfold AZ
 rw [if_pos (by omega),Int.toNat_natCast,h]
theorem Ai7 {code:Cd} {g:Nat→Hgt} (hB:X5 code g) (J:Unit→Option Bool):∀ (n k:Nat) (A:List Hgt) (K:List Bool) (live:Bool) (h:Hgt) (m:Nat),code.length - k≤n→k≤code.length→code.length≤1000000→400002+n≤m→Sk code g A K→(live=true→k < code.length→h=g k) →
  GX.l0 m code J A K live (k:Int) h.1 h.2=J ()
 | n,k,A,K,live,h,m,hn,hk,hc,hm,hI,hl=>by
  obtain ⟨m,rfl⟩:∃ m',m=m'+1:=⟨m - 1,by omega⟩
  simp only [GX.l0]
  by_cases hge:code.length≤k
  ·rw [ltF (by omega),cond_false]
  have hlt:k < code.length:=by omega
  obtain ⟨n,rfl⟩:∃ n',n=n'+1:=⟨n - 1,by omega⟩
  have ih:=fun A K live h=>Ai7 hB J n (k+1) A K live h m (by omega) (by omega) hc (by omega)
  obtain ⟨z,hz⟩:∃ z,code[k]? = some z:=⟨_,List.getElem?_eq_getElem hlt⟩
  obtain ⟨h1,s1,s2,s3,s4,s5,s6⟩:=hB.all k z hz
  have hka:k < A.length:=by rw [hI.la];exact hlt
  have hkk:k < K.length:=by rw [hI.lk];exact hlt
  obtain ⟨a,ha⟩:∃ a,A[k]? = some a:=⟨_,List.getElem?_eq_getElem hka⟩
  obtain ⟨b,hb⟩:∃ b,K[k]? = some b:=⟨_,List.getElem?_eq_getElem hkk⟩
  have hab:b=true→a=g k:=fun e=>by
   have:=hI.eq k (by rw [hb,e])
   rw [ha] at this
   exact Ap this
  have same:∀ h:Hgt,okH 400000 h→Gu.f m h.1 h.2 h.1 h.2=some true:=fun h w=>Bqj m h w.ml (by omega)
  rw [GY (by omega),cond_true]
  dsimp only [BA]
  rw [TC hz,Aj,TC ha,TC hb]
  simp only [Aj]
  -- what a live instruction does
  have go:(Du A (k:Int) ((g k).1,(g k).2)).bind (fun Hl=>(Du K (k:Int) true).bind fun Eg=>(NO.f m (g k).1 (g k).2 z.1 z.2.1 z.2.2.1 z.2.2.2).bind fun DB=>cond (!DB.2.2) (some (false)) ((NP.f m z.1 z.2.1 z.2.2.1 z.2.2.2).bind fun Ei=>cond Ei.2 (((cond (z.1 == (20:Int)) (some true) (some (z.1 == (21:Int))):Option Bool).bind fun TZ=>cond TZ (((cond (decide (Ei.1 < (0:Int))) (some true) (cond (decide (Ei.1 ≥ ((code.length:Nat):Int))) (some true) ((AZ Eg Ei.1).bind fun Nu=>cond Nu ((AZ Hl Ei.1).bind fun x152=>(Gu.f m x152.1 x152.2 (g k).1 (g k).2).bind fun Mm=>some (!Mm)) (some false))):Option Bool).bind fun Nj=>cond Nj (some (false)) ((AZ Hl Ei.1).bind fun Xo=>(Du Hl Ei.1 ((g k).1,(g k).2)).bind fun Lz=>(AZ Eg Ei.1).bind fun Hf=>(Du Eg Ei.1 true).bind fun Mb=>(cond (z.1 != (18:Int)) (some (z.1 != (25:Int))) (some false):Option Bool).bind fun JJ=>GX.l0 m code J Lz Mb JJ (IntKind.i64.wrap ((k:Int)+(1:Int))) DB.1 DB.2.1)))
    (((cond (decide (Ei.1 < (0:Int))) (some true) (cond (decide (Ei.1 ≥ ((code.length:Nat):Int))) (some true) ((AZ Eg Ei.1).bind fun Nu=>cond Nu ((AZ Hl Ei.1).bind fun x152=>(Gu.f m x152.1 x152.2 DB.1 DB.2.1).bind fun Mm=>some (!Mm)) (some false))):Option Bool).bind fun Nj=>cond Nj (some (false)) ((AZ Hl Ei.1).bind fun Xo=>(Du Hl Ei.1 (DB.1,DB.2.1)).bind fun Lz=>(AZ Eg Ei.1).bind fun Hf=>(Du Eg Ei.1 true).bind fun Mb=>(cond (z.1 != (18:Int)) (some (z.1 != (25:Int))) (some false):Option Bool).bind fun JJ=>GX.l0 m code J Lz Mb JJ (IntKind.i64.wrap ((k:Int)+(1:Int))) DB.1 DB.2.1))))) ((cond (z.1 != (18:Int)) (some (z.1 != (25:Int))) (some false):Option Bool).bind fun JJ=>GX.l0 m code J Hl Eg JJ (IntKind.i64.wrap ((k:Int)+(1:Int))) DB.1 DB.2.1)))=J ():=by
   obtain ⟨q1,q2,hI1⟩:=hI.set k hlt (y:=g k) rfl
   rw [show ((g k).1,(g k).2)=g k from rfl,q1,q2,Aj,Aj,A0i m s1 s2 s3,Aj]
   obtain ⟨t,y,j1,j2⟩:=Bg4 (z:=z) m
   simp only [Bool.not_true,cond_false]
   rw [j1,Aj]
   -- the next round
   have next:∀ (A:List Hgt) (K:List Bool),Sk code g A K→((cond (z.1 != (18:Int)) (some (z.1 != (25:Int))) (some false):Option Bool).bind fun JJ=>GX.l0 m code J A K JJ (IntKind.i64.wrap ((k:Int)+(1:Int))) h1.1 h1.2)=J ():=fun A K hI=>by
    obtain ⟨q,hq,hq2⟩:∃ q,(cond (z.1 != (18:Int)) (some (z.1 != (25:Int))) (some false):Option Bool)=some q∧(q=true→z.1≠18∧z.1≠25):=by
     by_cases h18:z.1=18
     ·exact ⟨false,by rw [h18];rfl,fun h=>by cases h⟩
     ·refine ⟨z.1 != 25,?_,fun h=>⟨h18,by simpa using h⟩⟩
      rw [show (z.1 != 18)=true by simpa using h18,cond_true]
    rw [hq,Aj,wiC _ (by omega) (by omega),show (k:Int)+1=((k+1:Nat):Int) by omega]
    exact ih A K q h1 hI fun e hk1=>(s5 (hq2 e).1 (hq2 e).2 hk1).symm
   cases y with
   | false=>simp only [cond_false];exact next _ _ hI1
   | true =>
    obtain ⟨w,rfl,hw1,hw2⟩:=s6 t (j2 rfl)
    simp only [cond_true]
    have hop:∃ q,(cond (z.1 == (20:Int)) (some true) (some (z.1 == (21:Int))):Option Bool)=some q∧hTo z (g k) h1=if q=true then g k else h1:=by
     unfold hTo
     by_cases h20:z.1=20
     ·exact ⟨true,by rw [h20];rfl,by rw [if_pos (.inl h20),if_pos rfl]⟩
     ·refine ⟨z.1 == 21,by rw [Dm h20,cond_false],?_⟩
      by_cases h21:z.1=21
      ·rw [if_pos (.inr h21),if_pos (by simpa using h21)]
      ·rw [if_neg (by omega),if_neg (by simpa using h21)]
    obtain ⟨q,hq,hq2⟩:=hop
    rw [hq,Aj]
    have fin:∀ y:Hgt,y=g w→(((cond (decide ((w:Int) < (0:Int))) (some true) (cond (decide ((w:Int) ≥ ((code.length:Nat):Int))) (some true) ((AZ (K.set k true) (w:Int)).bind fun Nu=>cond Nu ((AZ (A.set k (g k)) (w:Int)).bind fun x152=>(Gu.f m x152.1 x152.2 y.1 y.2).bind fun Mm=>some (!Mm)) (some false))):Option Bool).bind fun Nj=>cond Nj (some (false)) ((AZ (A.set k (g k)) (w:Int)).bind fun Xo=>(Du (A.set k (g k)) (w:Int) (y.1,y.2)).bind fun Lz=>(AZ (K.set k true) (w:Int)).bind fun Hf=>(Du (K.set k true) (w:Int) true).bind fun Mb=>(cond (z.1 != (18:Int)) (some (z.1 != (25:Int))) (some false):Option Bool).bind fun JJ=>GX.l0 m code J Lz Mb JJ (IntKind.i64.wrap ((k:Int)+(1:Int))) h1.1 h1.2)))=J ():=fun y hy=>by
     have wa:w < (A.set k (g k)).length:=by rw [hI1.la];exact hw1
     have wk:w < (K.set k true).length:=by rw [hI1.lk];exact hw1
     obtain ⟨a',ha'⟩:∃ a,(A.set k (g k))[w]? = some a:=⟨_,List.getElem?_eq_getElem wa⟩
     obtain ⟨b',hb'⟩:∃ b,(K.set k true)[w]? = some b:=⟨_,List.getElem?_eq_getElem wk⟩
     rw [ltF (by omega),cond_false,decide_eq_false (by omega),cond_false,TC ha',TC hb',Aj]
     have hyo:okH 400000 y:=by
      rw [hy,hw2];unfold hTo;split
      ·exact s2
      ·exact s3
     have e:(cond b' (Option.bind (some a') fun x152=>(Gu.f m x152.1 x152.2 y.1 y.2).bind fun Mm=>some (!Mm)) (some false):Option Bool)=some false:=by
      cases b' with
      | false=>rfl
      | true =>
       have:=hI1.eq w hb'
       rw [ha'] at this
       rw [Ap this,← hy,cond_true,Aj,same y hyo]
       rfl
     rw [e,Aj,cond_false,Aj]
     obtain ⟨q3,q4,hI2⟩:=hI1.set w hw1 hy
     rw [show (y.1,y.2)=y from rfl,q3,Aj,Aj,q4,Aj]
     exact next _ _ hI2
    cases q with
    | true =>
     rw [cond_true]
     exact fin (g k) (by rw [hw2,hq2,if_pos rfl])
    | false =>
     rw [cond_false]
     exact fin h1 (by rw [hw2,hq2,if_neg (by decide)])
  cases live with
  | true =>
   obtain rfl:=hl rfl hlt
   have line:(cond (z.1 == (1:Int)) (cond ((g k).1 != (0:Int)) (some true) (some ((((g k).2.length:Nat):Int) != (0:Int)))) (some false):Option Bool)=some false:=by
    by_cases e:z.1=1
    ·rw [s4 e,e];rfl
    ·rw [Dm e];rfl
   have chk:(cond true (cond b ((Gu.f m (g k).1 (g k).2 a.1 a.2).bind fun WU=>cond (!WU) (some true) (some false)) (some false)) (some false):Option Bool)=some false:=by
    cases b with
    | false=>rfl
    | true=>rw [hab rfl,same _ s2];rfl
   simp only [cond_true,Bool.not_true,cond_false,Aj] at chk ⊢
   rw [line,chk]
   simp only [Aj,cond_false]
   exact go
  | false =>
   simp only [cond_false,Bool.not_false,cond_true,Aj]
   cases b with
   | true =>
    obtain rfl:=hab rfl
    simp only [cond_true,Bool.not_true,cond_false]
    exact go
   | false =>
    simp only [cond_false,Bool.not_false,cond_true]
    rw [wiC _ (by omega) (by omega),show (k:Int)+1=((k+1:Nat):Int) by omega]
    exact ih A K false h hI fun e=>by cases e
theorem A1n {B:Cd} (h:Fr 400000 0 B z0 z0):∃ g,X5 (B++[i0 22]++[i0 25]) g:=by
 obtain ⟨g,e1,e2,e3⟩:=h
 rw [Gj,Nat.zero_add] at e2 e3
 have okM:okH 400000 ((0:Int),[(0:Int)]):=⟨by decide,by decide,by decide⟩
 have hl:(B++[i0 22]++[i0 25]).length=B.length+2:=by simp
 refine ⟨fun j=>if j≤B.length then g j else (0,[0]),by simp [e1],fun k z hz=>?_⟩
 have hk:k < B.length+2:=by rw [← hl];exact (List.getElem?_eq_some_iff.1 hz).1
 simp only [hl]
 by_cases h1:k < B.length
 ·rw [Cj,List.getElem?_append_left h1] at hz
  have:=e3 k (some z) (by unfold CO;rw [List.getElem?_map,hz];rfl)
  rw [Nat.zero_add] at this
  obtain ⟨⟨x,a1,a2,a3,a4⟩,b,c⟩:=(this:okB 400000 [] 0 B.length g k z)
  rw [if_pos (by omega)]
  refine ⟨x,a1,b,a2,c,fun u v _=>by rw [if_pos (by omega)];exact a3 u v,fun t ht=>?_⟩
  obtain ⟨m,e,⟨q1,q2,q3⟩ | q⟩:=a4 t ht
  ·exact ⟨m,e,by omega,by rw [if_pos q2];exact q3⟩
  ·cases q
 ·by_cases h2:k=B.length
  ·subst h2
   rw [Cj,List.getElem?_append_right (Nat.le_refl _),Nat.sub_self] at hz
   cases hz
   rw [if_pos (Nat.le_refl _),e2]
   exact ⟨(0,[0]),.mark,ok0,okM,fun e=>absurd e (by show ¬ (22:Int)=1;decide),fun _ _ _=>by rw [if_neg (by omega)],fun t ht=>by cases ht⟩
  ·obtain rfl:k=B.length+1:=by omega
   have hz2:(B++[i0 22]++[i0 25])[B.length+1]? = some (i0 25):=by
    rw [List.getElem?_append_right (by simp)];simp
   rw [hz2] at hz
   cases hz
   rw [if_neg (by omega)]
   exact ⟨(0,[]),Stp.ret (M:=[]) (Int.le_refl _),okM,ok0,fun e=>absurd e (by show ¬ (25:Int)=1;decide),fun _ e=>absurd rfl e,fun t ht=>by cases ht⟩
theorem A1s (k:Nat) {code:Cd} {g:Nat→Hgt} (hB:X5 code g) (hl:code.length≤420000) (hk:830000≤k):GX.f k code=some true:=by
 unfold GX.f mkd
 rw [decide_eq_true (by omega),cond_true,Aj,decide_eq_true (by omega),cond_true,Aj,Int.toNat_natCast]
 have:=Ai7 hB (fun _=>some true) code.length 0 (List.replicate code.length ((0:Int),([]:List Int))) (List.replicate code.length false) true z0 k (by omega) (Nat.zero_le _) (by omega) (by omega) ⟨by simp,by simp,fun j hj=>by
  have:=List.eq_of_mem_replicate (List.mem_of_getElem? hj)
  cases this⟩ fun _ _=>hB.zero.symm
 exact this
def XK (u:Dh):Prop:=∃ B,u.2.2.2.2=B++[i0 22]++[i0 25]∧B.length≤410000∧Fr 400000 0 B z0 z0
theorem Ava {X:Hx}:∀ {p:Nat},holes p X=[]→X=CO (Cc 0 X):=by
 induction X with
 | nil=>intro _ _;rfl
 | cons o X ih =>
  intro p h
  cases o with
  | none=>cases h
  | some z=>exact congrArg (some z :: ·) (ih (p:=p+1) h)
theorem Axt {cx:GCx} {d:Nat}:∀ (l:List Tree) (lo:List ByteArray) (p nx:Nat),(∀ x ∈ l,IsS x∨Jp x)→At l≤d→4 * At l+8≤400000→FrX 400000 p (Gn cx d lo p nx l) z0 z0
 | [],_,_,_,_,_,_=>BE.nil
 | x :: l,lo,p,nx,hI,hd,hw=>by
  simp only [At] at hd hw
  have ih:=fun lo p nx=>Axt (cx:=cx) (d:=d) l lo p nx (fun y hy=>hI y (CV _ hy)) (by omega) (by omega)
  have line:∀ (i:Int),BE 400000 [] p [some (i1 1 i)] z0 z0:=fun i=>BE.one (h':=z0) (stp 0 0 rfl (by decide) (by decide)) ok0 ok0 rfl fun _=>rfl
  unfold Gn
  split
  ·refine BE.app (X:=[_]) (line _) (BE.app (X:=[_]) (st1 0 1 rfl rfl (by decide) (N':=1) (by decide) (by decide) (by decide) (by decide)) (BE.app (X:=[_]) (st1 1 0 rfl rfl (by decide) (N':=0) (by decide) (by decide) (by decide) (by decide)) ?_))
   exact ih lo (p+3) (nx+1)
  ·rename_i h31
   have hx:IsS x:=(hI x (Cy ..)).elim id fun h=>by obtain ⟨_,_,_,_,rfl,_⟩:=Pb h;exact absurd rfl h31
   refine BE.app (X:=[_]) (line _) (BE.app (Ae2 d lo (p+1) x hx (by omega) (by omega)) ?_)
   exact ih _ _ _
theorem Alh {gl:List ByteArray} {src:ByteArray} {d:Nat}:∀ (l:List Tree) (U:List Dh),(∀ x ∈ l,IsS x∨Jp x)→okU gl src d l U→U.length=O9 l→At l≤d→5 * At l+8≤400060→∀ u ∈ IJ gl src d l U,XK u
 | [],U,_,_,hl,_,_,u,hu=>by
  have:U=[]:=List.eq_nil_of_length_eq_zero hl
  subst this
  cases hu
 | x :: l,U,hI,hk,hl,hd,hw,u,hu=>by
  simp only [At] at hd hw
  have ih:=fun U=>Alh (gl:=gl) (src:=src) (d:=d) l U (fun y hy=>hI y (CV _ hy))
  unfold O9 at hl
  rw [List.filter_cons] at hl
  by_cases h31:x.kind=31
  ·simp only [okU,IJ,if_pos h31] at hk hu
   obtain ⟨v,V,rfl,h1,h2,h3,h4⟩:=hk
   rw [if_pos (by simpa using h31),AD,AD] at hl
   rcases List.mem_cons.1 hu with rfl | hu
   ·have hx:Jp x:=(hI x (Cy ..)).elim (fun h=>absurd h31 (ZC h)) id
    refine ⟨Cc 0 (MC gl src d v.2.2.2.1 x),rfl,?_,?_⟩
    all_goals
     obtain ⟨a,t,m,b,rfl,hb⟩:=Pb hx
     have eb:MC gl src d v.2.2.2.1 (.mk 31 t (m.length:Nat) a (m++[b]))=Dd ⟨v.2.2.2.1,gl,src⟩ d (m.map (·.text)) 0 b:=by
      show Dd ⟨v.2.2.2.1,gl,src⟩ d (((m++[b]).take ((m.length:Nat):Int).toNat).map (·.text)) 0 (BW (m++[b]) ((m.length:Nat):Int).toNat)=_
      rw [Int.toNat_natCast,show (m++[b]).take m.length=m by simp,show BW (m++[b]) m.length=b by simp [BW]]
     simp only [sz,D9,At] at hd hw
    ·rw [eb,FZ]
     have:=N5 (cx:=⟨v.2.2.2.1,gl,src⟩) (d:=d) hb (m.map (·.text)) 0
     omega
    ·unfold Fr
     rw [← Ava h3,eb]
     cases hb with
     | block hs =>
      refine XO _ _ 0 fun y hy lo p=>?_
      have:=JN hy
      simp only [Tree.kids] at this
      simp only [sz] at hd hw
      exact Ae2 d lo p y (hs y hy) (by omega) (by omega)
   ·exact ih V h4 (by unfold O9;omega) (by omega) (by omega) u hu
  ·simp only [okU,IJ,if_neg h31] at hk hu
   rw [if_neg (by simpa using h31)] at hl
   exact ih U hk hl (by omega) (by omega) u hu
theorem Yl {gl:List ByteArray} {src:ByteArray} {d:Nat}:∀ (l:List Tree) (U:List Dh),okU gl src d l U→(IJ gl src d l U).length=U.length
 | [],U,_=>rfl
 | x :: l,U,hk=>by
  by_cases h31:x.kind=31
  ·simp only [okU,IJ,if_pos h31] at hk ⊢
   obtain ⟨v,V,rfl,h1,h2,h3,h4⟩:=hk
   exact congrArg (·+1) (Yl l V h4)
  ·simp only [okU,IJ,if_neg h31] at hk ⊢
   exact Yl l U hk
theorem Ai9 (r:List Dh×Ag×Int×Int) (hr:r.2.2.1=0) (J:Unit→Option Bool):∀ (t pre:List Dh) (m:Nat),r.1=pre++t→(∀ u ∈ t,XK u)→pre.length+t.length≤90000→835000+t.length≤m→Ia.l0 m r J (pre.length:Int)=J ()
 | [],pre,m,he,_,hl,hm=>by
  obtain ⟨m,rfl⟩:∃ m',m=m'+1:=⟨m - 1,by omega⟩
  simp only [Ia.l0]
  rw [he,List.append_nil,ltF (by omega),cond_false,Aj,cond_false]
 | u :: t,pre,m,he,hu,hl,hm=>by
  obtain ⟨m,rfl⟩:∃ m',m=m'+1:=⟨m - 1,by omega⟩
  simp only [AD] at hl hm
  obtain ⟨B,e1,e2,e3⟩:=hu u (Cy ..)
  obtain ⟨g,hg⟩:=A1n e3
  simp only [Ia.l0]
  rw [GY (by rw [he];simp;omega),cond_true,hr,Aj,show ((0:Int) == 0)=true from rfl,cond_true,he,DT,Aj,e1,A1s m hg (by simp;omega) (by omega),Aj,Bool.not_true,cond_false,wiC _ (by omega) (by omega)]
  have ih:=Ai9 r hr J t (pre++[u]) m (by rw [he];simp) (fun v hv=>hu v (CV _ hv)) (by simp;omega) (by omega)
  rw [AM] at ih
  exact ih
theorem A1v (k:Nat) (hk:1000000≤k) (s:ByteArray):Ia.f k s=some true:=by
 unfold Ia.f
 rw [A6u k (by omega),Aj,Bool.not_true,cond_false,gen_eq k (by omega),Aj]
 dsimp only [BA]
 have none:∀ c p:Int,Ia.l0 k (([],[],c,p):List Dh×List ByteArray×Int×Int) (fun _=>some true) (0:Int)=some true:=fun c p=>by
  obtain ⟨m,rfl⟩:∃ m,k=m+1:=⟨k - 1,by omega⟩
  rfl
 unfold Ym
 rcases Aut s with ⟨c,p,hc,he⟩ | ⟨n,he,hw,hz,hI,hs⟩
 ·rw [he]
  unfold Nf
  simp only
  rw [if_pos hc]
  exact none c p
 ·rw [he]
  unfold PM
  simp only [ne_eq,not_true_eq_false,if_false]
  have e:Tree.mk n.kind n.text n.n n.at_ n.kids=n:=by cases n;rfl
  rw [e]
  cases hn:Ob 100000 n with
  | bad e=>exact none e.1 e.2
  | ok s' =>
   obtain ⟨hg,_⟩:=Af5 hw
   unfold Ob at hn
   split at hn
   ·cases hn
   cases hI with
   | chunk hI =>
    rename_i n0 a0 t0 l _ _
    obtain ⟨_,_,hT⟩:=hw
    have hpp:=(Ha hg hn).pot
    have hgl:=hg.2
    unfold C9 at hn
    rw [if_pos rfl] at hn
    obtain ⟨s1,h1,hn⟩:=Cl hn
    simp only [sz] at hz hpp
    cases hn
    obtain ⟨HA,e1,e2,e3⟩:=Afj (gl:=s1.gl) (src:=s) (d:=dG) l _ st0 s1 hI hT hgl h1 rfl (by show 1+0+0+0+_+_≤_;omega)
    have hcnt:=Ato hT h1
    obtain ⟨fs,gl,sl,cs,lo,lp⟩:=s1
    have e1:fs=(⟨#[]⟩,0,0,0,[]) :: HA:=e1
    subst e1
    have hcnt:HA.length+1=1+O9 l:=hcnt
    have hlen:=Afg (cx:=⟨cs,gl,s⟩) (d:=dG) l [] 0 1 hI
    have hB:XK (⟨#[]⟩,0,sl,cs,Cc 0 (Gn ⟨cs,gl,s⟩ dG [] 0 1 l)++[i0 22]++[i0 25]):=by
     refine ⟨Cc 0 (Gn ⟨cs,gl,s⟩ dG [] 0 1 l),rfl,by rw [FZ];omega,?_⟩
     unfold Fr
     rw [← Ava (e3 cs [] 0 1)]
     exact Axt l [] 0 1 hI (by unfold dG;omega) (by omega)
    have hF:=Alh (gl:=gl) (src:=s) (d:=dG) l (HA.map Mt) hI e2 (by rw [List.length_map];omega) (by unfold dG;omega) (by omega)
    have hul:=Yl (gl:=gl) (src:=s) (d:=dG) l (HA.map Mt) e2
    have hfc:O9 l≤l.length:=List.length_filter_le ..
    have hls:=DR l
    rw [List.length_map] at hul
    show Ia.l0 k ((⟨#[]⟩,0,sl,cs,Cc 0 (Gn ⟨cs,gl,s⟩ dG [] 0 1 l)++[i0 22]++[i0 25]) :: IJ gl s dG l (HA.map Mt),gl,0,0) (fun _=>some true) (0:Int)=some true
    exact Ai9 _ rfl _ _ [] k rfl (fun u hu=>by
     rcases List.mem_cons.1 hu with rfl | hu
     ·exact hB
     ·exact hF u hu) (by
     simp only [Be,AD]
     omega) (by simp only [AD];omega)
theorem A1w (s:ByteArray):Ia.f 1000000 s=some true:=A1v 1000000 (Nat.le_refl _) s
end
end Go.Proofs.YtkdjiehclahliaaGreatDoor
