/- A walk over named slots and fragments of memory: the frame as a list of slots, memory as pieces that lie apart. -/
import Derived.WalkKit
import Derived.WalkSpells
import Derived.Test.YtadenjlehhopmaaDoorA0
namespace Go.Proofs.YtadenjlehhopmaaDoor
set_option linter.unusedSimpArgs false
set_option linter.unusedVariables false
open Go Go.RowKit
/-! ### Memory in pieces -/
abbrev Frag := Nat → Option Obj
def blk (b : Nat) (o : Obj) : Frag := fun k => if k = b then some o else none
def Frag.Apart (f g : Frag) : Prop := ∀ k, f k = none ∨ g k = none
def Frag.On (f : Frag) (w : World) : Prop := ∀ k o, f k = some o → w.heap[k]? = some o
def Sat : List Frag → World → Prop
  | [], _ => True
  | f :: l, w => f.On w ∧ (∀ g ∈ l, f.Apart g) ∧ Sat l w
theorem Frag.Apart.symm {f g : Frag} (h : f.Apart g) : g.Apart f := fun k => (h k).symm
theorem Sat.on : ∀ {l : List Frag} {w : World}, Sat l w → ∀ f ∈ l, f.On w
  | _ :: _, _, h, f, hf => by
    rcases List.mem_cons.1 hf with rfl | hf
    · exact h.1
    · exact h.2.2.on f hf
theorem Sat.perm {l l' : List Frag} (hp : l.Perm l') {w : World} (h : Sat l w) : Sat l' w := by
  induction hp with
  | nil => trivial
  | cons x hp ih => exact ⟨h.1, fun g hg => h.2.1 g (hp.mem_iff.2 hg), ih h.2.2⟩
  | swap x y l =>
    obtain ⟨h1, h2, h3, h4, h5⟩ := h
    refine ⟨h3, fun g hg => ?_, h1, fun g hg => h2 g (List.mem_cons_of_mem _ hg), h5⟩
    rcases List.mem_cons.1 hg with rfl | hg
    · exact (h2 x (List.mem_cons_self ..)).symm
    · exact h4 g hg
  | trans _ _ ih1 ih2 => exact ih2 (ih1 h)
theorem Sat.lt {l : List Frag} {w : World} (h : Sat l w) {f : Frag} (hf : f ∈ l) {k : Nat} {o : Obj} (hk : f k = some o) : k < w.heap.size :=
  (Array.getElem?_eq_some_iff.1 (h.on f hf k o hk)).1
theorem Sat.keep : ∀ {l : List Frag} {w w' : World}, Sat l w → (∀ f ∈ l, ∀ k o, f k = some o → w'.heap[k]? = w.heap[k]?) → Sat l w'
  | [], _, _, _, _ => trivial
  | f :: l, w, w', h, hk => ⟨fun k o e => (hk f (List.mem_cons_self ..) k o e).trans (h.1 k o e), h.2.1, h.2.2.keep fun g hg => hk g (List.mem_cons_of_mem _ hg)⟩
theorem Sat.app {l l' : List Frag} {w : World} (h : Sat (l ++ l') w) : Sat l w ∧ Sat l' w := by
  induction l with
  | nil => exact ⟨trivial, h⟩
  | cons f l ih => exact ⟨⟨h.1, fun g hg => h.2.1 g (List.mem_append_left _ hg), (ih h.2.2).1⟩, (ih h.2.2).2⟩
theorem Sat.new {l : List Frag} {w : World} (h : Sat l w) (o : Obj) : Sat (blk w.heap.size o :: l) (w.alloc o) := by
  refine ⟨fun k o' hk => ?_, fun g hg k => ?_, h.keep fun f hf k o' hk => ?_⟩
  · unfold blk at hk
    split at hk
    · rename_i e; subst e; cases hk; exact heap_alloc_new w _
    · cases hk
  · unfold blk
    split
    · rename_i e
      subst e
      cases hgk : g w.heap.size with
      | none => exact .inr rfl
      | some o' => exact absurd (h.lt hg hgk) (Nat.lt_irrefl _)
    · exact .inl rfl
  · exact Below.heap_alloc w o k (h.lt hf hk)
theorem Sat.set {l : List Frag} {w : World} {b : Nat} {cs : Array Value} {e : TypeId} {z : Nat × Nat} (h : Sat (blk b (.cells cs e z) :: l) w) (i : Nat) (v : Value) :
    Sat (blk b (.cells (cs.setIfInBounds i v) e z) :: l) (w.setCell ⟨b, i, none⟩ v) := by
  refine ⟨fun k o hk => ?_, fun g hg k => ?_, h.2.2.keep fun f hf k o hk => ?_⟩
  · unfold blk at hk
    split at hk
    · rename_i e'; subst e'; cases hk
      have := h.1 k (.cells cs e z) (by simp [blk])
      simp [World.setCell, Array.getElem?_modify, this]
    · cases hk
  · rcases h.2.1 g hg k with h' | h'
    · unfold blk at h' ⊢
      split at h'
      · cases h'
      · rename_i e'; rw [if_neg e']; exact .inl rfl
    · exact .inr h'
  · refine Below.heap_setCell w ⟨b, i, none⟩ v k fun e' => ?_
    have e' : k = b := e'
    rcases h.2.1 f hf k with h' | h'
    · simp [blk, e'] at h'
    · rw [h'] at hk; cases hk
theorem Sat.cell {l : List Frag} {w : World} {b : Nat} {cs : Array Value} {e : TypeId} {z : Nat × Nat} (h : Sat l w) (hb : blk b (.cells cs e z) ∈ l) (i : Nat) : w.cell? ⟨b, i, none⟩ = cs[i]? := by
  have := h.on _ hb b (.cells cs e z) (by simp [blk])
  simp [World.cell?, this]
theorem Sat.free {l : List Frag} {w : World} {b : Nat} {cs : Array Value} {e : TypeId} (h : Sat l w) (hb : blk b (.cells cs e (0, 0)) ∈ l) (i : Nat) : w.frozen? ⟨b, i, none⟩ = false := by
  have := h.on _ hb b (.cells cs e (0, 0)) (by simp [blk])
  simp [World.frozen?, this]
/-- The pieces, and the streams as in A; no block has gone. -/
structure St (A : World) (l : List Frag) (w : World) : Prop where
  sat : Sat l w
  os : w.os = A.os
  tape : w.tape = A.tape
  output : w.output = A.output
  size : A.heap.size ≤ w.heap.size
section
variable {A w w' : World} {l l' : List Frag}
theorem St.perm (hp : l.Perm l') (h : St A l w) : St A l' w := ⟨h.sat.perm hp, h.os, h.tape, h.output, h.size⟩
theorem St.new (h : St A l w) (o : Obj) : St A (blk w.heap.size o :: l) (w.alloc o) := ⟨h.sat.new o, h.os, h.tape, h.output, by have := h.size; simp; omega⟩
theorem St.drew (h : St A l w) : St A l w.drew := ⟨h.sat.keep fun _ _ _ _ _ => rfl, h.os, h.tape, h.output, h.size⟩
theorem St.tail {f : Frag} (h : St A (f :: l) w) : St A l w := ⟨h.sat.2.2, h.os, h.tape, h.output, h.size⟩
theorem St.set {b : Nat} {cs : Array Value} {e : TypeId} {z : Nat × Nat} (h : St A (blk b (.cells cs e z) :: l) w) (i : Nat) (v : Value) :
    St A (blk b (.cells (cs.setIfInBounds i v) e z) :: l) (w.setCell ⟨b, i, none⟩ v) := ⟨h.sat.set i v, h.os, h.tape, h.output, by have := h.size; simp; omega⟩
/-- What a quiet call, or one that only makes memory, leaves. -/
theorem St.below (h : St A l w) (hb : Below w.heap.size w w') : St A l w' :=
  ⟨h.sat.keep fun _ hf k o hk => hb.block k (h.sat.lt hf hk), hb.os.trans h.os, hb.tape.trans h.tape, hb.output.trans h.output, Nat.le_trans h.size hb.size⟩
/-- All that was there, as one piece. -/
def old (w : World) : Frag := fun k => w.heap[k]?
theorem St.start (w : World) : St w [old w] w := ⟨⟨fun _ _ h => h, fun _ h => (by cases h), trivial⟩, rfl, rfl, rfl, Nat.le_refl _⟩
theorem St.end_ (h : St A (l ++ [old A]) w') : Below A.heap.size A w' :=
  ⟨h.os, h.tape, h.output, h.size, fun k hk => by
    have h1 := h.sat.on (old A) (by simp) k A.heap[k] (by simp [old, hk])
    rw [h1]; simp [hk]⟩
end
/-! ### Frames as lists of slots -/
abbrev Env := List (Nat × Value)
def Env.get : Env → Nat → Option Value
  | [], _ => none
  | (k, v) :: r, i => cond (Nat.beq k i) (some v) (Env.get r i)
structure Holds (n : Nat) (env : Env) (a : Act) : Prop where
  size : a.tmps.size = n
  defers : a.defers = []
  at_ : ∀ i v, env.get i = some v → a.tmps.getD i undef = v
def evalE (env : Env) : Operand → Option Value
  | .tmp t => env.get t
  | .const v => some v
  | .global g => some (.pointer (some ⟨g, 0, none⟩))
  | .func f => some (.func (.func f) #[] #[])
def rho (env : Env) (x : Operand) : Value := (evalE env x).getD undef
def allB : List Operand → Env → Bool
  | [], _ => true
  | x :: r, env => match evalE env x with | some _ => allB r env | none => false
theorem Holds.eval {n : Nat} {env : Env} {a : Act} (h : Holds n env a) {x : Operand} {v : Value} (hx : evalE env x = some v) : a.eval x = v := by
  cases x with
  | tmp t => exact h.at_ t v hx
  | const u => exact Option.some.inj hx
  | global g => exact Option.some.inj hx
  | func f => exact Option.some.inj hx
theorem Holds.rho {n : Nat} {env : Env} {a : Act} (h : Holds n env a) {xs : List Operand} (hx : allB xs env = true) : ∀ x ∈ xs, a.eval x = rho env x := by
  induction xs with
  | nil => intro x hx; cases hx
  | cons y r ih =>
    intro x hm
    unfold allB at hx
    split at hx
    · rename_i v hv
      rcases List.mem_cons.1 hm with rfl | hm
      · rw [h.eval hv]; simp [Go.Proofs.YtadenjlehhopmaaDoor.rho, hv]
      · exact ih hx x hm
    · cases hx
theorem Holds.put {n : Nat} {env : Env} {a : Act} (h : Holds n env a) (d : Nat) (v : Value) (hd : d < n) : Holds n ((d, v) :: env) (a.put (some d) v) := by
  refine ⟨by simp [Act.put, h.size], h.defers, fun i u hi => ?_⟩
  simp only [Env.get] at hi
  simp only [Act.put, Array.getD_eq_getD_getElem?, Array.getElem?_setIfInBounds]
  cases hb : Nat.beq d i with
  | true =>
    have : d = i := Nat.eq_of_beq_eq_true hb
    subst this
    rw [hb] at hi
    cases hi
    simp [h.size, hd]
  | false =>
    have : d ≠ i := Nat.ne_of_beq_eq_false hb
    rw [hb] at hi
    rw [if_neg this]
    have := h.at_ i u hi
    rw [Array.getD_eq_getD_getElem?] at this
    exact this
def putE (env : Env) : Option Nat → Value → Env
  | some d, v => (d, v) :: env
  | none, _ => env
def inB (n : Nat) : Option Nat → Bool
  | some d => Nat.blt d n
  | none => true
theorem Holds.putE {n : Nat} {env : Env} {a : Act} (h : Holds n env a) {d : Option Nat} (v : Value) (hd : inB n d = true) : Holds n (putE env d v) (a.put d v) := by
  cases d with
  | none => exact h
  | some d => exact h.put d v (by simpa [inB, Nat.blt_eq] using hd)
/-- All slots of 'sub' read as in 'env'. -/
def Sub (env : Env) : Env → Prop
  | [] => True
  | (k, v) :: r => env.get k = some v ∧ Sub env r
theorem Sub.get {env : Env} : ∀ {sub : Env}, Sub env sub → ∀ i v, sub.get i = some v → env.get i = some v
  | (k, u) :: r, h, i, v, hi => by
    simp only [Env.get] at hi
    cases hb : Nat.beq k i with
    | true =>
      rw [hb] at hi
      cases hi
      rw [← Nat.eq_of_beq_eq_true hb]
      exact h.1
    | false => rw [hb] at hi; exact h.2.get i v hi
theorem Holds.sub {n : Nat} {env sub : Env} {a : Act} (h : Holds n env a) (hs : Sub env sub) : Holds n sub a := ⟨h.size, h.defers, fun i v hi => h.at_ i v (hs.get i v hi)⟩
/-- What is to be shown from here on. -/
def K (A : World) (n : Nat) (env : Env) (l : List Frag) (q : Act → World → Prop) : Prop := ∀ a w, Holds n env a → St A l w → q a w
section
variable {A : World} {n : Nat} {env env' : Env} {l l' : List Frag} {q : Act → World → Prop} {P : Program} {Q : Exit → Act → World → Prop}
theorem K.weak (h : K A n env' l q) (hs : Sub env env') : K A n env l q := fun a w ha hw => h a w (ha.sub hs) hw
theorem K.perm (h : K A n env l' q) (hp : l.Perm l') : K A n env l q := fun a w ha hw => h a w ha (hw.perm hp)
theorem K.drop {f : Frag} (h : K A n env l q) : K A n env (f :: l) q := fun a w ha hw => h a w ha hw.tail
theorem K.mv1 {a b : Frag} (h : K A n env (b :: a :: l) q) : K A n env (a :: b :: l) q := h.perm (List.Perm.swap ..)
theorem K.mv2 {a b c : Frag} (h : K A n env (c :: a :: b :: l) q) : K A n env (a :: b :: c :: l) q := h.perm ((List.Perm.swap c b l).cons a |>.trans (List.Perm.swap ..))
theorem K.mv3 {a b c d : Frag} (h : K A n env (d :: a :: b :: c :: l) q) : K A n env (a :: b :: c :: d :: l) q :=
  h.perm ((((List.Perm.swap d c l).cons b).cons a).trans (((List.Perm.swap d b _).cons a).trans (List.Perm.swap ..)))
theorem K.mv4 {a b c d e : Frag} (h : K A n env (e :: a :: b :: c :: d :: l) q) : K A n env (a :: b :: c :: d :: e :: l) q :=
  h.perm (((((List.Perm.swap e d l).cons c).cons b).cons a).trans ((((List.Perm.swap e c _).cons b).cons a).trans (((List.Perm.swap e b _).cons a).trans (List.Perm.swap ..))))
/-! ### Code -/
theorem k_skip (h : K A n env l (Q .normal)) : K A n env l (Code.skip.wp P Q) := fun a w ha hw => wp_skip (h a w ha hw)
theorem k_exit {id : Nat} (h : K A n env l (Q (.exit id))) : K A n env l ((Code.exit id).wp P Q) := fun a w ha hw => wp_exit (h a w ha hw)
theorem k_ret (h : K A n env l (Q .ret)) : K A n env l (Code.ret.wp P Q) := fun a w ha hw => wp_ret (h a w ha hw)
theorem k_block {id : Nat} {c : Code} (h : K A n env l (c.wp P (Exit.inBlock id Q))) : K A n env l ((Code.block id c).wp P Q) := fun a w ha hw => wp_block (h a w ha hw)
theorem k_seq {x y : Code} (h : K A n env l (x.wp P (Exit.then (y.wp P Q) Q))) : K A n env l ((Code.seq x y).wp P Q) := fun a w ha hw => wp_seq (h a w ha hw)
theorem k_here {id : Nat} (h : K A n env l (Q .normal)) : K A n env l (Exit.inBlock id Q (.exit id)) := fun a w ha hw => by
  simp only [Exit.inBlock, if_true]; exact h a w ha hw
theorem k_there {id id' : Nat} (hne : Nat.beq id' id = false) (h : K A n env l (Q (.exit id'))) : K A n env l (Exit.inBlock id Q (.exit id')) := fun a w ha hw => by
  simp only [Exit.inBlock, if_neg (Nat.ne_of_beq_eq_false hne)]; exact h a w ha hw
theorem k_cond {c : Operand} {x y : Code} {t : Bool} (hc : evalE env c = some (.bool t)) (hx : t = true → K A n env l (x.wp P Q)) (hy : t = false → K A n env l (y.wp P Q)) : K A n env l ((Code.cond c x y).wp P Q) :=
  fun a w ha hw => wp_cond_split (ha.eval hc) (fun h => hx h a w ha hw) (fun h => hy h a w ha hw)
theorem k_cond_true {c : Operand} {x y : Code} (hc : evalE env c = some (.bool true)) (hx : K A n env l (x.wp P Q)) : K A n env l ((Code.cond c x y).wp P Q) :=
  fun a w ha hw => wp_cond_true (ha.eval hc) (hx a w ha hw)
theorem k_cond_false {c : Operand} {x y : Code} (hc : evalE env c = some (.bool false)) (hx : K A n env l (y.wp P Q)) : K A n env l ((Code.cond c x y).wp P Q) :=
  fun a w ha hw => wp_cond_false (ha.eval hc) (hx a w ha hw)
theorem k_region {id : Nat} {ops : List Oper} (h : K A n env l (wpList P ops.toArray Q ops)) : K A n env l ((Code.region id ops.toArray false).wp P Q) := fun a w ha hw => wp_region_lit (h a w ha hw)
theorem k_nil {ops : Array Oper} (h : K A n env l (Q .normal)) : K A n env l (wpList P ops Q []) := fun a w ha hw => wpList_nil (h a w ha hw)
/-- A loop by rounds that are counted down. -/
theorem wp_loop_count {c : Code} {a : Act} {w : World} (I : Nat → Act → World → Prop) (m : Nat) (h0 : I m a w)
    (round : ∀ m a w, I m a w → c.wp P (Exit.then (fun a' w' => ∃ k, k < m ∧ I k a' w') Q) a w) : (Code.loop c).wp P Q a w := by
  intro b k cs
  have key : ∀ m a w, I m a w → ∃ e a' w', Q e a' w' ∧ Arrives P (lone (b.at a (.code c :: .inLoop c :: k)) cs w) b k cs e a' w' := by
    intro m
    induction m using Nat.strongRecOn with
    | _ m ih =>
      intro a w hI
      obtain ⟨e, a₁, w₁, hq, harr⟩ := round m a w hI b (.inLoop c :: k) cs
      cases e with
      | normal =>
        obtain ⟨j, hlt, hI₁⟩ := hq
        obtain ⟨e₂, a₂, w₂, hq₂, harr₂⟩ := ih j hlt a₁ w₁ hI₁
        exact ⟨e₂, a₂, w₂, hq₂, .of_steps (Steps.trans harr (.one step_inLoop)) harr₂⟩
      | exit id => exact ⟨_, a₁, w₁, hq, .pass (x := .inLoop c) rfl (fun _ _ => .inl (by simp)) harr⟩
      | goto l => exact ⟨_, a₁, w₁, hq, .pass (x := .inLoop c) rfl (fun _ _ => .inl (by simp)) harr⟩
      | ret => exact ⟨_, a₁, w₁, hq, .pass (x := .inLoop c) rfl (fun _ _ => .inl (by simp)) harr⟩
      | panic ch => exact ⟨_, a₁, w₁, hq, .pass (x := .inLoop c) rfl (fun _ _ => .inl (by simp)) harr⟩
      | outgrown => exact ⟨_, a₁, w₁, hq, .pass (x := .inLoop c) rfl (fun _ _ => .inl (by simp)) harr⟩
  obtain ⟨e, a', w', hq, harr⟩ := key m a w h0
  exact ⟨e, a', w', hq, .of_steps (.one step_loop) harr⟩
/-- At a loop's head after round k of m: what goes round. -/
def Again {τ : Type} (A : World) (n : Nat) (E : τ → Env) (L : τ → List Frag) (S : Nat → τ → Prop) (m : Nat) (a : Act) (w : World) : Prop :=
  ∃ k, k < m ∧ ∃ t, S k t ∧ Holds n (E t) a ∧ St A (L t) w
theorem k_loop {τ : Type} {c : Code} (E : τ → Env) (L : τ → List Frag) (S : Nat → τ → Prop) (m : Nat) (t : τ) (h0 : S m t) (hs : Sub env (E t)) (hl : l = L t)
    (round : ∀ m t, S m t → K A n (E t) (L t) (c.wp P (Exit.then (Again A n E L S m) Q))) : K A n env l ((Code.loop c).wp P Q) := fun a w ha hw => by
  subst hl
  refine wp_loop_count (fun m a w => ∃ t, S m t ∧ Holds n (E t) a ∧ St A (L t) w) m ⟨t, h0, ha.sub hs, hw⟩ ?_
  rintro m a w ⟨t, hS, ha, hw⟩
  exact round m t hS a w ha hw
theorem k_again {τ : Type} {E : τ → Env} {L : τ → List Frag} {S : Nat → τ → Prop} {m : Nat} (k : Nat) (t : τ) (hk : k < m) (hS : S k t) (hs : Sub env (E t)) (hl : l = L t) : K A n env l (Again A n E L S m) :=
  fun _ _ ha hw => ⟨k, hk, t, hS, ha.sub hs, by subst hl; exact hw⟩
end
end Go.Proofs.YtadenjlehhopmaaDoor
