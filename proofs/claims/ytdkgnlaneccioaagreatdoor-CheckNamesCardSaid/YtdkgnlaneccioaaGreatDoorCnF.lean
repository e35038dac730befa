/- Texts of mine for checkNames_card, part 6. -/
import Derived.Test.YtdkgnlaneccioaaGreatDoorCnE
set_option linter.unusedSimpArgs false
set_option linter.unusedVariables false
set_option linter.unusedSectionVars false
namespace Go.Proofs.YtdkgnlaneccioaaGreatDoor
open Go Go.RowKit
section
variable {A : World} {ds : List Deferred} {n0 : Nat} {env env' : Env} {l l' X : List Frag} {q : Act → World → Prop} {P : Program} {Q : Exit → Act → World → Prop} {ops : Array Oper} {os rest : List Oper} {o : Oper} {α : Type} {R : Rich α}
theorem kl_estoreR0 {x0 x' : α} {t : List α} {h Hn : Frag} {A' : Option Addr} {c : Nat} {T T1 : TypeId} {p v : Value} {s y : Operand} (ho : o.op = .store T1 s y) (hg : wantE ops env o = some true) (hd : inB n0 o.dst = true)
  (hs : evalE env s = some p) (hy : evalE env y = some v) (hsz : (P.info? T1).map (·.size) = some v.cells.size) (hp : Place A' 0 p) (hO : OwnR R T h (.slice A' (x0 :: t).length c) (x0 :: t)) (hx : R.own x' Hn v.cells.toList)
  (hk : ∀ h', OwnR R T h' (.slice A' (x' :: t).length c) (x' :: t) → K ds A n0 (putE env o.dst undef) (h' :: l) (wpList P ops Q rest)) : K ds A n0 env (h :: Hn :: l) (wpList P ops Q (o :: rest)) := by
 obtain ⟨Ho, Hi, cs, rfl, hab, hOwn, H1, H2, c1, c2, rfl, hbc, rfl, h1, h2⟩ := hO
 refine k_split hab (K.mv1 (k_split hbc (K.drop (K.mv1 ?_))))
 obtain ⟨hl1, ho1⟩ := R.len h1
 obtain ⟨hlx, hox⟩ := R.len hx
 refine kl_op hg fun a w ha hw => ?_
 cases hif : P.info? T1 with
 | none => rw [hif] at hsz; cases hsz
 | some i =>
  rw [hif] at hsz
  have hsize : i.size = v.cells.size := Option.some.inj hsz
  obtain ⟨hlen, hones, hc⟩ := hOwn
  rcases hc with ⟨he, h0⟩ | ⟨g, cap, cur, he, rfl, h4, h5, h6, h7⟩
  ·simp at h0
  ·cases he
   obtain ⟨b, of_, he, rfl⟩ := hp
   cases he
   have hgc : w.heap[g]? = some (.cells cur T (0, 0)) := hw.sat.1 g _ (by simp [blk])
   have hge : R.sz ≤ cur.toList.length := by
    have e : c1.length + c2.length ≤ cur.toList.length := by
     rw [← List.length_append, ← h7, List.length_take]; omega
    omega
   have hst := run_storeCells_at P g 0 T v.cells.toList 0 cur w hgc (by rw [hlx]; simpa using hge) hox
   simp only [Nat.add_zero, Nat.zero_add, List.take_zero, List.nil_append] at hst
   have hr : (Instr.storeAt T1 (.pointer (some ⟨g, 0 + 0, none⟩)) v).run P w = .ok () (w.setRow g (v.cells.toList ++ cur.toList.drop v.cells.toList.length).toArray) := by
    simp [Instr.storeAt, Instr.sureAddr, storeVar, sizeOf, typeInfo, hif, hsize]
    simpa using hst
   have hOwn' : Own T R.sz (blk g (.cells (v.cells.toList ++ cur.toList.drop v.cells.toList.length).toArray T (0, 0))) (.slice (some ⟨g, 0, none⟩) (x' :: t).length c) (x' :: t).length (v.cells.toList ++ c2) := by
    refine ⟨by rw [List.length_append, hl1] at hlen; rw [List.length_append, hlx]; exact hlen, fun u hu => ?_, .inr ⟨g, c, _, rfl, rfl, h4, h5, ?_, ?_⟩⟩
    ·rcases List.mem_append.1 hu with hu | hu
     ·exact hox u hu
     ·exact hones u (List.mem_append_right _ hu)
    ·have h6' : cur.toList.length = c * R.sz := by rw [Array.length_toList]; exact h6
     rw [List.size_toArray, List.length_append, List.length_drop, hlx, ← h6']
     omega
    ·have e1 : ((x' :: t).length * R.sz) = R.sz + t.length * R.sz := by rw [List.length_cons, Nat.add_mul, Nat.one_mul, Nat.add_comm]
     have e2 : (x0 :: t).length * R.sz = R.sz + t.length * R.sz := by rw [List.length_cons, Nat.add_mul, Nat.one_mul, Nat.add_comm]
     rw [e2] at h7
     show (v.cells.toList ++ cur.toList.drop v.cells.toList.length).take _ = _
     rw [e1, ← hlx, List.take_length_add_append]
     congr 1
     have h8 := congrArg (List.drop R.sz) h7
     rw [List.drop_take, Nat.add_sub_cancel_left, ← hl1, List.drop_left, hl1] at h8
     rw [hlx]
     exact h8
   unfold Oper.wp execOp
   simp only [ho, ha.eval hs, ha.eval hy, Sem.run_bind, hr, Result.andThen_ok, Sem.run_pure]
   have hk' : K ds A n0 (putE env o.dst undef) (blk g (.cells (v.cells.toList ++ cur.toList.drop v.cells.toList.length).toArray T (0, 0)) :: H2 :: Hn :: l) (wpList P ops Q rest) :=
    K.mv2 (K.mv2 (K.mv1 (k_or fun hap => K.mv1 (k_or fun hap2 => hk _ ⟨_, _, _, rfl, hap2, hOwn', Hn, H2, _, c2, rfl, hap, rfl, hx, h2⟩))))
   exact hk' _ _ (ha.putE _ hd) (hw.setRow _)
def lSet0 {α : Type} (l : List α) (x : α) : Option (List α) := match l with | [] => none | _ :: t => some (x :: t)
theorem lSet0_len {α : Type} {l l' : List α} {x : α} (h : lSet0 l x = some l') : l'.length = l.length := by
 cases l with
 | nil => cases h
 | cons y t => cases h; rfl
theorem kl_estoreL0 {x' : α} {xs xs' : List α} {h Hn : Frag} {A' : Option Addr} {c : Nat} {T T1 : TypeId} {p v : Value} {s y : Operand} (ho : o.op = .store T1 s y) (hg : wantE ops env o = some true) (hd : inB n0 o.dst = true)
  (hs : evalE env s = some p) (hy : evalE env y = some v) (hsz : (P.info? T1).map (·.size) = some v.cells.size) (hp : Place A' 0 p) (hO : OwnR R T h (.slice A' xs.length c) xs) (hx : R.own x' Hn v.cells.toList) (hset : lSet0 xs x' = some xs')
  (hk : ∀ h', OwnR R T h' (.slice A' xs'.length c) xs' → K ds A n0 (putE env o.dst undef) (h' :: l) (wpList P ops Q rest)) : K ds A n0 env (h :: Hn :: l) (wpList P ops Q (o :: rest)) := by
 cases xs with
 | nil => cases hset
 | cons x0 t => cases hset; exact kl_estoreR0 ho hg hd hs hy hsz hp hO hx hk
end
end Go.Proofs.YtdkgnlaneccioaaGreatDoor
namespace Go.Proofs.YtdkgnlaneccioaaGreatDoor
open Go Go.RowKit
def check_Check.f (k : Nat) (a0 : ByteArray) : Option (List (ByteArray × Int × Int × Int × List (Int × Int × ByteArray)) × List ByteArray × Int × Int) := (parse_Parse.f k a0).bind fun r3 => cond (r3.2.2.2.2.2.1 != (0 : Int)) (some ([], [], r3.2.2.2.2.2.1, r3.2.2.2.2.2.2)) (joinF (fun (_ : Unit) => PR.elim (check_checker_node.f k ([((⟨#[]⟩ : ByteArray), (0 : Int), (0 : Int), (0 : Int), [])]) ([]) (⟨#[]⟩ : ByteArray) r3.2.2.2.1 (0 : Int) (0 : Int) ([]) ([]) (0 : Int) ([]) r3.1 r3.2.1 r3.2.2.1 r3.2.2.2.1 r3.2.2.2.2.1 false) (fun i17 => some ([], [], i17.1, i17.2)) fun r16 => (lIdx r16.1 (0 : Int)).bind fun x34 => (lSet0 r16.1 ((⟨#[]⟩ : ByteArray), r3.2.2.2.1, (0 : Int), r16.2.2.1, r16.2.2.2.1)).bind fun l43 => some (l43, r16.2.1, (0 : Int), (0 : Int))) (fun J10 => (parse_Height.f k r3.1 r3.2.1 r3.2.2.1 r3.2.2.2.1 r3.2.2.2.2.1).bind fun r47 => cond (decide (r47 > (100 : Int))) (PR.elim (check_fail.f k (6 : Int) r3.2.2.2.1) (fun i50 => some ([], [], i50.1, i50.2)) fun r49 => J10 ()) (J10 ())))
set_option maxRecDepth 100000 in
theorem check_Check.ok {k : Nat} {a0 : ByteArray} {G : Frag} {r : List (ByteArray × Int × Int × Int × List (Int × Int × ByteArray)) × List ByteArray × Int × Int} (h : check_Check.f k a0 = some r) (hG : GlP G) : Ct Tryz.prog 11 #[.string a0] [] [G] (fun e l1 => ∃ (H0_ : Frag) (A0_ : Option Addr) (c0_ : Nat) (H1_ : Frag) (A1_ : Option Addr) (c1_ : Nat), OwnR rs42 42 H0_ (.slice A0_ r.1.length c0_) r.1 ∧ OwnT encS 9 1 H1_ (.slice A1_ r.2.1.length c1_) r.2.1 ∧ e = .returned (.tuple #[.agg #[.slice A0_ r.1.length c0_, .slice A1_ r.2.1.length c1_], .agg #[.int .i64 r.2.2.1, .int .i64 r.2.2.2]]) ∧ l1 = [H0_, H1_]) := by
 refine ct_enterD (args := [.string a0]) Tryz.func11 rfl (Nat.le_of_ble_eq_true rfl) ?_
 intro A X hh_
 obtain ⟨hm_G, _⟩ := hh_
 unfold check_Check.f at h
 refine k_seq ?_
 refine k_region ?_
 refine kl_new (.cells #[.slice none 0 0, .slice none 0 0] 28 (0, 0)) (fun b => .pointer (some ⟨b, 0, none⟩)) (by kernel_rfl) (by kernel_rfl) (fun _ => by kernel_rfl) fun b1 => ?_
 refine kl_new (.cells #[.int .i64 (0 : Int), .int .i64 (0 : Int)] 31 (0, 0)) (fun b => .pointer (some ⟨b, 0, none⟩)) (by kernel_rfl) (by kernel_rfl) (fun _ => by kernel_rfl) fun b2 => ?_
 refine k_nil ?_
 refine k_then ?_
 refine k_seq ?_
 refine k_region ?_
 refine kl_steps 1 [(2, .pointer (some ⟨b1, 0, none⟩)), (3, .pointer (some ⟨b2, 0, none⟩)), (7, .string a0)] (by kernel_rfl) ?_
 obtain ⟨r3, hr3, h⟩ := bindSome h
 refine kl_call (blk b2 (.cells #[.int .i64 (0 : Int), .int .i64 (0 : Int)] 31 (0, 0)) :: blk b1 (.cells #[.slice none 0 0, .slice none 0 0] 28 (0, 0)) :: X) (by kernel_rfl) (by kernel_rfl) (by kernel_rfl) (parse_Parse.ok hr3 hG) rfl ⟨(.tail _ (.tail _ hm_G)), trivial⟩ ?_
 rintro _ _ ⟨h4, A5, k6, o7, rfl, rfl⟩
 refine nx_ret1 ?_
 refine kl_steps 3 [(2, .pointer (some ⟨b1, 0, none⟩)), (3, .pointer (some ⟨b2, 0, none⟩)), (9, .agg #[.int .i64 r3.1, .string r3.2.1, .int .i64 r3.2.2.1, .int .i64 r3.2.2.2.1, .slice A5 r3.2.2.2.2.1.length k6]), (10, .agg #[.int .i64 r3.2.2.2.2.2.1, .int .i64 r3.2.2.2.2.2.2])] (by kernel_rfl) ?_
 refine kl_new (.cells #[.int .i64 (0 : Int), .string (⟨#[]⟩ : ByteArray), .int .i64 (0 : Int), .int .i64 (0 : Int), .slice none 0 0] 36 (0, 0)) (fun b => .pointer (some ⟨b, 0, none⟩)) (by kernel_rfl) (by kernel_rfl) (fun _ => by kernel_rfl) fun b8 => ?_
 refine kl_store (cs' := #[.int .i64 r3.1, .string r3.2.1, .int .i64 r3.2.2.1, .int .i64 r3.2.2.2.1, .slice A5 r3.2.2.2.2.1.length k6]) [.st ⟨b8, 0, none⟩ (.int .i64 r3.1), .st ⟨b8, 1, none⟩ (.string r3.2.1), .st ⟨b8, 2, none⟩ (.int .i64 r3.2.2.1), .st ⟨b8, 3, none⟩ (.int .i64 r3.2.2.2.1), .st ⟨b8, 4, none⟩ (.slice A5 r3.2.2.2.2.1.length k6)] (by kernel_rfl) (by kernel_rfl) (by kernel_rfl) ⟨rfl, rfl, rfl, rfl, rfl, trivial⟩ (by kernel_rfl) ?_
 refine K.mv2 ?_
 refine kl_store (cs' := #[.int .i64 r3.2.2.2.2.2.1, .int .i64 r3.2.2.2.2.2.2]) [.st ⟨b2, 0, none⟩ (.int .i64 r3.2.2.2.2.2.1), .st ⟨b2, 1, none⟩ (.int .i64 r3.2.2.2.2.2.2)] (by kernel_rfl) (by kernel_rfl) (by kernel_rfl) ⟨rfl, rfl, trivial⟩ (by kernel_rfl) ?_
 refine k_nil ?_
 refine k_then ?_
 refine k_seq ?_
 refine k_seq ?_
 refine k_region ?_
 refine kl_steps 1 [(2, .pointer (some ⟨b1, 0, none⟩)), (3, .pointer (some ⟨b2, 0, none⟩)), (4, .pointer (some ⟨b8, 0, none⟩)), (11, .pointer (some ⟨b2, 0, none⟩))] (by kernel_rfl) ?_
 refine kl_load (v := .int .i64 r3.2.2.2.2.2.1) [.val (.int .i64 r3.2.2.2.2.2.1)] [.ld ⟨b2, 0, none⟩ (.int .i64 r3.2.2.2.2.2.1)] (by kernel_rfl) (by kernel_rfl) (by kernel_rfl) ⟨⟨0, _, _, _, rfl, rfl, rfl⟩, trivial⟩ ?_
 refine kl_steps 1 [(2, .pointer (some ⟨b1, 0, none⟩)), (3, .pointer (some ⟨b2, 0, none⟩)), (4, .pointer (some ⟨b8, 0, none⟩)), (13, .bool (r3.2.2.2.2.2.1 != (0 : Int)))] (by kernel_rfl) ?_
 refine k_nil ?_
 refine k_then ?_
 refine k_cond (t := (r3.2.2.2.2.2.1 != (0 : Int))) (by kernel_rfl) (fun t9 => ?_) (fun t9 => ?_)
 ·have h := condT h t9
  refine k_seq ?_
  refine k_nopan ?_
  refine k_region_plan [(0, 0), (1, 3), (2, 1)] (fun w => OnAll [blk b2 (.cells #[.int .i64 r3.2.2.2.2.2.1, .int .i64 r3.2.2.2.2.2.2] 31 (0, 0))] w) (by kernel_rfl) (by kernel_rfl) (fun _ _ d _ _ h => by cases d <;> exact h) (fun w h_ => ⟨h_.sat.on _ (.head _), trivial⟩) ?_
  simp only [planOps, List.filterMap_cons, List.filterMap_nil, List.getElem?_toArray, List.getElem?_cons_zero, List.getElem?_cons_succ, Option.map_some, List.drop_succ_cons, List.drop_zero, List.length_cons, List.length_nil]
  refine kp_steps 1 [(2, .pointer (some ⟨b1, 0, none⟩)), (3, .pointer (some ⟨b2, 0, none⟩)), (14, .agg #[.slice none 0 0, .slice none 0 0])] (by kernel_rfl) (by kernel_rfl) ?_
  refine kp_loadS (v := .agg #[.int .i64 r3.2.2.2.2.2.1, .int .i64 r3.2.2.2.2.2.2]) [blk b2 (.cells #[.int .i64 r3.2.2.2.2.2.1, .int .i64 r3.2.2.2.2.2.2] 31 (0, 0))] [.val (.int .i64 r3.2.2.2.2.2.1), .val (.int .i64 r3.2.2.2.2.2.2)] [.ld ⟨b2, 0, none⟩ (.int .i64 r3.2.2.2.2.2.1), .ld ⟨b2, 1, none⟩ (.int .i64 r3.2.2.2.2.2.2)] (by kernel_rfl) (by kernel_rfl) (by kernel_rfl) (fun _ h => h) ⟨⟨0, _, _, _, rfl, rfl, rfl⟩, ⟨0, _, _, _, rfl, rfl, rfl⟩, trivial⟩ ?_
  refine kp_turn (by kernel_rfl) ?_
  refine K.mv3 ?_
  refine op_store (cs' := #[.slice none 0 0, .slice none 0 0]) [.st ⟨b1, 0, none⟩ (.slice none 0 0), .st ⟨b1, 1, none⟩ (.slice none 0 0)] (by kernel_rfl) (by kernel_rfl) ⟨rfl, rfl, trivial⟩ (by kernel_rfl) ?_
  refine k_and (fun w h_ => ⟨h_.sat.on _ (.tail _ (.head _)), trivial⟩) ?_
  refine kp_done ?_
  refine K.mv1 ?_
  refine kl_store (cs' := #[.int .i64 r3.2.2.2.2.2.1, .int .i64 r3.2.2.2.2.2.2]) [.st ⟨b2, 0, none⟩ (.int .i64 r3.2.2.2.2.2.1), .st ⟨b2, 1, none⟩ (.int .i64 r3.2.2.2.2.2.2)] (by kernel_rfl) (by kernel_rfl) (by kernel_rfl) ⟨rfl, rfl, trivial⟩ (by kernel_rfl) ?_
  refine K.mv2 ?_
  refine K.drop ?_
  refine K.mv2 ?_
  refine K.drop ?_
  refine k_nil ?_
  refine k_np ?_
  refine k_then ?_
  refine k_ret ?_
  refine k_then_ret ?_
  obtain rfl := Option.some.inj h
  refine k_doneD0 (v := .tuple #[.agg #[.slice none 0 0, .slice none 0 0], .agg #[.int .i64 r3.2.2.2.2.2.1, .int .i64 r3.2.2.2.2.2.2]]) [.val (.slice none 0 0), .val (.slice none 0 0), .val (.int .i64 r3.2.2.2.2.2.1), .val (.int .i64 r3.2.2.2.2.2.2)] [.ld ⟨b1, 0, none⟩ (.slice none 0 0), .ld ⟨b1, 1, none⟩ (.slice none 0 0), .ld ⟨b2, 0, none⟩ (.int .i64 r3.2.2.2.2.2.1), .ld ⟨b2, 1, none⟩ (.int .i64 r3.2.2.2.2.2.2)] [none_, none_] (by kernel_rfl) (by kernel_rfl) ⟨⟨1, _, _, _, rfl, rfl, rfl⟩, ⟨1, _, _, _, rfl, rfl, rfl⟩, ⟨0, _, _, _, rfl, rfl, rfl⟩, ⟨0, _, _, _, rfl, rfl, rfl⟩, trivial⟩ ?_
  refine k_none ?_
  refine k_none ?_
  refine K.mv2 ?_
  refine K.drop ?_
  refine K.mv2 ?_
  refine K.drop ?_
  exact k_end ⟨none_, none, 0, none_, none, 0, (OwnR.nil rs42 42 none_), (OwnT.nil encS 9 1 none_), rfl, rfl⟩
 ·have h := condF h t9
  refine k_skip ?_
  refine k_then ?_
  refine k_seq ?_
  refine k_region ?_
  refine kl_steps 1 [(2, .pointer (some ⟨b1, 0, none⟩)), (3, .pointer (some ⟨b2, 0, none⟩)), (4, .pointer (some ⟨b8, 0, none⟩)), (16, .func (.func 25) #[] #[.pointer (some ⟨b1, 0, none⟩), .pointer (some ⟨b2, 0, none⟩)])] (by kernel_rfl) ?_
  refine kl_defer { target := .fn (.func 25) #[.pointer (some ⟨b1, 0, none⟩), .pointer (some ⟨b2, 0, none⟩)], args := #[] } (by kernel_rfl) (by kernel_rfl) (by kernel_rfl) ?_
  refine k_nil ?_
  refine k_then ?_
  obtain ⟨J10, hJ10, h⟩ := joinSplit h
  refine k_cut (τ := Unit) (fun t => [(2, .pointer (some ⟨b1, 0, none⟩)), (3, .pointer (some ⟨b2, 0, none⟩)), (4, .pointer (some ⟨b8, 0, none⟩))]) (fun t => blk b2 (.cells #[.int .i64 r3.2.2.2.2.2.1, .int .i64 r3.2.2.2.2.2.2] 31 (0, 0)) :: blk b8 (.cells #[.int .i64 r3.1, .string r3.2.1, .int .i64 r3.2.2.1, .int .i64 r3.2.2.2.1, .slice A5 r3.2.2.2.2.1.length k6] 36 (0, 0)) :: h4 :: blk b1 (.cells #[.slice none 0 0, .slice none 0 0] 28 (0, 0)) :: X) (fun t => J10 () = some r) ?_ ?_
  ·rintro ⟨⟩ h
   subst hJ10
   refine k_seq ?_
   refine k_region ?_
   refine kl_steps 1 [(2, .pointer (some ⟨b1, 0, none⟩)), (3, .pointer (some ⟨b2, 0, none⟩)), (4, .pointer (some ⟨b8, 0, none⟩)), (23, .pointer (some ⟨b8, 3, none⟩))] (by kernel_rfl) ?_
   refine kl_load (v := .int .i64 r3.2.2.2.1) [.val (.int .i64 r3.2.2.2.1)] [.ld ⟨b8, 3, none⟩ (.int .i64 r3.2.2.2.1)] (by kernel_rfl) (by kernel_rfl) (by kernel_rfl) ⟨⟨1, _, _, _, rfl, rfl, rfl⟩, trivial⟩ ?_
   refine kl_steps 2 [(2, .pointer (some ⟨b1, 0, none⟩)), (3, .pointer (some ⟨b2, 0, none⟩)), (4, .pointer (some ⟨b8, 0, none⟩)), (26, .agg #[.string (⟨#[]⟩ : ByteArray), .int .i64 r3.2.2.2.1, .int .i64 (0 : Int), .int .i64 (0 : Int), .slice none 0 0, .slice none 0 0, .int .i64 (0 : Int), .slice none 0 0])] (by kernel_rfl) ?_
   refine kl_new (.cells #[.string (⟨#[]⟩ : ByteArray), .int .i64 r3.2.2.2.1, .int .i64 (0 : Int), .int .i64 (0 : Int), .slice none 0 0, .slice none 0 0, .int .i64 (0 : Int), .slice none 0 0] 63 (0, 0)) (fun b => .pointer (some ⟨b, 0, none⟩)) (by kernel_rfl) (by kernel_rfl) (fun _ => by kernel_rfl) fun b11 => ?_
   refine kl_steps 1 [(2, .pointer (some ⟨b1, 0, none⟩)), (3, .pointer (some ⟨b2, 0, none⟩)), (4, .pointer (some ⟨b8, 0, none⟩)), (28, .agg #[.slice none 0 0, .slice none 0 0, .pointer (some ⟨b11, 0, none⟩)])] (by kernel_rfl) ?_
   refine kl_new (.cells #[.slice none 0 0, .slice none 0 0, .pointer (some ⟨b11, 0, none⟩)] 65 (0, 0)) (fun b => .pointer (some ⟨b, 0, none⟩)) (by kernel_rfl) (by kernel_rfl) (fun _ => by kernel_rfl) fun b12 => ?_
   refine kl_steps 1 [(2, .pointer (some ⟨b1, 0, none⟩)), (3, .pointer (some ⟨b2, 0, none⟩)), (4, .pointer (some ⟨b8, 0, none⟩)), (5, .pointer (some ⟨b12, 0, none⟩))] (by kernel_rfl) ?_
   refine k_nil ?_
   refine k_then ?_
   refine k_seq ?_
   refine k_region ?_
   refine kl_steps 2 [(2, .pointer (some ⟨b1, 0, none⟩)), (3, .pointer (some ⟨b2, 0, none⟩)), (4, .pointer (some ⟨b8, 0, none⟩)), (5, .pointer (some ⟨b12, 0, none⟩)), (30, .pointer (some ⟨b12, 0, none⟩)), (31, .agg #[.string (⟨#[]⟩ : ByteArray), .int .i64 (0 : Int), .int .i64 (0 : Int), .int .i64 (0 : Int), .slice none 0 0])] (by kernel_rfl) ?_
   refine kl_new (.cells #[.string (⟨#[]⟩ : ByteArray), .int .i64 (0 : Int), .int .i64 (0 : Int), .int .i64 (0 : Int), .slice none 0 0] 42 (0, 0)) (fun b => .slice (some ⟨b, 0, none⟩) 1 1) (by kernel_rfl) (by kernel_rfl) (fun _ => by kernel_rfl) fun b13 => ?_
   refine kl_steps 3 [(2, .pointer (some ⟨b1, 0, none⟩)), (3, .pointer (some ⟨b2, 0, none⟩)), (4, .pointer (some ⟨b8, 0, none⟩)), (5, .pointer (some ⟨b12, 0, none⟩)), (32, .slice (some ⟨b13, 0, none⟩) 1 1), (35, .pointer (some ⟨b12, 0, none⟩))] (by kernel_rfl) ?_
   refine K.mv1 ?_
   refine kl_store (cs' := #[.slice (some ⟨b13, 0, none⟩) 1 1, .slice none 0 0, .pointer (some ⟨b11, 0, none⟩)]) [.st ⟨b12, 0, none⟩ (.slice (some ⟨b13, 0, none⟩) 1 1)] (by kernel_rfl) (by kernel_rfl) (by kernel_rfl) ⟨rfl, trivial⟩ (by kernel_rfl) ?_
   refine k_nil ?_
   refine k_then ?_
   refine k_seq ?_
   refine k_region ?_
   refine kl_steps 1 [(2, .pointer (some ⟨b1, 0, none⟩)), (3, .pointer (some ⟨b2, 0, none⟩)), (4, .pointer (some ⟨b8, 0, none⟩)), (5, .pointer (some ⟨b12, 0, none⟩)), (36, .pointer (some ⟨b12, 0, none⟩))] (by kernel_rfl) ?_
   refine kl_load (v := .agg #[.int .i64 r3.1, .string r3.2.1, .int .i64 r3.2.2.1, .int .i64 r3.2.2.2.1, .slice A5 r3.2.2.2.2.1.length k6]) [.val (.int .i64 r3.1), .val (.string r3.2.1), .val (.int .i64 r3.2.2.1), .val (.int .i64 r3.2.2.2.1), .val (.slice A5 r3.2.2.2.2.1.length k6)] [.ld ⟨b8, 0, none⟩ (.int .i64 r3.1), .ld ⟨b8, 1, none⟩ (.string r3.2.1), .ld ⟨b8, 2, none⟩ (.int .i64 r3.2.2.1), .ld ⟨b8, 3, none⟩ (.int .i64 r3.2.2.2.1), .ld ⟨b8, 4, none⟩ (.slice A5 r3.2.2.2.2.1.length k6)] (by kernel_rfl) (by kernel_rfl) (by kernel_rfl) ⟨⟨4, _, _, _, rfl, rfl, rfl⟩, ⟨4, _, _, _, rfl, rfl, rfl⟩, ⟨4, _, _, _, rfl, rfl, rfl⟩, ⟨4, _, _, _, rfl, rfl, rfl⟩, ⟨4, _, _, _, rfl, rfl, rfl⟩, trivial⟩ ?_
   refine K.mv4 ?_
   refine K.drop ?_
   refine k_none ?_
   refine K.mv2 ?_
   refine k_row (T := 42) (n := 1) (xs := [((⟨#[]⟩ : ByteArray), (0 : Int), (0 : Int), (0 : Int), [])]) (RowI.one (rs42_o (x := ((⟨#[]⟩ : ByteArray), (0 : Int), (0 : Int), (0 : Int), [])) (OwnT.nil e53 53 3 none_))) rfl rfl (Nat.le_of_ble_eq_true rfl) fun h14 o15 => ?_
   refine k_none ?_
   refine k_none ?_
   refine k_none ?_
   refine k_none ?_
   refine K.mvN [_, _, _, _, _, _] _ _ ?_
   refine K.mv1 ?_
   refine K.mvN [_, _, _, _, _] _ _ ?_
   refine K.mvN [_, _, _, _, _, _] _ _ ?_
   rcases prElim h with ⟨i17, hr16, h⟩ | ⟨r16, hr16, h⟩
   ·refine kl_call (none_ :: blk b2 (.cells #[.int .i64 r3.2.2.2.2.2.1, .int .i64 r3.2.2.2.2.2.2] 31 (0, 0)) :: h4 :: blk b1 (.cells #[.slice none 0 0, .slice none 0 0] 28 (0, 0)) :: X) (by kernel_rfl) (by kernel_rfl) (by kernel_rfl) (check_checker_node.ok (b0 := b12) (b1002_ := b11) hr16 o15 (OwnT.nil encS 9 1 none_) (OwnT.nil e53 53 3 none_) (OwnT.nil encS 9 1 none_) (RdT.nil encS 1 none_) (OwnR.rd o7) hG) rfl ⟨(.head _), (.tail _ (.tail _ (.head _))), (.tail _ (.tail _ (.tail _ (.tail _ hm_G)))), trivial⟩ ?_
    rintro _ _ ⟨rfl, rfl⟩
    refine nx_pan ?_
    refine k_then_panic ?_
    refine K.drop ?_
    refine K.mv1 ?_
    refine K.drop ?_
    refine K.mv1 ?_
    obtain rfl := Option.some.inj h
    refine k_panD (v := .tuple #[.agg #[.slice none 0 0, .slice none 0 0], .agg #[.int .i64 i17.1, .int .i64 i17.2]]) (blk b1 (.cells #[.slice none 0 0, .slice none 0 0] 28 (0, 0)) :: blk b2 (.cells #[.int .i64 i17.1, .int .i64 i17.2] 31 (0, 0)) :: X) (fun _ => by kernel_rfl) (fun w_ hw_ => check_Check_1_pan hw_) [.val (.slice none 0 0), .val (.slice none 0 0), .val (.int .i64 i17.1), .val (.int .i64 i17.2)] [.ld ⟨b1, 0, none⟩ (.slice none 0 0), .ld ⟨b1, 1, none⟩ (.slice none 0 0), .ld ⟨b2, 0, none⟩ (.int .i64 i17.1), .ld ⟨b2, 1, none⟩ (.int .i64 i17.2)] [none_, none_] (by kernel_rfl) (by kernel_rfl) ⟨⟨0, _, _, _, rfl, rfl, rfl⟩, ⟨0, _, _, _, rfl, rfl, rfl⟩, ⟨1, _, _, _, rfl, rfl, rfl⟩, ⟨1, _, _, _, rfl, rfl, rfl⟩, trivial⟩ fun w_ hw_ => ?_
    exact ⟨⟨none_, none, 0, none_, none, 0, (OwnR.nil rs42 42 none_), (OwnT.nil encS 9 1 none_), rfl, rfl⟩, St.nones 2 hw_.tail.tail⟩
   refine kl_call (none_ :: blk b2 (.cells #[.int .i64 r3.2.2.2.2.2.1, .int .i64 r3.2.2.2.2.2.2] 31 (0, 0)) :: h4 :: blk b1 (.cells #[.slice none 0 0, .slice none 0 0] 28 (0, 0)) :: X) (by kernel_rfl) (by kernel_rfl) (by kernel_rfl) (check_checker_node.ok (b0 := b12) (b1002_ := b11) hr16 o15 (OwnT.nil encS 9 1 none_) (OwnT.nil e53 53 3 none_) (OwnT.nil encS 9 1 none_) (RdT.nil encS 1 none_) (OwnR.rd o7) hG) rfl ⟨(.head _), (.tail _ (.tail _ (.head _))), (.tail _ (.tail _ (.tail _ (.tail _ hm_G)))), trivial⟩ ?_
   rintro _ _ ⟨h18, A19, k20, h22, A23, k24, h26, A27, k28, h30, A31, k32, o21, o25, o29, o33, rfl, rfl⟩
   refine nx_ret ?_
   refine K.mvN [_, _, _, _, _, _] _ _ ?_
   refine K.drop ?_
   refine K.mvN [_, _, _, _, _, _, _] _ _ ?_
   refine K.drop ?_
   refine k_nil ?_
   refine k_then ?_
   refine k_seq ?_
   refine k_nopan ?_
   refine k_region_plan [(0, 0), (1, 0), (2, 0), (3, 0), (4, 3), (5, 0), (6, 0), (7, 0), (8, 3), (9, 0), (10, 0), (11, 3)] (fun w => OnAll [blk b12 (.cells #[.slice A19 r16.1.length k20, .slice A23 r16.2.1.length k24, .pointer (some ⟨b11, 0, none⟩)] 65 (0, 0)), blk b11 (.cells #[.string (⟨#[]⟩ : ByteArray), .int .i64 r3.2.2.2.1, .int .i64 (0 : Int), .int .i64 r16.2.2.1, .slice A27 r16.2.2.2.1.length k28, .slice A31 r16.2.2.2.2.1.length k32, .int .i64 r16.2.2.2.2.2, .slice none 0 0] 63 (0, 0))] w) (by kernel_rfl) (by kernel_rfl) (fun _ _ d _ _ h => by cases d <;> exact h) (fun w h_ => ⟨h_.sat.on _ (.head _), h_.sat.on _ (.tail _ (.tail _ (.tail _ (.head _)))), trivial⟩) ?_
   simp only [planOps, List.filterMap_cons, List.filterMap_nil, List.getElem?_toArray, List.getElem?_cons_zero, List.getElem?_cons_succ, Option.map_some, List.drop_succ_cons, List.drop_zero, List.length_cons, List.length_nil]
   refine kp_steps 4 [(2, .pointer (some ⟨b1, 0, none⟩)), (3, .pointer (some ⟨b2, 0, none⟩)), (5, .pointer (some ⟨b12, 0, none⟩)), (42, .pointer (some ⟨b12, 0, none⟩))] (by kernel_rfl) (by kernel_rfl) ?_
   refine kp_loadS (v := .slice A19 r16.1.length k20) [blk b12 (.cells #[.slice A19 r16.1.length k20, .slice A23 r16.2.1.length k24, .pointer (some ⟨b11, 0, none⟩)] 65 (0, 0)), blk b11 (.cells #[.string (⟨#[]⟩ : ByteArray), .int .i64 r3.2.2.2.1, .int .i64 (0 : Int), .int .i64 r16.2.2.1, .slice A27 r16.2.2.2.1.length k28, .slice A31 r16.2.2.2.2.1.length k32, .int .i64 r16.2.2.2.2.2, .slice none 0 0] 63 (0, 0))] [.val (.slice A19 r16.1.length k20)] [.ld ⟨b12, 0, none⟩ (.slice A19 r16.1.length k20)] (by kernel_rfl) (by kernel_rfl) (by kernel_rfl) (fun _ h => h) ⟨⟨0, _, _, _, rfl, rfl, rfl⟩, trivial⟩ ?_
   refine kp_steps 3 [(2, .pointer (some ⟨b1, 0, none⟩)), (3, .pointer (some ⟨b2, 0, none⟩)), (5, .pointer (some ⟨b12, 0, none⟩)), (43, .slice A19 r16.1.length k20), (46, .pointer (some ⟨b12, 2, none⟩))] (by kernel_rfl) (by kernel_rfl) ?_
   refine kp_loadS (v := .pointer (some ⟨b11, 0, none⟩)) [blk b12 (.cells #[.slice A19 r16.1.length k20, .slice A23 r16.2.1.length k24, .pointer (some ⟨b11, 0, none⟩)] 65 (0, 0)), blk b11 (.cells #[.string (⟨#[]⟩ : ByteArray), .int .i64 r3.2.2.2.1, .int .i64 (0 : Int), .int .i64 r16.2.2.1, .slice A27 r16.2.2.2.1.length k28, .slice A31 r16.2.2.2.2.1.length k32, .int .i64 r16.2.2.2.2.2, .slice none 0 0] 63 (0, 0))] [.val (.pointer (some ⟨b11, 0, none⟩))] [.ld ⟨b12, 2, none⟩ (.pointer (some ⟨b11, 0, none⟩))] (by kernel_rfl) (by kernel_rfl) (by kernel_rfl) (fun _ h => h) ⟨⟨0, _, _, _, rfl, rfl, rfl⟩, trivial⟩ ?_
   refine kp_steps 2 [(2, .pointer (some ⟨b1, 0, none⟩)), (3, .pointer (some ⟨b2, 0, none⟩)), (5, .pointer (some ⟨b12, 0, none⟩)), (43, .slice A19 r16.1.length k20), (49, .pointer (some ⟨b11, 0, none⟩))] (by kernel_rfl) (by kernel_rfl) ?_
   refine kp_loadS (v := .agg #[.string (⟨#[]⟩ : ByteArray), .int .i64 r3.2.2.2.1, .int .i64 (0 : Int), .int .i64 r16.2.2.1, .slice A27 r16.2.2.2.1.length k28]) [blk b12 (.cells #[.slice A19 r16.1.length k20, .slice A23 r16.2.1.length k24, .pointer (some ⟨b11, 0, none⟩)] 65 (0, 0)), blk b11 (.cells #[.string (⟨#[]⟩ : ByteArray), .int .i64 r3.2.2.2.1, .int .i64 (0 : Int), .int .i64 r16.2.2.1, .slice A27 r16.2.2.2.1.length k28, .slice A31 r16.2.2.2.2.1.length k32, .int .i64 r16.2.2.2.2.2, .slice none 0 0] 63 (0, 0))] [.val (.string (⟨#[]⟩ : ByteArray)), .val (.int .i64 r3.2.2.2.1), .val (.int .i64 (0 : Int)), .val (.int .i64 r16.2.2.1), .val (.slice A27 r16.2.2.2.1.length k28)] [.ld ⟨b11, 0, none⟩ (.string (⟨#[]⟩ : ByteArray)), .ld ⟨b11, 1, none⟩ (.int .i64 r3.2.2.2.1), .ld ⟨b11, 2, none⟩ (.int .i64 (0 : Int)), .ld ⟨b11, 3, none⟩ (.int .i64 r16.2.2.1), .ld ⟨b11, 4, none⟩ (.slice A27 r16.2.2.2.1.length k28)] (by kernel_rfl) (by kernel_rfl) (by kernel_rfl) (fun _ h => h) ⟨⟨1, _, _, _, rfl, rfl, rfl⟩, ⟨1, _, _, _, rfl, rfl, rfl⟩, ⟨1, _, _, _, rfl, rfl, rfl⟩, ⟨1, _, _, _, rfl, rfl, rfl⟩, ⟨1, _, _, _, rfl, rfl, rfl⟩, trivial⟩ ?_
   refine kp_done ?_
   obtain ⟨x34, hx34, h⟩ := bindSome h
   refine kl_elemR (T := 42) (kd := .i64) (R := rs42) rfl (by kernel_rfl) (by kernel_rfl) (by kernel_rfl) (by kernel_rfl) (by kernel_rfl) (by kernel_rfl) hx34 (OwnR.rd o21) fun p35 u38 q39 e36 y37 => ?_
   obtain ⟨A40, k41, rfl, o42⟩ := rs42_r q39
   refine K.mv4 ?_
   refine K.mv2 ?_
   obtain ⟨l43, hl43, h⟩ := bindSome h
   refine kl_estoreL0 (v := .agg #[.string (⟨#[]⟩ : ByteArray), .int .i64 r3.2.2.2.1, .int .i64 (0 : Int), .int .i64 r16.2.2.1, .slice A27 r16.2.2.2.1.length k28]) (x' := ((⟨#[]⟩ : ByteArray), r3.2.2.2.1, (0 : Int), r16.2.2.1, r16.2.2.2.1)) rfl (by kernel_rfl) (by kernel_rfl) (by kernel_rfl) (by kernel_rfl) (by kernel_rfl) y37 o21 (rs42_o (x := ((⟨#[]⟩ : ByteArray), r3.2.2.2.1, (0 : Int), r16.2.2.1, r16.2.2.2.1)) o29) hl43 fun h44 o45 => ?_
   have g46 := lSet0_len hl43
   refine K.weak (env' := [(2, .pointer (some ⟨b1, 0, none⟩)), (3, .pointer (some ⟨b2, 0, none⟩)), (5, .pointer (some ⟨b12, 0, none⟩)), (50, .agg #[.string (⟨#[]⟩ : ByteArray), .int .i64 r3.2.2.2.1, .int .i64 (0 : Int), .int .i64 r16.2.2.1, .slice A27 r16.2.2.2.1.length k28])]) ?_ ⟨rfl, rfl, rfl, (by first | rfl | (rw [g46]; rfl)), trivial⟩
   refine K.eq (l' := h44 :: blk b12 (.cells #[.slice A19 l43.length k20, .slice A23 r16.2.1.length k24, .pointer (some ⟨b11, 0, none⟩)] 65 (0, 0)) :: h22 :: blk b11 (.cells #[.string (⟨#[]⟩ : ByteArray), .int .i64 r3.2.2.2.1, .int .i64 (0 : Int), .int .i64 r16.2.2.1, .slice A27 r16.2.2.2.1.length k28, .slice A31 r16.2.2.2.2.1.length k32, .int .i64 r16.2.2.2.2.2, .slice none 0 0] 63 (0, 0)) :: h30 :: blk b2 (.cells #[.int .i64 r3.2.2.2.2.2.1, .int .i64 r3.2.2.2.2.2.2] 31 (0, 0)) :: blk b1 (.cells #[.slice none 0 0, .slice none 0 0] 28 (0, 0)) :: X) rfl (by first | rfl | (rw [g46]; first | done | rfl)) ?_
   refine k_nil ?_
   refine k_np ?_
   refine k_then ?_
   refine k_seq ?_
   refine k_region ?_
   refine kl_steps 3 [(2, .pointer (some ⟨b1, 0, none⟩)), (3, .pointer (some ⟨b2, 0, none⟩)), (54, .pointer (some ⟨b12, 0, none⟩))] (by kernel_rfl) ?_
   refine kl_load (v := .agg #[.slice A19 l43.length k20, .slice A23 r16.2.1.length k24]) [.val (.slice A19 l43.length k20), .val (.slice A23 r16.2.1.length k24)] [.ld ⟨b12, 0, none⟩ (.slice A19 l43.length k20), .ld ⟨b12, 1, none⟩ (.slice A23 r16.2.1.length k24)] (by kernel_rfl) (by kernel_rfl) (by kernel_rfl) ⟨⟨1, _, _, _, rfl, rfl, rfl⟩, ⟨1, _, _, _, rfl, rfl, rfl⟩, trivial⟩ ?_
   refine K.mv1 ?_
   refine K.drop ?_
   refine K.mv2 ?_
   refine K.drop ?_
   refine K.mv2 ?_
   refine K.drop ?_
   refine kl_steps 1 [(2, .pointer (some ⟨b1, 0, none⟩)), (3, .pointer (some ⟨b2, 0, none⟩)), (55, .agg #[.slice A19 l43.length k20, .slice A23 r16.2.1.length k24]), (56, .agg #[.int .i64 (0 : Int), .int .i64 (0 : Int)])] (by kernel_rfl) ?_
   refine K.mv3 ?_
   refine kl_store (cs' := #[.slice A19 l43.length k20, .slice A23 r16.2.1.length k24]) [.st ⟨b1, 0, none⟩ (.slice A19 l43.length k20), .st ⟨b1, 1, none⟩ (.slice A23 r16.2.1.length k24)] (by kernel_rfl) (by kernel_rfl) (by kernel_rfl) ⟨rfl, rfl, trivial⟩ (by kernel_rfl) ?_
   refine K.mv3 ?_
   refine kl_store (cs' := #[.int .i64 (0 : Int), .int .i64 (0 : Int)]) [.st ⟨b2, 0, none⟩ (.int .i64 (0 : Int)), .st ⟨b2, 1, none⟩ (.int .i64 (0 : Int))] (by kernel_rfl) (by kernel_rfl) (by kernel_rfl) ⟨rfl, rfl, trivial⟩ (by kernel_rfl) ?_
   refine k_nil ?_
   refine k_then ?_
   refine k_ret ?_
   obtain rfl := Option.some.inj h
   refine k_doneD (fun _ => by kernel_rfl) (check_Check_1_idle (.pointer (some ⟨b1, 0, none⟩)) (.pointer (some ⟨b2, 0, none⟩))) (v := .tuple #[.agg #[.slice A19 l43.length k20, .slice A23 r16.2.1.length k24], .agg #[.int .i64 (0 : Int), .int .i64 (0 : Int)]]) [.val (.slice A19 l43.length k20), .val (.slice A23 r16.2.1.length k24), .val (.int .i64 (0 : Int)), .val (.int .i64 (0 : Int))] [.ld ⟨b1, 0, none⟩ (.slice A19 l43.length k20), .ld ⟨b1, 1, none⟩ (.slice A23 r16.2.1.length k24), .ld ⟨b2, 0, none⟩ (.int .i64 (0 : Int)), .ld ⟨b2, 1, none⟩ (.int .i64 (0 : Int))] [h44, h22] (by kernel_rfl) (by kernel_rfl) ⟨⟨1, _, _, _, rfl, rfl, rfl⟩, ⟨1, _, _, _, rfl, rfl, rfl⟩, ⟨0, _, _, _, rfl, rfl, rfl⟩, ⟨0, _, _, _, rfl, rfl, rfl⟩, trivial⟩ ?_
   refine K.drop ?_
   refine K.drop ?_
   exact k_endD ⟨h44, A19, k20, h22, A23, k24, o45, o25, rfl, rfl⟩
  ·skip
   refine k_seq ?_
   refine k_region ?_
   refine kl_load (v := .agg #[.int .i64 r3.1, .string r3.2.1, .int .i64 r3.2.2.1, .int .i64 r3.2.2.2.1, .slice A5 r3.2.2.2.2.1.length k6]) [.val (.int .i64 r3.1), .val (.string r3.2.1), .val (.int .i64 r3.2.2.1), .val (.int .i64 r3.2.2.2.1), .val (.slice A5 r3.2.2.2.2.1.length k6)] [.ld ⟨b8, 0, none⟩ (.int .i64 r3.1), .ld ⟨b8, 1, none⟩ (.string r3.2.1), .ld ⟨b8, 2, none⟩ (.int .i64 r3.2.2.1), .ld ⟨b8, 3, none⟩ (.int .i64 r3.2.2.2.1), .ld ⟨b8, 4, none⟩ (.slice A5 r3.2.2.2.2.1.length k6)] (by kernel_rfl) (by kernel_rfl) (by kernel_rfl) ⟨⟨1, _, _, _, rfl, rfl, rfl⟩, ⟨1, _, _, _, rfl, rfl, rfl⟩, ⟨1, _, _, _, rfl, rfl, rfl⟩, ⟨1, _, _, _, rfl, rfl, rfl⟩, ⟨1, _, _, _, rfl, rfl, rfl⟩, trivial⟩ ?_
   obtain ⟨r47, hr47, h⟩ := bindSome h
   refine kl_callv (by kernel_rfl) (by kernel_rfl) (by kernel_rfl) (parse_Height.ok hr47 (OwnR.rd o7)) ⟨(.tail _ (.tail _ (.head _))), trivial⟩ ?_
   refine kl_steps 1 [(2, .pointer (some ⟨b1, 0, none⟩)), (3, .pointer (some ⟨b2, 0, none⟩)), (4, .pointer (some ⟨b8, 0, none⟩)), (19, .bool (decide (r47 > (100 : Int))))] (by kernel_rfl) ?_
   refine k_nil ?_
   refine k_then ?_
   refine k_cond (t := decide (r47 > (100 : Int))) (by kernel_rfl) (fun t48 => ?_) (fun t48 => ?_)
   ·have h := condT h t48
    refine k_region ?_
    refine kl_steps 1 [(2, .pointer (some ⟨b1, 0, none⟩)), (3, .pointer (some ⟨b2, 0, none⟩)), (4, .pointer (some ⟨b8, 0, none⟩)), (20, .pointer (some ⟨b8, 3, none⟩))] (by kernel_rfl) ?_
    refine kl_load (v := .int .i64 r3.2.2.2.1) [.val (.int .i64 r3.2.2.2.1)] [.ld ⟨b8, 3, none⟩ (.int .i64 r3.2.2.2.1)] (by kernel_rfl) (by kernel_rfl) (by kernel_rfl) ⟨⟨1, _, _, _, rfl, rfl, rfl⟩, trivial⟩ ?_
    rcases prElim h with ⟨i50, hr49, h⟩ | ⟨r49, hr49, h⟩
    ·refine kl_call (blk b2 (.cells #[.int .i64 r3.2.2.2.2.2.1, .int .i64 r3.2.2.2.2.2.2] 31 (0, 0)) :: blk b8 (.cells #[.int .i64 r3.1, .string r3.2.1, .int .i64 r3.2.2.1, .int .i64 r3.2.2.2.1, .slice A5 r3.2.2.2.2.1.length k6] 36 (0, 0)) :: h4 :: blk b1 (.cells #[.slice none 0 0, .slice none 0 0] 28 (0, 0)) :: X) (by kernel_rfl) (by kernel_rfl) (by kernel_rfl) (check_fail.ok hr49) rfl trivial ?_
     rintro _ _ ⟨rfl, rfl⟩
     refine nx_pan ?_
     refine k_then_panic ?_
     refine K.mv1 ?_
     refine K.drop ?_
     refine K.mv1 ?_
     refine K.drop ?_
     refine K.mv1 ?_
     obtain rfl := Option.some.inj h
     refine k_panD (v := .tuple #[.agg #[.slice none 0 0, .slice none 0 0], .agg #[.int .i64 i50.1, .int .i64 i50.2]]) (blk b1 (.cells #[.slice none 0 0, .slice none 0 0] 28 (0, 0)) :: blk b2 (.cells #[.int .i64 i50.1, .int .i64 i50.2] 31 (0, 0)) :: X) (fun _ => by kernel_rfl) (fun w_ hw_ => check_Check_1_pan hw_) [.val (.slice none 0 0), .val (.slice none 0 0), .val (.int .i64 i50.1), .val (.int .i64 i50.2)] [.ld ⟨b1, 0, none⟩ (.slice none 0 0), .ld ⟨b1, 1, none⟩ (.slice none 0 0), .ld ⟨b2, 0, none⟩ (.int .i64 i50.1), .ld ⟨b2, 1, none⟩ (.int .i64 i50.2)] [none_, none_] (by kernel_rfl) (by kernel_rfl) ⟨⟨0, _, _, _, rfl, rfl, rfl⟩, ⟨0, _, _, _, rfl, rfl, rfl⟩, ⟨1, _, _, _, rfl, rfl, rfl⟩, ⟨1, _, _, _, rfl, rfl, rfl⟩, trivial⟩ fun w_ hw_ => ?_
     exact ⟨⟨none_, none, 0, none_, none, 0, (OwnR.nil rs42 42 none_), (OwnT.nil encS 9 1 none_), rfl, rfl⟩, St.nones 2 hw_.tail.tail⟩
    refine kl_call (blk b2 (.cells #[.int .i64 r3.2.2.2.2.2.1, .int .i64 r3.2.2.2.2.2.2] 31 (0, 0)) :: blk b8 (.cells #[.int .i64 r3.1, .string r3.2.1, .int .i64 r3.2.2.1, .int .i64 r3.2.2.2.1, .slice A5 r3.2.2.2.2.1.length k6] 36 (0, 0)) :: h4 :: blk b1 (.cells #[.slice none 0 0, .slice none 0 0] 28 (0, 0)) :: X) (by kernel_rfl) (by kernel_rfl) (by kernel_rfl) (check_fail.ok hr49) rfl trivial ?_
    rintro _ _ ⟨rfl, rfl⟩
    refine nx_ret0 ?_
    refine k_nil ?_
    refine k_then ?_
    exact k_meet () h ⟨rfl, rfl, rfl, trivial⟩ rfl
   ·have h := condF h t48
    refine k_skip ?_
    refine k_then ?_
    exact k_meet () h ⟨rfl, rfl, rfl, trivial⟩ rfl
end Go.Proofs.YtdkgnlaneccioaaGreatDoor
namespace Go.Proofs.YtdkgnlaneccioaaGreatDoor
open Go Go.RowKit
def r13_Library.l0 : Nat → (a0 : ByteArray) → (J2 : (Unit → Option (Int))) → (x3 : Int) → Option (Int)
 | 0, _, _, _ => none
 | m4 + 1, a0, J2, x3 => cond (decide (x3 < (22 : Int))) ((cond (!(a0.toList == (⟨#[]⟩ : ByteArray).toList)) ((lIdx ([(⟨#[112, 114, 105, 110, 116]⟩ : ByteArray), (⟨#[116, 121, 112, 101]⟩ : ByteArray), (⟨#[116, 111, 115, 116, 114, 105, 110, 103]⟩ : ByteArray), (⟨#[116, 111, 110, 117, 109, 98, 101, 114]⟩ : ByteArray), (⟨#[110, 101, 120, 116]⟩ : ByteArray), (⟨#[112, 97, 105, 114, 115]⟩ : ByteArray), (⟨#[105, 112, 97, 105, 114, 115]⟩ : ByteArray), (⟨#[114, 97, 119, 108, 101, 110]⟩ : ByteArray), (⟨#[115, 116, 97, 116, 115]⟩ : ByteArray), (⟨#[112, 114, 111, 98, 101, 115]⟩ : ByteArray), (⟨#[]⟩ : ByteArray), (⟨#[116, 97, 98, 108, 101, 46, 105, 110, 115, 101, 114, 116]⟩ : ByteArray), (⟨#[116, 97, 98, 108, 101, 46, 114, 101, 109, 111, 118, 101]⟩ : ByteArray), (⟨#[116, 97, 98, 108, 101, 46, 99, 111, 110, 99, 97, 116]⟩ : ByteArray), (⟨#[116, 97, 98, 108, 101, 46, 117, 110, 112, 97, 99, 107]⟩ : ByteArray), (⟨#[116, 97, 98, 108, 101, 46, 109, 111, 118, 101]⟩ : ByteArray), (⟨#[116, 97, 98, 108, 101, 46, 115, 111, 114, 116]⟩ : ByteArray), (⟨#[117, 116, 102, 56, 46, 108, 101, 110]⟩ : ByteArray), (⟨#[117, 116, 102, 56, 46, 99, 104, 97, 114]⟩ : ByteArray), (⟨#[117, 116, 102, 56, 46, 99, 111, 100, 101, 112, 111, 105, 110, 116]⟩ : ByteArray), (⟨#[117, 116, 102, 56, 46, 111, 102, 102, 115, 101, 116]⟩ : ByteArray), (⟨#[117, 116, 102, 56, 46, 99, 111, 100, 101, 115]⟩ : ByteArray)]) x3).bind fun x9 => some (x9.toList == a0.toList)) (some false) : Option Bool).bind fun q6 => cond q6 (some (IntKind.i64.wrap (x3 + (1 : Int)))) (r13_Library.l0 m4 a0 J2 (IntKind.i64.wrap (x3 + (1 : Int))))) (J2 ())
def r13_Library.f (k : Nat) (a0 : ByteArray) : Option (Int) := joinF (fun (_ : Unit) => some ((0 : Int))) (fun J2 => r13_Library.l0 k a0 J2 (0 : Int))
set_option maxRecDepth 100000 in
theorem r13_Library.ok {k : Nat} {a0 : ByteArray} {r : Int} (h : r13_Library.f k a0 = some r) : Ct Tryz.prog 10 #[.string a0] [] [] (fun e l1 => e = .returned (.int .i64 r) ∧ l1 = []) := by
 refine ct_enter (args := [.string a0]) Tryz.func10 rfl (Nat.le_of_ble_eq_true rfl) ?_
 intro A X hh_
 unfold r13_Library.f at h
 refine k_seq ?_
 refine k_region ?_
 refine kl_steps 1 [(0, .string a0)] (by kernel_rfl) ?_
 refine k_nil ?_
 refine k_then ?_
 refine k_seq ?_
 refine k_region ?_
 refine kl_new (.cells #[.string (⟨#[112, 114, 105, 110, 116]⟩ : ByteArray), .string (⟨#[116, 121, 112, 101]⟩ : ByteArray), .string (⟨#[116, 111, 115, 116, 114, 105, 110, 103]⟩ : ByteArray), .string (⟨#[116, 111, 110, 117, 109, 98, 101, 114]⟩ : ByteArray), .string (⟨#[110, 101, 120, 116]⟩ : ByteArray), .string (⟨#[112, 97, 105, 114, 115]⟩ : ByteArray), .string (⟨#[105, 112, 97, 105, 114, 115]⟩ : ByteArray), .string (⟨#[114, 97, 119, 108, 101, 110]⟩ : ByteArray), .string (⟨#[115, 116, 97, 116, 115]⟩ : ByteArray), .string (⟨#[112, 114, 111, 98, 101, 115]⟩ : ByteArray), .string (⟨#[]⟩ : ByteArray), .string (⟨#[116, 97, 98, 108, 101, 46, 105, 110, 115, 101, 114, 116]⟩ : ByteArray), .string (⟨#[116, 97, 98, 108, 101, 46, 114, 101, 109, 111, 118, 101]⟩ : ByteArray), .string (⟨#[116, 97, 98, 108, 101, 46, 99, 111, 110, 99, 97, 116]⟩ : ByteArray), .string (⟨#[116, 97, 98, 108, 101, 46, 117, 110, 112, 97, 99, 107]⟩ : ByteArray), .string (⟨#[116, 97, 98, 108, 101, 46, 109, 111, 118, 101]⟩ : ByteArray), .string (⟨#[116, 97, 98, 108, 101, 46, 115, 111, 114, 116]⟩ : ByteArray), .string (⟨#[117, 116, 102, 56, 46, 108, 101, 110]⟩ : ByteArray), .string (⟨#[117, 116, 102, 56, 46, 99, 104, 97, 114]⟩ : ByteArray), .string (⟨#[117, 116, 102, 56, 46, 99, 111, 100, 101, 112, 111, 105, 110, 116]⟩ : ByteArray), .string (⟨#[117, 116, 102, 56, 46, 111, 102, 102, 115, 101, 116]⟩ : ByteArray), .string (⟨#[117, 116, 102, 56, 46, 99, 111, 100, 101, 115]⟩ : ByteArray)] 9 (0, 0)) (fun b => .slice (some ⟨b, 0, none⟩) 22 22) (by kernel_rfl) (by kernel_rfl) (fun _ => by kernel_rfl) fun b1 => ?_
 refine kl_steps 1 [(0, .string a0), (3, .slice (some ⟨b1, 0, none⟩) 22 22)] (by kernel_rfl) ?_
 refine k_nil ?_
 refine k_then ?_
 obtain ⟨J2, hJ2, h⟩ := joinSplit h
 refine k_cut (τ := Unit) (fun t => []) (fun t => X) (fun t => J2 () = some r) ?_ ?_
 ·rintro ⟨⟩ h
  subst hJ2
  refine k_seq ?_
  refine k_region ?_
  refine kl_steps 1 [(2, .int .i64 (0 : Int))] (by kernel_rfl) ?_
  refine k_nil ?_
  refine k_then ?_
  refine k_ret ?_
  obtain rfl := Option.some.inj h
  refine k_done (v := .int .i64 (0 : Int)) [] [] [] (by kernel_rfl) (by kernel_rfl) trivial ?_
  exact k_end ⟨rfl, rfl⟩
 ·skip
  refine k_seq ?_
  refine k_region ?_
  refine kl_steps 1 [(0, .string a0), (3, .slice (some ⟨b1, 0, none⟩) 22 22), (4, .int .i64 (0 : Int))] (by kernel_rfl) ?_
  refine k_nil ?_
  refine k_then ?_
  refine k_block ?_
  refine k_loop (τ := Int) (fun t => [(0, .string a0), (3, .slice (some ⟨b1, 0, none⟩) 22 22), (4, .int .i64 t)]) (fun t => blk b1 (.cells #[.string (⟨#[112, 114, 105, 110, 116]⟩ : ByteArray), .string (⟨#[116, 121, 112, 101]⟩ : ByteArray), .string (⟨#[116, 111, 115, 116, 114, 105, 110, 103]⟩ : ByteArray), .string (⟨#[116, 111, 110, 117, 109, 98, 101, 114]⟩ : ByteArray), .string (⟨#[110, 101, 120, 116]⟩ : ByteArray), .string (⟨#[112, 97, 105, 114, 115]⟩ : ByteArray), .string (⟨#[105, 112, 97, 105, 114, 115]⟩ : ByteArray), .string (⟨#[114, 97, 119, 108, 101, 110]⟩ : ByteArray), .string (⟨#[115, 116, 97, 116, 115]⟩ : ByteArray), .string (⟨#[112, 114, 111, 98, 101, 115]⟩ : ByteArray), .string (⟨#[]⟩ : ByteArray), .string (⟨#[116, 97, 98, 108, 101, 46, 105, 110, 115, 101, 114, 116]⟩ : ByteArray), .string (⟨#[116, 97, 98, 108, 101, 46, 114, 101, 109, 111, 118, 101]⟩ : ByteArray), .string (⟨#[116, 97, 98, 108, 101, 46, 99, 111, 110, 99, 97, 116]⟩ : ByteArray), .string (⟨#[116, 97, 98, 108, 101, 46, 117, 110, 112, 97, 99, 107]⟩ : ByteArray), .string (⟨#[116, 97, 98, 108, 101, 46, 109, 111, 118, 101]⟩ : ByteArray), .string (⟨#[116, 97, 98, 108, 101, 46, 115, 111, 114, 116]⟩ : ByteArray), .string (⟨#[117, 116, 102, 56, 46, 108, 101, 110]⟩ : ByteArray), .string (⟨#[117, 116, 102, 56, 46, 99, 104, 97, 114]⟩ : ByteArray), .string (⟨#[117, 116, 102, 56, 46, 99, 111, 100, 101, 112, 111, 105, 110, 116]⟩ : ByteArray), .string (⟨#[117, 116, 102, 56, 46, 111, 102, 102, 115, 101, 116]⟩ : ByteArray), .string (⟨#[117, 116, 102, 56, 46, 99, 111, 100, 101, 115]⟩ : ByteArray)] 9 (0, 0)) :: X) (fun m t => r13_Library.l0 m a0 J2 t = some r) k (0 : Int) h ⟨rfl, rfl, rfl, trivial⟩ rfl ?_
  clear h
  rintro m4 x3 h
  cases m4 with
  | zero => simp [r13_Library.l0] at h
  | succ m4 =>
   simp only [r13_Library.l0] at h
   refine k_seq ?_
   refine k_seq ?_
   refine k_region ?_
   refine kl_steps 4 [(0, .string a0), (3, .slice (some ⟨b1, 0, none⟩) 22 22), (4, .int .i64 x3), (9, .bool (decide (x3 < (22 : Int))))] (by kernel_rfl) ?_
   refine k_nil ?_
   refine k_then ?_
   refine k_cond (t := decide (x3 < (22 : Int))) (by kernel_rfl) (fun t5 => ?_) (fun t5 => ?_)
   ·have h := condT h t5
    refine k_skip ?_
    refine k_then ?_
    refine k_seq ?_
    refine k_block ?_
    obtain ⟨q6, hq6, h⟩ := bindSome h
    refine k_cut1 [(0, .string a0), (3, .slice (some ⟨b1, 0, none⟩) 22 22), (4, .int .i64 x3), (21, .bool q6)] (blk b1 (.cells #[.string (⟨#[112, 114, 105, 110, 116]⟩ : ByteArray), .string (⟨#[116, 121, 112, 101]⟩ : ByteArray), .string (⟨#[116, 111, 115, 116, 114, 105, 110, 103]⟩ : ByteArray), .string (⟨#[116, 111, 110, 117, 109, 98, 101, 114]⟩ : ByteArray), .string (⟨#[110, 101, 120, 116]⟩ : ByteArray), .string (⟨#[112, 97, 105, 114, 115]⟩ : ByteArray), .string (⟨#[105, 112, 97, 105, 114, 115]⟩ : ByteArray), .string (⟨#[114, 97, 119, 108, 101, 110]⟩ : ByteArray), .string (⟨#[115, 116, 97, 116, 115]⟩ : ByteArray), .string (⟨#[112, 114, 111, 98, 101, 115]⟩ : ByteArray), .string (⟨#[]⟩ : ByteArray), .string (⟨#[116, 97, 98, 108, 101, 46, 105, 110, 115, 101, 114, 116]⟩ : ByteArray), .string (⟨#[116, 97, 98, 108, 101, 46, 114, 101, 109, 111, 118, 101]⟩ : ByteArray), .string (⟨#[116, 97, 98, 108, 101, 46, 99, 111, 110, 99, 97, 116]⟩ : ByteArray), .string (⟨#[116, 97, 98, 108, 101, 46, 117, 110, 112, 97, 99, 107]⟩ : ByteArray), .string (⟨#[116, 97, 98, 108, 101, 46, 109, 111, 118, 101]⟩ : ByteArray), .string (⟨#[116, 97, 98, 108, 101, 46, 115, 111, 114, 116]⟩ : ByteArray), .string (⟨#[117, 116, 102, 56, 46, 108, 101, 110]⟩ : ByteArray), .string (⟨#[117, 116, 102, 56, 46, 99, 104, 97, 114]⟩ : ByteArray), .string (⟨#[117, 116, 102, 56, 46, 99, 111, 100, 101, 112, 111, 105, 110, 116]⟩ : ByteArray), .string (⟨#[117, 116, 102, 56, 46, 111, 102, 102, 115, 101, 116]⟩ : ByteArray), .string (⟨#[117, 116, 102, 56, 46, 99, 111, 100, 101, 115]⟩ : ByteArray)] 9 (0, 0)) :: X) ?_ ?_
    ·clear hq6
     refine k_cond (t := q6) (by kernel_rfl) (fun t7 => ?_) (fun t7 => ?_)
     ·have h := condT h t7
      refine k_seq ?_
      refine k_region ?_
      refine kl_steps 3 [(2, .int .i64 (IntKind.i64.wrap (x3 + (1 : Int))))] (by kernel_rfl) ?_
      refine k_nil ?_
      refine k_then ?_
      refine k_ret ?_
      refine k_blk_ret ?_
      refine k_then_ret ?_
      refine k_then_ret ?_
      refine k_blk_ret ?_
      refine k_then_ret ?_
      obtain rfl := Option.some.inj h
      refine k_done (v := .int .i64 (IntKind.i64.wrap (x3 + (1 : Int)))) [] [] [] (by kernel_rfl) (by kernel_rfl) trivial ?_
      refine K.drop ?_
      exact k_end ⟨rfl, rfl⟩
     ·have h := condF h t7
      refine k_skip ?_
      refine k_blk ?_
      refine k_then ?_
      refine k_region ?_
      refine kl_steps 3 [(0, .string a0), (3, .slice (some ⟨b1, 0, none⟩) 22 22), (4, .int .i64 (IntKind.i64.wrap (x3 + (1 : Int))))] (by kernel_rfl) ?_
      refine k_nil ?_
      refine k_then ?_
      exact k_again m4 (IntKind.i64.wrap (x3 + (1 : Int))) (Nat.lt_succ_self _) h ⟨rfl, rfl, rfl, trivial⟩ rfl
    ·have h := hq6
     clear hq6
     refine k_region ?_
     refine kl_steps 3 [(0, .string a0), (3, .slice (some ⟨b1, 0, none⟩) 22 22), (4, .int .i64 x3), (14, .bool (!(a0.toList == (⟨#[]⟩ : ByteArray).toList)))] (by kernel_rfl) ?_
     rcases Bool.eq_false_or_eq_true (!(a0.toList == (⟨#[]⟩ : ByteArray).toList)) with t8 | t8
     ·have h := condT h t8
      refine K.weak (env' := [(0, .string a0), (3, .slice (some ⟨b1, 0, none⟩) 22 22), (4, .int .i64 x3), (14, .bool true)]) ?_ ⟨rfl, rfl, rfl, congrArg (fun b => some (Value.bool b)) t8, trivial⟩
      refine kl_steps 2 [(0, .string a0), (3, .slice (some ⟨b1, 0, none⟩) 22 22), (4, .int .i64 x3), (14, .bool true), (15, .slice (some ⟨b1, 0, none⟩) 22 22), (16, .int .i64 x3)] (by kernel_rfl) ?_
      obtain ⟨x9, hx9, h⟩ := bindSome h
      refine kl_elemP (T := 9) (kd := .i64) encS_ok rfl (by kernel_rfl) (by kernel_rfl) (by kernel_rfl) (by kernel_rfl) (by kernel_rfl) (by kernel_rfl) hx9 (OwnT.rd (OwnT.blk 9 encS_ok b1 [(⟨#[112, 114, 105, 110, 116]⟩ : ByteArray), (⟨#[116, 121, 112, 101]⟩ : ByteArray), (⟨#[116, 111, 115, 116, 114, 105, 110, 103]⟩ : ByteArray), (⟨#[116, 111, 110, 117, 109, 98, 101, 114]⟩ : ByteArray), (⟨#[110, 101, 120, 116]⟩ : ByteArray), (⟨#[112, 97, 105, 114, 115]⟩ : ByteArray), (⟨#[105, 112, 97, 105, 114, 115]⟩ : ByteArray), (⟨#[114, 97, 119, 108, 101, 110]⟩ : ByteArray), (⟨#[115, 116, 97, 116, 115]⟩ : ByteArray), (⟨#[112, 114, 111, 98, 101, 115]⟩ : ByteArray), (⟨#[]⟩ : ByteArray), (⟨#[116, 97, 98, 108, 101, 46, 105, 110, 115, 101, 114, 116]⟩ : ByteArray), (⟨#[116, 97, 98, 108, 101, 46, 114, 101, 109, 111, 118, 101]⟩ : ByteArray), (⟨#[116, 97, 98, 108, 101, 46, 99, 111, 110, 99, 97, 116]⟩ : ByteArray), (⟨#[116, 97, 98, 108, 101, 46, 117, 110, 112, 97, 99, 107]⟩ : ByteArray), (⟨#[116, 97, 98, 108, 101, 46, 109, 111, 118, 101]⟩ : ByteArray), (⟨#[116, 97, 98, 108, 101, 46, 115, 111, 114, 116]⟩ : ByteArray), (⟨#[117, 116, 102, 56, 46, 108, 101, 110]⟩ : ByteArray), (⟨#[117, 116, 102, 56, 46, 99, 104, 97, 114]⟩ : ByteArray), (⟨#[117, 116, 102, 56, 46, 99, 111, 100, 101, 112, 111, 105, 110, 116]⟩ : ByteArray), (⟨#[117, 116, 102, 56, 46, 111, 102, 102, 115, 101, 116]⟩ : ByteArray), (⟨#[117, 116, 102, 56, 46, 99, 111, 100, 101, 115]⟩ : ByteArray)] #[.string (⟨#[112, 114, 105, 110, 116]⟩ : ByteArray), .string (⟨#[116, 121, 112, 101]⟩ : ByteArray), .string (⟨#[116, 111, 115, 116, 114, 105, 110, 103]⟩ : ByteArray), .string (⟨#[116, 111, 110, 117, 109, 98, 101, 114]⟩ : ByteArray), .string (⟨#[110, 101, 120, 116]⟩ : ByteArray), .string (⟨#[112, 97, 105, 114, 115]⟩ : ByteArray), .string (⟨#[105, 112, 97, 105, 114, 115]⟩ : ByteArray), .string (⟨#[114, 97, 119, 108, 101, 110]⟩ : ByteArray), .string (⟨#[115, 116, 97, 116, 115]⟩ : ByteArray), .string (⟨#[112, 114, 111, 98, 101, 115]⟩ : ByteArray), .string (⟨#[]⟩ : ByteArray), .string (⟨#[116, 97, 98, 108, 101, 46, 105, 110, 115, 101, 114, 116]⟩ : ByteArray), .string (⟨#[116, 97, 98, 108, 101, 46, 114, 101, 109, 111, 118, 101]⟩ : ByteArray), .string (⟨#[116, 97, 98, 108, 101, 46, 99, 111, 110, 99, 97, 116]⟩ : ByteArray), .string (⟨#[116, 97, 98, 108, 101, 46, 117, 110, 112, 97, 99, 107]⟩ : ByteArray), .string (⟨#[116, 97, 98, 108, 101, 46, 109, 111, 118, 101]⟩ : ByteArray), .string (⟨#[116, 97, 98, 108, 101, 46, 115, 111, 114, 116]⟩ : ByteArray), .string (⟨#[117, 116, 102, 56, 46, 108, 101, 110]⟩ : ByteArray), .string (⟨#[117, 116, 102, 56, 46, 99, 104, 97, 114]⟩ : ByteArray), .string (⟨#[117, 116, 102, 56, 46, 99, 111, 100, 101, 112, 111, 105, 110, 116]⟩ : ByteArray), .string (⟨#[117, 116, 102, 56, 46, 111, 102, 102, 115, 101, 116]⟩ : ByteArray), .string (⟨#[117, 116, 102, 56, 46, 99, 111, 100, 101, 115]⟩ : ByteArray)] 22 (by kernel_rfl) rfl (by decide))) fun p10 e11 y12 => ?_
      have e11 : Elem _ p10 [.string x9] := e11
      refine kl_eload1 rfl (by kernel_rfl) (by kernel_rfl) (by kernel_rfl) (by kernel_rfl) e11 (.head _) ?_
      refine kl_steps 3 [(0, .string a0), (3, .slice (some ⟨b1, 0, none⟩) 22 22), (4, .int .i64 x3), (21, .bool (x9.toList == a0.toList))] (by kernel_rfl) ?_
      refine k_nil ?_
      refine k_then ?_
      exact k_meet1 ⟨rfl, rfl, rfl, congrArg (fun b => some (Value.bool b)) (Option.some.inj h), trivial⟩
     ·have h := condF h t8
      refine K.weak (env' := [(0, .string a0), (3, .slice (some ⟨b1, 0, none⟩) 22 22), (4, .int .i64 x3), (14, .bool false)]) ?_ ⟨rfl, rfl, rfl, congrArg (fun b => some (Value.bool b)) t8, trivial⟩
      refine kl_steps 7 [(0, .string a0), (3, .slice (some ⟨b1, 0, none⟩) 22 22), (4, .int .i64 x3), (21, .bool false)] (by kernel_rfl) ?_
      refine k_nil ?_
      refine k_then ?_
      exact k_meet1 ⟨rfl, rfl, rfl, congrArg (fun b => some (Value.bool b)) (Option.some.inj h), trivial⟩
   ·have h := condF h t5
    refine k_exit ?_
    refine k_then_exit ?_
    refine k_then_exit ?_
    refine k_here ?_
    refine k_then ?_
    refine K.drop ?_
    exact k_meet () h trivial rfl
def law13_fixed.f (k : Nat) : Option (Bool) := (check_Check.f k (⟨#[108, 111, 99, 97, 108, 32, 97, 44, 32, 98, 32, 61, 32, 49, 32, 102, 111, 114, 32, 105, 32, 61, 32, 49, 44, 32, 98, 32, 100, 111, 32, 108, 111, 99, 97, 108, 32, 99, 32, 101, 110, 100, 32, 112, 114, 105, 110, 116, 40, 97, 41]⟩ : ByteArray)).bind fun r1 => (check_Check.f k (⟨#[108, 111, 99, 97, 108, 32, 97, 32, 102, 117, 110, 99, 116, 105, 111, 110, 32, 102, 40, 41, 32, 114, 101, 116, 117, 114, 110, 32, 97, 32, 101, 110, 100]⟩ : ByteArray)).bind fun r12 => (check_Check.f k (⟨#[120, 32, 61, 32, 116, 97, 98, 108, 101, 46, 102, 111, 111]⟩ : ByteArray)).bind fun r23 => (cond (r1.2.2.1 == (0 : Int)) (cond (((r1.1.length : Nat) : Int) == (1 : Int)) ((lIdx r1.1 (0 : Int)).bind fun x37 => cond (x37.2.2.2.1 == (7 : Int)) ((lIdx r1.1 (0 : Int)).bind fun x50 => cond (((x50.2.2.2.2.length : Nat) : Int) == (1 : Int)) (cond (((r1.2.1.length : Nat) : Int) == (1 : Int)) ((lIdx r1.2.1 (0 : Int)).bind fun x64 => cond (x64.toList == (⟨#[112, 114, 105, 110, 116]⟩ : ByteArray).toList) (cond ((r12.2.2.1 == (5 : Int)) && ((r12.2.2.2 == (28 : Int)) && true)) (cond ((r23.2.2.1 == (5 : Int)) && ((r23.2.2.2 == (4 : Int)) && true)) ((check_Library.f k (⟨#[116, 97, 98, 108, 101, 46, 115, 111, 114, 116]⟩ : ByteArray)).bind fun r71 => some (r71 == (17 : Int))) (some false)) (some false)) (some false)) (some false)) (some false)) (some false)) (some false)) (some false) : Option Bool).bind fun q34 => some (q34)
set_option maxRecDepth 100000 in
theorem law13_fixed.ok {k : Nat} {G : Frag} {r : Bool} (h : law13_fixed.f k = some r) (hG : GlP G) : Ct Tryz.prog 9 #[] [] [G] (fun e l1 => e = .returned (.bool r) ∧ l1 = []) := by
 refine ct_enter (args := []) Tryz.func9 rfl (Nat.le_of_ble_eq_true rfl) ?_
 intro A X hh_
 obtain ⟨hm_G, _⟩ := hh_
 unfold law13_fixed.f at h
 refine k_seq ?_
 refine k_region ?_
 refine kl_steps 1 [] (by kernel_rfl) ?_
 refine k_nil ?_
 refine k_then ?_
 refine k_seq ?_
 refine k_region ?_
 obtain ⟨r1, hr1, h⟩ := bindSome h
 refine kl_call (X) (by kernel_rfl) (by kernel_rfl) (by kernel_rfl) (check_Check.ok hr1 hG) rfl ⟨hm_G, trivial⟩ ?_
 rintro _ _ ⟨h2, A3, k4, h6, A7, k8, o5, o9, rfl, rfl⟩
 refine nx_ret2 ?_
 refine kl_steps 3 [(9, .agg #[.slice A3 r1.1.length k4, .slice A7 r1.2.1.length k8]), (10, .agg #[.int .i64 r1.2.2.1, .int .i64 r1.2.2.2])] (by kernel_rfl) ?_
 refine kl_new (.cells #[.slice none 0 0, .slice none 0 0] 28 (0, 0)) (fun b => .pointer (some ⟨b, 0, none⟩)) (by kernel_rfl) (by kernel_rfl) (fun _ => by kernel_rfl) fun b10 => ?_
 refine kl_new (.cells #[.int .i64 (0 : Int), .int .i64 (0 : Int)] 31 (0, 0)) (fun b => .pointer (some ⟨b, 0, none⟩)) (by kernel_rfl) (by kernel_rfl) (fun _ => by kernel_rfl) fun b11 => ?_
 refine K.mv1 ?_
 refine kl_store (cs' := #[.slice A3 r1.1.length k4, .slice A7 r1.2.1.length k8]) [.st ⟨b10, 0, none⟩ (.slice A3 r1.1.length k4), .st ⟨b10, 1, none⟩ (.slice A7 r1.2.1.length k8)] (by kernel_rfl) (by kernel_rfl) (by kernel_rfl) ⟨rfl, rfl, trivial⟩ (by kernel_rfl) ?_
 refine K.mv1 ?_
 refine kl_store (cs' := #[.int .i64 r1.2.2.1, .int .i64 r1.2.2.2]) [.st ⟨b11, 0, none⟩ (.int .i64 r1.2.2.1), .st ⟨b11, 1, none⟩ (.int .i64 r1.2.2.2)] (by kernel_rfl) (by kernel_rfl) (by kernel_rfl) ⟨rfl, rfl, trivial⟩ (by kernel_rfl) ?_
 refine k_nil ?_
 refine k_then ?_
 refine k_seq ?_
 refine k_region ?_
 obtain ⟨r12, hr12, h⟩ := bindSome h
 refine kl_call (blk b11 (.cells #[.int .i64 r1.2.2.1, .int .i64 r1.2.2.2] 31 (0, 0)) :: blk b10 (.cells #[.slice A3 r1.1.length k4, .slice A7 r1.2.1.length k8] 28 (0, 0)) :: h2 :: h6 :: X) (by kernel_rfl) (by kernel_rfl) (by kernel_rfl) (check_Check.ok hr12 hG) rfl ⟨(.tail _ (.tail _ (.tail _ (.tail _ hm_G)))), trivial⟩ ?_
 rintro _ _ ⟨h13, A14, k15, h17, A18, k19, o16, o20, rfl, rfl⟩
 refine nx_ret2 ?_
 refine kl_steps 3 [(1, .pointer (some ⟨b10, 0, none⟩)), (2, .pointer (some ⟨b11, 0, none⟩)), (13, .agg #[.slice A14 r12.1.length k15, .slice A18 r12.2.1.length k19]), (14, .agg #[.int .i64 r12.2.2.1, .int .i64 r12.2.2.2])] (by kernel_rfl) ?_
 refine kl_new (.cells #[.slice none 0 0, .slice none 0 0] 28 (0, 0)) (fun b => .pointer (some ⟨b, 0, none⟩)) (by kernel_rfl) (by kernel_rfl) (fun _ => by kernel_rfl) fun b21 => ?_
 refine kl_new (.cells #[.int .i64 (0 : Int), .int .i64 (0 : Int)] 31 (0, 0)) (fun b => .pointer (some ⟨b, 0, none⟩)) (by kernel_rfl) (by kernel_rfl) (fun _ => by kernel_rfl) fun b22 => ?_
 refine K.mv1 ?_
 refine kl_store (cs' := #[.slice A14 r12.1.length k15, .slice A18 r12.2.1.length k19]) [.st ⟨b21, 0, none⟩ (.slice A14 r12.1.length k15), .st ⟨b21, 1, none⟩ (.slice A18 r12.2.1.length k19)] (by kernel_rfl) (by kernel_rfl) (by kernel_rfl) ⟨rfl, rfl, trivial⟩ (by kernel_rfl) ?_
 refine K.drop ?_
 refine K.mv1 ?_
 refine K.drop ?_
 refine K.mv1 ?_
 refine K.drop ?_
 refine kl_store (cs' := #[.int .i64 r12.2.2.1, .int .i64 r12.2.2.2]) [.st ⟨b22, 0, none⟩ (.int .i64 r12.2.2.1), .st ⟨b22, 1, none⟩ (.int .i64 r12.2.2.2)] (by kernel_rfl) (by kernel_rfl) (by kernel_rfl) ⟨rfl, rfl, trivial⟩ (by kernel_rfl) ?_
 refine k_nil ?_
 refine k_then ?_
 refine k_seq ?_
 refine k_region ?_
 obtain ⟨r23, hr23, h⟩ := bindSome h
 refine kl_call (blk b22 (.cells #[.int .i64 r12.2.2.1, .int .i64 r12.2.2.2] 31 (0, 0)) :: blk b11 (.cells #[.int .i64 r1.2.2.1, .int .i64 r1.2.2.2] 31 (0, 0)) :: blk b10 (.cells #[.slice A3 r1.1.length k4, .slice A7 r1.2.1.length k8] 28 (0, 0)) :: h2 :: h6 :: X) (by kernel_rfl) (by kernel_rfl) (by kernel_rfl) (check_Check.ok hr23 hG) rfl ⟨(.tail _ (.tail _ (.tail _ (.tail _ (.tail _ hm_G))))), trivial⟩ ?_
 rintro _ _ ⟨h24, A25, k26, h28, A29, k30, o27, o31, rfl, rfl⟩
 refine nx_ret2 ?_
 refine kl_steps 3 [(1, .pointer (some ⟨b10, 0, none⟩)), (2, .pointer (some ⟨b11, 0, none⟩)), (4, .pointer (some ⟨b22, 0, none⟩)), (17, .agg #[.slice A25 r23.1.length k26, .slice A29 r23.2.1.length k30]), (18, .agg #[.int .i64 r23.2.2.1, .int .i64 r23.2.2.2])] (by kernel_rfl) ?_
 refine kl_new (.cells #[.slice none 0 0, .slice none 0 0] 28 (0, 0)) (fun b => .pointer (some ⟨b, 0, none⟩)) (by kernel_rfl) (by kernel_rfl) (fun _ => by kernel_rfl) fun b32 => ?_
 refine kl_new (.cells #[.int .i64 (0 : Int), .int .i64 (0 : Int)] 31 (0, 0)) (fun b => .pointer (some ⟨b, 0, none⟩)) (by kernel_rfl) (by kernel_rfl) (fun _ => by kernel_rfl) fun b33 => ?_
 refine K.mv1 ?_
 refine kl_store (cs' := #[.slice A25 r23.1.length k26, .slice A29 r23.2.1.length k30]) [.st ⟨b32, 0, none⟩ (.slice A25 r23.1.length k26), .st ⟨b32, 1, none⟩ (.slice A29 r23.2.1.length k30)] (by kernel_rfl) (by kernel_rfl) (by kernel_rfl) ⟨rfl, rfl, trivial⟩ (by kernel_rfl) ?_
 refine K.drop ?_
 refine K.mv1 ?_
 refine K.drop ?_
 refine K.mv1 ?_
 refine K.drop ?_
 refine kl_store (cs' := #[.int .i64 r23.2.2.1, .int .i64 r23.2.2.2]) [.st ⟨b33, 0, none⟩ (.int .i64 r23.2.2.1), .st ⟨b33, 1, none⟩ (.int .i64 r23.2.2.2)] (by kernel_rfl) (by kernel_rfl) (by kernel_rfl) ⟨rfl, rfl, trivial⟩ (by kernel_rfl) ?_
 refine k_nil ?_
 refine k_then ?_
 obtain ⟨q34, hq34, h⟩ := bindSome h
 refine k_cut1 [(0, .bool q34)] (X) ?_ ?_
 ·clear hq34
  refine k_ret ?_
  obtain rfl := Option.some.inj h
  refine k_done (v := .bool q34) [] [] [] (by kernel_rfl) (by kernel_rfl) trivial ?_
  exact k_end ⟨rfl, rfl⟩
 ·have h := hq34
  clear hq34
  refine k_region ?_
  refine kl_steps 1 [(1, .pointer (some ⟨b10, 0, none⟩)), (4, .pointer (some ⟨b22, 0, none⟩)), (6, .pointer (some ⟨b33, 0, none⟩)), (19, .pointer (some ⟨b11, 0, none⟩))] (by kernel_rfl) ?_
  refine kl_load (v := .int .i64 r1.2.2.1) [.val (.int .i64 r1.2.2.1)] [.ld ⟨b11, 0, none⟩ (.int .i64 r1.2.2.1)] (by kernel_rfl) (by kernel_rfl) (by kernel_rfl) ⟨⟨2, _, _, _, rfl, rfl, rfl⟩, trivial⟩ ?_
  refine K.mv2 ?_
  refine K.drop ?_
  refine kl_steps 2 [(1, .pointer (some ⟨b10, 0, none⟩)), (4, .pointer (some ⟨b22, 0, none⟩)), (6, .pointer (some ⟨b33, 0, none⟩)), (22, .bool (r1.2.2.1 == (0 : Int)))] (by kernel_rfl) ?_
  rcases Bool.eq_false_or_eq_true ((r1.2.2.1 == (0 : Int))) with t35 | t35
  ·have h := condT h t35
   refine K.weak (env' := [(1, .pointer (some ⟨b10, 0, none⟩)), (4, .pointer (some ⟨b22, 0, none⟩)), (6, .pointer (some ⟨b33, 0, none⟩)), (22, .bool true)]) ?_ ⟨rfl, rfl, rfl, congrArg (fun b => some (Value.bool b)) t35, trivial⟩
   refine kl_steps 1 [(1, .pointer (some ⟨b10, 0, none⟩)), (4, .pointer (some ⟨b22, 0, none⟩)), (6, .pointer (some ⟨b33, 0, none⟩)), (22, .bool true), (23, .pointer (some ⟨b10, 0, none⟩))] (by kernel_rfl) ?_
   refine kl_load (v := .slice A3 r1.1.length k4) [.val (.slice A3 r1.1.length k4)] [.ld ⟨b10, 0, none⟩ (.slice A3 r1.1.length k4)] (by kernel_rfl) (by kernel_rfl) (by kernel_rfl) ⟨⟨2, _, _, _, rfl, rfl, rfl⟩, trivial⟩ ?_
   refine kl_steps 4 [(1, .pointer (some ⟨b10, 0, none⟩)), (4, .pointer (some ⟨b22, 0, none⟩)), (6, .pointer (some ⟨b33, 0, none⟩)), (28, .bool (((r1.1.length : Nat) : Int) == (1 : Int)))] (by kernel_rfl) ?_
   rcases Bool.eq_false_or_eq_true ((((r1.1.length : Nat) : Int) == (1 : Int))) with t36 | t36
   ·have h := condT h t36
    refine K.weak (env' := [(1, .pointer (some ⟨b10, 0, none⟩)), (4, .pointer (some ⟨b22, 0, none⟩)), (6, .pointer (some ⟨b33, 0, none⟩)), (28, .bool true)]) ?_ ⟨rfl, rfl, rfl, congrArg (fun b => some (Value.bool b)) t36, trivial⟩
    refine kl_steps 1 [(1, .pointer (some ⟨b10, 0, none⟩)), (4, .pointer (some ⟨b22, 0, none⟩)), (6, .pointer (some ⟨b33, 0, none⟩)), (28, .bool true), (29, .pointer (some ⟨b10, 0, none⟩))] (by kernel_rfl) ?_
    refine kl_load (v := .slice A3 r1.1.length k4) [.val (.slice A3 r1.1.length k4)] [.ld ⟨b10, 0, none⟩ (.slice A3 r1.1.length k4)] (by kernel_rfl) (by kernel_rfl) (by kernel_rfl) ⟨⟨2, _, _, _, rfl, rfl, rfl⟩, trivial⟩ ?_
    obtain ⟨x37, hx37, h⟩ := bindSome h
    refine kl_elemR (T := 42) (kd := .i64) (R := rs42) rfl (by kernel_rfl) (by kernel_rfl) (by kernel_rfl) (by kernel_rfl) (by kernel_rfl) (by kernel_rfl) hx37 (OwnR.rd o5) fun p38 u41 q42 e39 y40 => ?_
    obtain ⟨A43, k44, rfl, o45⟩ := rs42_r q42
    refine kl_efieldP (off := 3) rfl (by kernel_rfl) (by kernel_rfl) (by kernel_rfl) (by kernel_rfl) e39 y40 fun p46 e47 y48 => ?_
    have e47 : Elem _ p46 [.int .i64 x37.2.2.2.1, .slice A43 x37.2.2.2.2.length k44] := e47
    refine kl_eload1 rfl (by kernel_rfl) (by kernel_rfl) (by kernel_rfl) (by kernel_rfl) e47 (.tail _ (.tail _ (.tail _ (.head _)))) ?_
    refine kl_steps 3 [(1, .pointer (some ⟨b10, 0, none⟩)), (4, .pointer (some ⟨b22, 0, none⟩)), (6, .pointer (some ⟨b33, 0, none⟩)), (36, .bool (x37.2.2.2.1 == (7 : Int)))] (by kernel_rfl) ?_
    rcases Bool.eq_false_or_eq_true ((x37.2.2.2.1 == (7 : Int))) with t49 | t49
    ·have h := condT h t49
     refine K.weak (env' := [(1, .pointer (some ⟨b10, 0, none⟩)), (4, .pointer (some ⟨b22, 0, none⟩)), (6, .pointer (some ⟨b33, 0, none⟩)), (36, .bool true)]) ?_ ⟨rfl, rfl, rfl, congrArg (fun b => some (Value.bool b)) t49, trivial⟩
     refine kl_steps 1 [(1, .pointer (some ⟨b10, 0, none⟩)), (4, .pointer (some ⟨b22, 0, none⟩)), (6, .pointer (some ⟨b33, 0, none⟩)), (36, .bool true), (37, .pointer (some ⟨b10, 0, none⟩))] (by kernel_rfl) ?_
     refine kl_load (v := .slice A3 r1.1.length k4) [.val (.slice A3 r1.1.length k4)] [.ld ⟨b10, 0, none⟩ (.slice A3 r1.1.length k4)] (by kernel_rfl) (by kernel_rfl) (by kernel_rfl) ⟨⟨2, _, _, _, rfl, rfl, rfl⟩, trivial⟩ ?_
     obtain ⟨x50, hx50, h⟩ := bindSome h
     refine kl_elemR (T := 42) (kd := .i64) (R := rs42) rfl (by kernel_rfl) (by kernel_rfl) (by kernel_rfl) (by kernel_rfl) (by kernel_rfl) (by kernel_rfl) hx50 (OwnR.rd o5) fun p51 u54 q55 e52 y53 => ?_
     obtain ⟨A56, k57, rfl, o58⟩ := rs42_r q55
     refine kl_efieldP (off := 4) rfl (by kernel_rfl) (by kernel_rfl) (by kernel_rfl) (by kernel_rfl) e52 y53 fun p59 e60 y61 => ?_
     have e60 : Elem _ p59 [.slice A56 x50.2.2.2.2.length k57] := e60
     refine kl_eload1 rfl (by kernel_rfl) (by kernel_rfl) (by kernel_rfl) (by kernel_rfl) e60 (.tail _ (.tail _ (.tail _ (.head _)))) ?_
     refine kl_steps 4 [(1, .pointer (some ⟨b10, 0, none⟩)), (4, .pointer (some ⟨b22, 0, none⟩)), (6, .pointer (some ⟨b33, 0, none⟩)), (45, .bool (((x50.2.2.2.2.length : Nat) : Int) == (1 : Int)))] (by kernel_rfl) ?_
     rcases Bool.eq_false_or_eq_true ((((x50.2.2.2.2.length : Nat) : Int) == (1 : Int))) with t62 | t62
     ·have h := condT h t62
      refine K.weak (env' := [(1, .pointer (some ⟨b10, 0, none⟩)), (4, .pointer (some ⟨b22, 0, none⟩)), (6, .pointer (some ⟨b33, 0, none⟩)), (45, .bool true)]) ?_ ⟨rfl, rfl, rfl, congrArg (fun b => some (Value.bool b)) t62, trivial⟩
      refine kl_steps 1 [(1, .pointer (some ⟨b10, 0, none⟩)), (4, .pointer (some ⟨b22, 0, none⟩)), (6, .pointer (some ⟨b33, 0, none⟩)), (45, .bool true), (46, .pointer (some ⟨b10, 1, none⟩))] (by kernel_rfl) ?_
      refine kl_load (v := .slice A7 r1.2.1.length k8) [.val (.slice A7 r1.2.1.length k8)] [.ld ⟨b10, 1, none⟩ (.slice A7 r1.2.1.length k8)] (by kernel_rfl) (by kernel_rfl) (by kernel_rfl) ⟨⟨2, _, _, _, rfl, rfl, rfl⟩, trivial⟩ ?_
      refine kl_steps 4 [(1, .pointer (some ⟨b10, 0, none⟩)), (4, .pointer (some ⟨b22, 0, none⟩)), (6, .pointer (some ⟨b33, 0, none⟩)), (51, .bool (((r1.2.1.length : Nat) : Int) == (1 : Int)))] (by kernel_rfl) ?_
      rcases Bool.eq_false_or_eq_true ((((r1.2.1.length : Nat) : Int) == (1 : Int))) with t63 | t63
      ·have h := condT h t63
       refine K.weak (env' := [(1, .pointer (some ⟨b10, 0, none⟩)), (4, .pointer (some ⟨b22, 0, none⟩)), (6, .pointer (some ⟨b33, 0, none⟩)), (51, .bool true)]) ?_ ⟨rfl, rfl, rfl, congrArg (fun b => some (Value.bool b)) t63, trivial⟩
       refine kl_steps 1 [(4, .pointer (some ⟨b22, 0, none⟩)), (6, .pointer (some ⟨b33, 0, none⟩)), (51, .bool true), (52, .pointer (some ⟨b10, 1, none⟩))] (by kernel_rfl) ?_
       refine kl_load (v := .slice A7 r1.2.1.length k8) [.val (.slice A7 r1.2.1.length k8)] [.ld ⟨b10, 1, none⟩ (.slice A7 r1.2.1.length k8)] (by kernel_rfl) (by kernel_rfl) (by kernel_rfl) ⟨⟨2, _, _, _, rfl, rfl, rfl⟩, trivial⟩ ?_
       refine K.mv2 ?_
       refine K.drop ?_
       refine K.mv2 ?_
       refine K.drop ?_
       obtain ⟨x64, hx64, h⟩ := bindSome h
       refine kl_elemP (T := 9) (kd := .i64) encS_ok rfl (by kernel_rfl) (by kernel_rfl) (by kernel_rfl) (by kernel_rfl) (by kernel_rfl) (by kernel_rfl) hx64 (OwnT.rd o9) fun p65 e66 y67 => ?_
       have e66 : Elem _ p65 [.string x64] := e66
       refine kl_eload1 rfl (by kernel_rfl) (by kernel_rfl) (by kernel_rfl) (by kernel_rfl) e66 (.tail _ (.tail _ (.head _))) ?_
       refine K.mv2 ?_
       refine K.drop ?_
       refine kl_steps 3 [(4, .pointer (some ⟨b22, 0, none⟩)), (6, .pointer (some ⟨b33, 0, none⟩)), (58, .bool (x64.toList == (⟨#[112, 114, 105, 110, 116]⟩ : ByteArray).toList))] (by kernel_rfl) ?_
       rcases Bool.eq_false_or_eq_true ((x64.toList == (⟨#[112, 114, 105, 110, 116]⟩ : ByteArray).toList)) with t68 | t68
       ·have h := condT h t68
        refine K.weak (env' := [(4, .pointer (some ⟨b22, 0, none⟩)), (6, .pointer (some ⟨b33, 0, none⟩)), (58, .bool true)]) ?_ ⟨rfl, rfl, congrArg (fun b => some (Value.bool b)) t68, trivial⟩
        refine kl_load (v := .agg #[.int .i64 r12.2.2.1, .int .i64 r12.2.2.2]) [.val (.int .i64 r12.2.2.1), .val (.int .i64 r12.2.2.2)] [.ld ⟨b22, 0, none⟩ (.int .i64 r12.2.2.1), .ld ⟨b22, 1, none⟩ (.int .i64 r12.2.2.2)] (by kernel_rfl) (by kernel_rfl) (by kernel_rfl) ⟨⟨1, _, _, _, rfl, rfl, rfl⟩, ⟨1, _, _, _, rfl, rfl, rfl⟩, trivial⟩ ?_
        refine K.mv1 ?_
        refine K.drop ?_
        refine kl_steps 1 [(6, .pointer (some ⟨b33, 0, none⟩)), (58, .bool true), (59, .agg #[.int .i64 r12.2.2.1, .int .i64 r12.2.2.2]), (60, .agg #[.int .i64 (5 : Int), .int .i64 (28 : Int)])] (by kernel_rfl) ?_
        refine kl_eqS (r := ((r12.2.2.1 == (5 : Int)) && ((r12.2.2.2 == (28 : Int)) && true))) (xs := #[.int .i64 r12.2.2.1, .int .i64 r12.2.2.2]) (ys := #[.int .i64 (5 : Int), .int .i64 (28 : Int)]) false (by kernel_rfl) rfl (by kernel_rfl) (by kernel_rfl) (by kernel_rfl) (by kernel_rfl) (by kernel_rfl) (by kernel_rfl) (by kernel_rfl) ?_
        refine kl_steps 2 [(6, .pointer (some ⟨b33, 0, none⟩)), (63, .bool ((r12.2.2.1 == (5 : Int)) && ((r12.2.2.2 == (28 : Int)) && true)))] (by kernel_rfl) ?_
        rcases Bool.eq_false_or_eq_true (((r12.2.2.1 == (5 : Int)) && ((r12.2.2.2 == (28 : Int)) && true))) with t69 | t69
        ·have h := condT h t69
         refine K.weak (env' := [(6, .pointer (some ⟨b33, 0, none⟩)), (63, .bool true)]) ?_ ⟨rfl, congrArg (fun b => some (Value.bool b)) t69, trivial⟩
         refine kl_load (v := .agg #[.int .i64 r23.2.2.1, .int .i64 r23.2.2.2]) [.val (.int .i64 r23.2.2.1), .val (.int .i64 r23.2.2.2)] [.ld ⟨b33, 0, none⟩ (.int .i64 r23.2.2.1), .ld ⟨b33, 1, none⟩ (.int .i64 r23.2.2.2)] (by kernel_rfl) (by kernel_rfl) (by kernel_rfl) ⟨⟨0, _, _, _, rfl, rfl, rfl⟩, ⟨0, _, _, _, rfl, rfl, rfl⟩, trivial⟩ ?_
         refine K.drop ?_
         refine kl_steps 1 [(63, .bool true), (64, .agg #[.int .i64 r23.2.2.1, .int .i64 r23.2.2.2]), (65, .agg #[.int .i64 (5 : Int), .int .i64 (4 : Int)])] (by kernel_rfl) ?_
         refine kl_eqS (r := ((r23.2.2.1 == (5 : Int)) && ((r23.2.2.2 == (4 : Int)) && true))) (xs := #[.int .i64 r23.2.2.1, .int .i64 r23.2.2.2]) (ys := #[.int .i64 (5 : Int), .int .i64 (4 : Int)]) false (by kernel_rfl) rfl (by kernel_rfl) (by kernel_rfl) (by kernel_rfl) (by kernel_rfl) (by kernel_rfl) (by kernel_rfl) (by kernel_rfl) ?_
         refine kl_steps 2 [(68, .bool ((r23.2.2.1 == (5 : Int)) && ((r23.2.2.2 == (4 : Int)) && true)))] (by kernel_rfl) ?_
         rcases Bool.eq_false_or_eq_true (((r23.2.2.1 == (5 : Int)) && ((r23.2.2.2 == (4 : Int)) && true))) with t70 | t70
         ·have h := condT h t70
          refine K.weak (env' := [(68, .bool true)]) ?_ ⟨congrArg (fun b => some (Value.bool b)) t70, trivial⟩
          obtain ⟨r71, hr71, h⟩ := bindSome h
          refine kl_callv (by kernel_rfl) (by kernel_rfl) (by kernel_rfl) (check_Library.ok hr71 hG) ⟨hm_G, trivial⟩ ?_
          refine kl_steps 3 [(0, .bool (r71 == (17 : Int)))] (by kernel_rfl) ?_
          refine k_nil ?_
          refine k_then ?_
          exact k_meet1 ⟨congrArg (fun b => some (Value.bool b)) (Option.some.inj h), trivial⟩
         ·have h := condF h t70
          refine K.weak (env' := [(68, .bool false)]) ?_ ⟨congrArg (fun b => some (Value.bool b)) t70, trivial⟩
          refine kl_steps 4 [(0, .bool false)] (by kernel_rfl) ?_
          refine k_nil ?_
          refine k_then ?_
          exact k_meet1 ⟨congrArg (fun b => some (Value.bool b)) (Option.some.inj h), trivial⟩
        ·have h := condF h t69
         refine K.weak (env' := [(6, .pointer (some ⟨b33, 0, none⟩)), (63, .bool false)]) ?_ ⟨rfl, congrArg (fun b => some (Value.bool b)) t69, trivial⟩
         refine kl_steps 9 [(0, .bool false)] (by kernel_rfl) ?_
         refine k_nil ?_
         refine k_then ?_
         refine K.drop ?_
         exact k_meet1 ⟨congrArg (fun b => some (Value.bool b)) (Option.some.inj h), trivial⟩
       ·have h := condF h t68
        refine K.weak (env' := [(4, .pointer (some ⟨b22, 0, none⟩)), (6, .pointer (some ⟨b33, 0, none⟩)), (58, .bool false)]) ?_ ⟨rfl, rfl, congrArg (fun b => some (Value.bool b)) t68, trivial⟩
        refine kl_steps 14 [(0, .bool false)] (by kernel_rfl) ?_
        refine k_nil ?_
        refine k_then ?_
        refine K.drop ?_
        refine K.drop ?_
        exact k_meet1 ⟨congrArg (fun b => some (Value.bool b)) (Option.some.inj h), trivial⟩
      ·have h := condF h t63
       refine K.weak (env' := [(1, .pointer (some ⟨b10, 0, none⟩)), (4, .pointer (some ⟨b22, 0, none⟩)), (6, .pointer (some ⟨b33, 0, none⟩)), (51, .bool false)]) ?_ ⟨rfl, rfl, rfl, congrArg (fun b => some (Value.bool b)) t63, trivial⟩
       refine kl_steps 21 [(0, .bool false)] (by kernel_rfl) ?_
       refine k_nil ?_
       refine k_then ?_
       refine K.drop ?_
       refine K.drop ?_
       refine K.drop ?_
       refine K.drop ?_
       refine K.drop ?_
       exact k_meet1 ⟨congrArg (fun b => some (Value.bool b)) (Option.some.inj h), trivial⟩
     ·have h := condF h t62
      refine K.weak (env' := [(1, .pointer (some ⟨b10, 0, none⟩)), (4, .pointer (some ⟨b22, 0, none⟩)), (6, .pointer (some ⟨b33, 0, none⟩)), (45, .bool false)]) ?_ ⟨rfl, rfl, rfl, congrArg (fun b => some (Value.bool b)) t62, trivial⟩
      refine kl_steps 27 [(0, .bool false)] (by kernel_rfl) ?_
      refine k_nil ?_
      refine k_then ?_
      refine K.drop ?_
      refine K.drop ?_
      refine K.drop ?_
      refine K.drop ?_
      refine K.drop ?_
      exact k_meet1 ⟨congrArg (fun b => some (Value.bool b)) (Option.some.inj h), trivial⟩
    ·have h := condF h t49
     refine K.weak (env' := [(1, .pointer (some ⟨b10, 0, none⟩)), (4, .pointer (some ⟨b22, 0, none⟩)), (6, .pointer (some ⟨b33, 0, none⟩)), (36, .bool false)]) ?_ ⟨rfl, rfl, rfl, congrArg (fun b => some (Value.bool b)) t49, trivial⟩
     refine kl_steps 36 [(0, .bool false)] (by kernel_rfl) ?_
     refine k_nil ?_
     refine k_then ?_
     refine K.drop ?_
     refine K.drop ?_
     refine K.drop ?_
     refine K.drop ?_
     refine K.drop ?_
     exact k_meet1 ⟨congrArg (fun b => some (Value.bool b)) (Option.some.inj h), trivial⟩
   ·have h := condF h t36
    refine K.weak (env' := [(1, .pointer (some ⟨b10, 0, none⟩)), (4, .pointer (some ⟨b22, 0, none⟩)), (6, .pointer (some ⟨b33, 0, none⟩)), (28, .bool false)]) ?_ ⟨rfl, rfl, rfl, congrArg (fun b => some (Value.bool b)) t36, trivial⟩
    refine kl_steps 44 [(0, .bool false)] (by kernel_rfl) ?_
    refine k_nil ?_
    refine k_then ?_
    refine K.drop ?_
    refine K.drop ?_
    refine K.drop ?_
    refine K.drop ?_
    refine K.drop ?_
    exact k_meet1 ⟨congrArg (fun b => some (Value.bool b)) (Option.some.inj h), trivial⟩
  ·have h := condF h t35
   refine K.weak (env' := [(1, .pointer (some ⟨b10, 0, none⟩)), (4, .pointer (some ⟨b22, 0, none⟩)), (6, .pointer (some ⟨b33, 0, none⟩)), (22, .bool false)]) ?_ ⟨rfl, rfl, rfl, congrArg (fun b => some (Value.bool b)) t35, trivial⟩
   refine kl_steps 50 [(0, .bool false)] (by kernel_rfl) ?_
   refine k_nil ?_
   refine k_then ?_
   refine K.drop ?_
   refine K.drop ?_
   refine K.drop ?_
   refine K.drop ?_
   refine K.drop ?_
   exact k_meet1 ⟨congrArg (fun b => some (Value.bool b)) (Option.some.inj h), trivial⟩
def law13_CheckNames.f (k : Nat) (a0 : ByteArray) : Option (Bool) := (check_Library.f k a0).bind fun r1 => ((law13_fixed.f k).bind fun r3 => cond r3 ((r13_Library.f k a0).bind fun r5 => cond (r1 == r5) (cond (decide (r1 ≥ (0 : Int))) (cond (decide (r1 ≤ (22 : Int))) ((check_Library.f k (⟨#[112, 114, 105, 110, 116]⟩ : ByteArray)).bind fun r9 => cond (r9 == (1 : Int)) ((check_Library.f k (⟨#[117, 116, 102, 56, 46, 99, 111, 100, 101, 115]⟩ : ByteArray)).bind fun r11 => some (r11 == (22 : Int))) (some false)) (some false)) (some false)) (some false)) (some false) : Option Bool).bind fun q2 => some (q2)
set_option maxRecDepth 100000 in
theorem law13_CheckNames.ok {k : Nat} {a0 : ByteArray} {G : Frag} {r : Bool} (h : law13_CheckNames.f k a0 = some r) (hG : GlP G) : Ct Tryz.prog 3 #[.string a0] [] [G] (fun e l1 => e = .returned (.bool r) ∧ l1 = []) := by
 refine ct_enter (args := [.string a0]) Tryz.func3 rfl (Nat.le_of_ble_eq_true rfl) ?_
 intro A X hh_
 obtain ⟨hm_G, _⟩ := hh_
 unfold law13_CheckNames.f at h
 refine k_seq ?_
 refine k_region ?_
 refine kl_steps 1 [(0, .string a0)] (by kernel_rfl) ?_
 refine k_nil ?_
 refine k_then ?_
 refine k_seq ?_
 refine k_region ?_
 refine kl_steps 1 [(0, .string a0), (4, .string a0)] (by kernel_rfl) ?_
 obtain ⟨r1, hr1, h⟩ := bindSome h
 refine kl_callv (by kernel_rfl) (by kernel_rfl) (by kernel_rfl) (check_Library.ok hr1 hG) ⟨hm_G, trivial⟩ ?_
 refine kl_steps 1 [(0, .string a0), (3, .int .i64 r1)] (by kernel_rfl) ?_
 refine k_nil ?_
 refine k_then ?_
 obtain ⟨q2, hq2, h⟩ := bindSome h
 refine k_cut1 [(2, .bool q2)] (X) ?_ ?_
 ·clear hq2
  refine k_ret ?_
  obtain rfl := Option.some.inj h
  refine k_done (v := .bool q2) [] [] [] (by kernel_rfl) (by kernel_rfl) trivial ?_
  exact k_end ⟨rfl, rfl⟩
 ·have h := hq2
  clear hq2
  refine k_region ?_
  obtain ⟨r3, hr3, h⟩ := bindSome h
  refine kl_callv (by kernel_rfl) (by kernel_rfl) (by kernel_rfl) (law13_fixed.ok hr3 hG) ⟨hm_G, trivial⟩ ?_
  refine kl_steps 1 [(0, .string a0), (3, .int .i64 r1), (7, .bool r3)] (by kernel_rfl) ?_
  rcases Bool.eq_false_or_eq_true (r3) with t4 | t4
  ·have h := condT h t4
   refine K.weak (env' := [(0, .string a0), (3, .int .i64 r1), (7, .bool true)]) ?_ ⟨rfl, rfl, congrArg (fun b => some (Value.bool b)) t4, trivial⟩
   refine kl_steps 2 [(3, .int .i64 r1), (7, .bool true), (8, .int .i64 r1), (9, .string a0)] (by kernel_rfl) ?_
   obtain ⟨r5, hr5, h⟩ := bindSome h
   refine kl_callv (by kernel_rfl) (by kernel_rfl) (by kernel_rfl) (r13_Library.ok hr5) trivial ?_
   refine kl_steps 3 [(3, .int .i64 r1), (13, .bool (r1 == r5))] (by kernel_rfl) ?_
   rcases Bool.eq_false_or_eq_true ((r1 == r5)) with t6 | t6
   ·have h := condT h t6
    refine K.weak (env' := [(3, .int .i64 r1), (13, .bool true)]) ?_ ⟨rfl, congrArg (fun b => some (Value.bool b)) t6, trivial⟩
    refine kl_steps 4 [(3, .int .i64 r1), (17, .bool (decide (r1 ≥ (0 : Int))))] (by kernel_rfl) ?_
    rcases Bool.eq_false_or_eq_true (decide (r1 ≥ (0 : Int))) with t7 | t7
    ·have h := condT h t7
     refine K.weak (env' := [(3, .int .i64 r1), (17, .bool true)]) ?_ ⟨rfl, congrArg (fun b => some (Value.bool b)) t7, trivial⟩
     refine kl_steps 4 [(21, .bool (decide (r1 ≤ (22 : Int))))] (by kernel_rfl) ?_
     rcases Bool.eq_false_or_eq_true (decide (r1 ≤ (22 : Int))) with t8 | t8
     ·have h := condT h t8
      refine K.weak (env' := [(21, .bool true)]) ?_ ⟨congrArg (fun b => some (Value.bool b)) t8, trivial⟩
      obtain ⟨r9, hr9, h⟩ := bindSome h
      refine kl_callv (by kernel_rfl) (by kernel_rfl) (by kernel_rfl) (check_Library.ok hr9 hG) ⟨hm_G, trivial⟩ ?_
      refine kl_steps 3 [(25, .bool (r9 == (1 : Int)))] (by kernel_rfl) ?_
      rcases Bool.eq_false_or_eq_true ((r9 == (1 : Int))) with t10 | t10
      ·have h := condT h t10
       refine K.weak (env' := [(25, .bool true)]) ?_ ⟨congrArg (fun b => some (Value.bool b)) t10, trivial⟩
       obtain ⟨r11, hr11, h⟩ := bindSome h
       refine kl_callv (by kernel_rfl) (by kernel_rfl) (by kernel_rfl) (check_Library.ok hr11 hG) ⟨hm_G, trivial⟩ ?_
       refine kl_steps 3 [(2, .bool (r11 == (22 : Int)))] (by kernel_rfl) ?_
       refine k_nil ?_
       refine k_then ?_
       exact k_meet1 ⟨congrArg (fun b => some (Value.bool b)) (Option.some.inj h), trivial⟩
      ·have h := condF h t10
       refine K.weak (env' := [(25, .bool false)]) ?_ ⟨congrArg (fun b => some (Value.bool b)) t10, trivial⟩
       refine kl_steps 4 [(2, .bool false)] (by kernel_rfl) ?_
       refine k_nil ?_
       refine k_then ?_
       exact k_meet1 ⟨congrArg (fun b => some (Value.bool b)) (Option.some.inj h), trivial⟩
     ·have h := condF h t8
      refine K.weak (env' := [(21, .bool false)]) ?_ ⟨congrArg (fun b => some (Value.bool b)) t8, trivial⟩
      refine kl_steps 8 [(2, .bool false)] (by kernel_rfl) ?_
      refine k_nil ?_
      refine k_then ?_
      exact k_meet1 ⟨congrArg (fun b => some (Value.bool b)) (Option.some.inj h), trivial⟩
    ·have h := condF h t7
     refine K.weak (env' := [(3, .int .i64 r1), (17, .bool false)]) ?_ ⟨rfl, congrArg (fun b => some (Value.bool b)) t7, trivial⟩
     refine kl_steps 12 [(2, .bool false)] (by kernel_rfl) ?_
     refine k_nil ?_
     refine k_then ?_
     exact k_meet1 ⟨congrArg (fun b => some (Value.bool b)) (Option.some.inj h), trivial⟩
   ·have h := condF h t6
    refine K.weak (env' := [(3, .int .i64 r1), (13, .bool false)]) ?_ ⟨rfl, congrArg (fun b => some (Value.bool b)) t6, trivial⟩
    refine kl_steps 16 [(2, .bool false)] (by kernel_rfl) ?_
    refine k_nil ?_
    refine k_then ?_
    exact k_meet1 ⟨congrArg (fun b => some (Value.bool b)) (Option.some.inj h), trivial⟩
  ·have h := condF h t4
   refine K.weak (env' := [(0, .string a0), (3, .int .i64 r1), (7, .bool false)]) ?_ ⟨rfl, rfl, congrArg (fun b => some (Value.bool b)) t4, trivial⟩
   refine kl_steps 22 [(2, .bool false)] (by kernel_rfl) ?_
   refine k_nil ?_
   refine k_then ?_
   exact k_meet1 ⟨congrArg (fun b => some (Value.bool b)) (Option.some.inj h), trivial⟩
end Go.Proofs.YtdkgnlaneccioaaGreatDoor
namespace Go.Proofs.YtdkgnlaneccioaaGreatDoor
open Go Go.RowKit Lx
theorem wiC (x : Int) (h0 : -9223372036854775808 ≤ x) (h1 : x ≤ 9223372036854775807) : IntKind.i64.wrap x = x := by unfold IntKind.wrap; simp [IntKind.bits, IntKind.signed]; omega
theorem lIdx_natC {α : Type} {l : List α} {i : Nat} (h : i < l.length) : lIdx l (i : Int) = some l[i] := by
 unfold lIdx
 rw [if_pos (by omega), Int.toNat_natCast, List.getElem?_eq_getElem h]
def whereC (X : Bs) : List Bs → Int → Int
 | [], _ => -1
 | y :: l, i => if X == y then i else whereC X l (i + 1)
theorem index_loop (L : List ByteArray) (hL : L.length ≤ 1000) (s : ByteArray) : ∀ (d i k : Nat), L.length - i ≤ d → i ≤ L.length → d < k →
  slices_Index_string_string_.l0 k L s (fun _ => some (-1)) (i : Int) = some (whereC s.toList ((L.drop i).map (·.toList)) i)
 | d, i, k, hd, hi, hk => by
  obtain ⟨k, rfl⟩ : ∃ m, k = m + 1 := ⟨k - 1, by omega⟩
  simp only [slices_Index_string_string_.l0]
  rcases Nat.lt_or_ge i L.length with h | h
  ·obtain ⟨d, rfl⟩ : ∃ m, d = m + 1 := ⟨d - 1, by omega⟩
   rw [decide_eq_true (p := (i : Int) < L.length) (by omega), lIdx_natC h, wiC ((i : Int) + 1) (by omega) (by omega), show (i : Int) + 1 = ((i + 1 : Nat) : Int) by omega, List.drop_eq_getElem_cons h, List.map_cons]
   simp only [cond_true, Option.bind_some]
   unfold whereC
   cases hq : s.toList == L[i].toList with
   | true => rfl
   | false =>
    rw [cond_false, index_loop L hL s d (i + 1) k (by omega) (by omega) (by omega)]
    rfl
  ·rw [decide_eq_false (p := (i : Int) < L.length) (by omega), List.drop_of_length_le h]
   rfl
def refNames : List ByteArray := [(⟨#[112, 114, 105, 110, 116]⟩ : ByteArray), (⟨#[116, 121, 112, 101]⟩ : ByteArray), (⟨#[116, 111, 115, 116, 114, 105, 110, 103]⟩ : ByteArray), (⟨#[116, 111, 110, 117, 109, 98, 101, 114]⟩ : ByteArray), (⟨#[110, 101, 120, 116]⟩ : ByteArray), (⟨#[112, 97, 105, 114, 115]⟩ : ByteArray), (⟨#[105, 112, 97, 105, 114, 115]⟩ : ByteArray), (⟨#[114, 97, 119, 108, 101, 110]⟩ : ByteArray), (⟨#[115, 116, 97, 116, 115]⟩ : ByteArray), (⟨#[112, 114, 111, 98, 101, 115]⟩ : ByteArray), (⟨#[]⟩ : ByteArray), (⟨#[116, 97, 98, 108, 101, 46, 105, 110, 115, 101, 114, 116]⟩ : ByteArray), (⟨#[116, 97, 98, 108, 101, 46, 114, 101, 109, 111, 118, 101]⟩ : ByteArray), (⟨#[116, 97, 98, 108, 101, 46, 99, 111, 110, 99, 97, 116]⟩ : ByteArray), (⟨#[116, 97, 98, 108, 101, 46, 117, 110, 112, 97, 99, 107]⟩ : ByteArray), (⟨#[116, 97, 98, 108, 101, 46, 109, 111, 118, 101]⟩ : ByteArray), (⟨#[116, 97, 98, 108, 101, 46, 115, 111, 114, 116]⟩ : ByteArray), (⟨#[117, 116, 102, 56, 46, 108, 101, 110]⟩ : ByteArray), (⟨#[117, 116, 102, 56, 46, 99, 104, 97, 114]⟩ : ByteArray), (⟨#[117, 116, 102, 56, 46, 99, 111, 100, 101, 112, 111, 105, 110, 116]⟩ : ByteArray), (⟨#[117, 116, 102, 56, 46, 111, 102, 102, 115, 101, 116]⟩ : ByteArray), (⟨#[117, 116, 102, 56, 46, 99, 111, 100, 101, 115]⟩ : ByteArray)]
def progNames : List Bs := Lib.fields (⟨#[112, 114, 105, 110, 116, 32, 116, 121, 112, 101, 32, 116, 111, 115, 116, 114, 105, 110, 103, 32, 116, 111, 110, 117, 109, 98, 101, 114, 32, 110, 101, 120, 116, 32, 112, 97, 105, 114, 115, 32, 105, 112, 97, 105, 114, 115, 32, 114, 97, 119, 108, 101, 110, 32, 115, 116, 97, 116, 115, 32, 112, 114, 111, 98, 101, 115, 32, 45, 32, 116, 97, 98, 108, 101, 46, 105, 110, 115, 101, 114, 116, 32, 116, 97, 98, 108, 101, 46, 114, 101, 109, 111, 118, 101, 32, 116, 97, 98, 108, 101, 46, 99, 111, 110, 99, 97, 116, 32, 116, 97, 98, 108, 101, 46, 117, 110, 112, 97, 99, 107, 32, 116, 97, 98, 108, 101, 46, 109, 111, 118, 101, 32, 116, 97, 98, 108, 101, 46, 115, 111, 114, 116, 32, 117, 116, 102, 56, 46, 108, 101, 110, 32, 117, 116, 102, 56, 46, 99, 104, 97, 114, 32, 117, 116, 102, 56, 46, 99, 111, 100, 101, 112, 111, 105, 110, 116, 32, 117, 116, 102, 56, 46, 111, 102, 102, 115, 101, 116, 32, 117, 116, 102, 56, 46, 99, 111, 100, 101, 115, 32, 45]⟩ : ByteArray).data.toList
def whereR (X : Bs) : List Bs → Int → Int
 | [], _ => 0
 | y :: l, i => if (!(X == [])) && y == X then i + 1 else whereR X l (i + 1)
theorem ref_step (k : Nat) (a0 : ByteArray) (J : Unit → Option Int) (x : Int) : r13_Library.l0 (k + 1) a0 J x = cond (decide (x < (22 : Int))) ((cond (!(a0.toList == (⟨#[]⟩ : ByteArray).toList)) ((lIdx refNames x).bind fun x9 => some (x9.toList == a0.toList)) (some false) : Option Bool).bind fun q6 => cond q6 (some (IntKind.i64.wrap (x + (1 : Int)))) (r13_Library.l0 k a0 J (IntKind.i64.wrap (x + (1 : Int))))) (J ()) := rfl
theorem ref_loop (s : ByteArray) : ∀ (d i k : Nat), 22 - i ≤ d → i ≤ 22 → d < k → r13_Library.l0 k s (fun _ => some 0) (i : Int) = some (whereR s.toList ((refNames.drop i).map (·.toList)) i)
 | d, i, k, hd, hi, hk => by
  obtain ⟨k, rfl⟩ : ∃ m, k = m + 1 := ⟨k - 1, by omega⟩
  have hlen : refNames.length = 22 := rfl
  rw [ref_step]
  rcases Nat.lt_or_ge i 22 with h | h
  ·obtain ⟨d, rfl⟩ : ∃ m, d = m + 1 := ⟨d - 1, by omega⟩
   have h' : i < refNames.length := by omega
   have he : (⟨#[]⟩ : ByteArray).toList = [] := by kernel_rfl
   rw [decide_eq_true (p := (i : Int) < 22) (by omega), lIdx_natC h', wiC ((i : Int) + 1) (by omega) (by omega), List.drop_eq_getElem_cons h', List.map_cons, he]
   simp only [cond_true, Option.bind_some]
   unfold whereR
   have ih := ref_loop s d (i + 1) k (by omega) (by omega) (by omega)
   rw [show ((i + 1 : Nat) : Int) = (i : Int) + 1 by omega] at ih
   cases hn : s.toList == [] with
   | true => simp only [Bool.not_true, cond_false, Option.bind_some, Bool.false_and, Bool.false_eq_true, if_false]; exact ih
   | false =>
    simp only [Bool.not_false, cond_true, Option.bind_some, Bool.true_and]
    cases hq : refNames[i].toList == s.toList with
    | true => rfl
    | false => simp only [cond_false, Bool.false_eq_true, if_false]; exact ih
  ·rw [decide_eq_false (p := (i : Int) < 22) (by omega), List.drop_of_length_le (by omega)]
   rfl
theorem whereC_no (X : Bs) : ∀ (l : List Bs) (i : Int), X ∉ l → whereC X l i = -1
 | [], _, _ => rfl
 | y :: l, i, h => by
  unfold whereC
  rw [if_neg (by simp only [beq_iff_eq]; rintro rfl; exact h (List.mem_cons_self ..))]
  exact whereC_no X l _ fun h' => h (List.mem_cons_of_mem _ h')
theorem whereR_no (X : Bs) : ∀ (l : List Bs) (i : Int), X ∉ l → whereR X l i = 0
 | [], _, _ => rfl
 | y :: l, i, h => by
  unfold whereR
  rw [if_neg (by simp only [Bool.and_eq_true, beq_iff_eq]; rintro ⟨_, rfl⟩; exact h (List.mem_cons_self ..))]
  exact whereR_no X l _ fun h' => h (List.mem_cons_of_mem _ h')
def libOf (X : Bs) : Int := if X == [45] then 0 else whereC X progNames 0 + 1
theorem lib_same (X : Bs) : libOf X = whereR X (refNames.map (·.toList)) 0 ∧ 0 ≤ libOf X ∧ libOf X ≤ 22 := by
 by_cases h : X ∈ [45] :: (progNames ++ refNames.map (·.toList))
 ·revert h
  have key : ∀ x ∈ [45] :: (progNames ++ refNames.map (·.toList)), libOf x = whereR x (refNames.map (·.toList)) 0 ∧ 0 ≤ libOf x ∧ libOf x ≤ 22 := by decide +kernel
  exact key X
 ·simp only [List.mem_cons, List.mem_append, not_or] at h
  obtain ⟨h1, h2, h3⟩ := h
  have e : libOf X = 0 := by
   unfold libOf
   rw [if_neg (by simpa using h1), whereC_no X _ _ h2]
   rfl
  rw [e, whereR_no X _ _ h3]
  decide
def progList : List ByteArray := (Lib.fields (⟨#[112, 114, 105, 110, 116, 32, 116, 121, 112, 101, 32, 116, 111, 115, 116, 114, 105, 110, 103, 32, 116, 111, 110, 117, 109, 98, 101, 114, 32, 110, 101, 120, 116, 32, 112, 97, 105, 114, 115, 32, 105, 112, 97, 105, 114, 115, 32, 114, 97, 119, 108, 101, 110, 32, 115, 116, 97, 116, 115, 32, 112, 114, 111, 98, 101, 115, 32, 45, 32, 116, 97, 98, 108, 101, 46, 105, 110, 115, 101, 114, 116, 32, 116, 97, 98, 108, 101, 46, 114, 101, 109, 111, 118, 101, 32, 116, 97, 98, 108, 101, 46, 99, 111, 110, 99, 97, 116, 32, 116, 97, 98, 108, 101, 46, 117, 110, 112, 97, 99, 107, 32, 116, 97, 98, 108, 101, 46, 109, 111, 118, 101, 32, 116, 97, 98, 108, 101, 46, 115, 111, 114, 116, 32, 117, 116, 102, 56, 46, 108, 101, 110, 32, 117, 116, 102, 56, 46, 99, 104, 97, 114, 32, 117, 116, 102, 56, 46, 99, 111, 100, 101, 112, 111, 105, 110, 116, 32, 117, 116, 102, 56, 46, 111, 102, 102, 115, 101, 116, 32, 117, 116, 102, 56, 46, 99, 111, 100, 101, 115, 32, 45]⟩ : ByteArray).data.toList).map fun l => ⟨l.toArray⟩
theorem fields_made (k : Nat) : strings_Fields.f k (⟨#[112, 114, 105, 110, 116, 32, 116, 121, 112, 101, 32, 116, 111, 115, 116, 114, 105, 110, 103, 32, 116, 111, 110, 117, 109, 98, 101, 114, 32, 110, 101, 120, 116, 32, 112, 97, 105, 114, 115, 32, 105, 112, 97, 105, 114, 115, 32, 114, 97, 119, 108, 101, 110, 32, 115, 116, 97, 116, 115, 32, 112, 114, 111, 98, 101, 115, 32, 45, 32, 116, 97, 98, 108, 101, 46, 105, 110, 115, 101, 114, 116, 32, 116, 97, 98, 108, 101, 46, 114, 101, 109, 111, 118, 101, 32, 116, 97, 98, 108, 101, 46, 99, 111, 110, 99, 97, 116, 32, 116, 97, 98, 108, 101, 46, 117, 110, 112, 97, 99, 107, 32, 116, 97, 98, 108, 101, 46, 109, 111, 118, 101, 32, 116, 97, 98, 108, 101, 46, 115, 111, 114, 116, 32, 117, 116, 102, 56, 46, 108, 101, 110, 32, 117, 116, 102, 56, 46, 99, 104, 97, 114, 32, 117, 116, 102, 56, 46, 99, 111, 100, 101, 112, 111, 105, 110, 116, 32, 117, 116, 102, 56, 46, 111, 102, 102, 115, 101, 116, 32, 117, 116, 102, 56, 46, 99, 111, 100, 101, 115, 32, 45]⟩ : ByteArray) = some progList := by
 have h : (decide ((⟨#[112, 114, 105, 110, 116, 32, 116, 121, 112, 101, 32, 116, 111, 115, 116, 114, 105, 110, 103, 32, 116, 111, 110, 117, 109, 98, 101, 114, 32, 110, 101, 120, 116, 32, 112, 97, 105, 114, 115, 32, 105, 112, 97, 105, 114, 115, 32, 114, 97, 119, 108, 101, 110, 32, 115, 116, 97, 116, 115, 32, 112, 114, 111, 98, 101, 115, 32, 45, 32, 116, 97, 98, 108, 101, 46, 105, 110, 115, 101, 114, 116, 32, 116, 97, 98, 108, 101, 46, 114, 101, 109, 111, 118, 101, 32, 116, 97, 98, 108, 101, 46, 99, 111, 110, 99, 97, 116, 32, 116, 97, 98, 108, 101, 46, 117, 110, 112, 97, 99, 107, 32, 116, 97, 98, 108, 101, 46, 109, 111, 118, 101, 32, 116, 97, 98, 108, 101, 46, 115, 111, 114, 116, 32, 117, 116, 102, 56, 46, 108, 101, 110, 32, 117, 116, 102, 56, 46, 99, 104, 97, 114, 32, 117, 116, 102, 56, 46, 99, 111, 100, 101, 112, 111, 105, 110, 116, 32, 117, 116, 102, 56, 46, 111, 102, 102, 115, 101, 116, 32, 117, 116, 102, 56, 46, 99, 111, 100, 101, 115, 32, 45]⟩ : ByteArray).size < 4294967281 ∧ (Lib.fields (⟨#[112, 114, 105, 110, 116, 32, 116, 121, 112, 101, 32, 116, 111, 115, 116, 114, 105, 110, 103, 32, 116, 111, 110, 117, 109, 98, 101, 114, 32, 110, 101, 120, 116, 32, 112, 97, 105, 114, 115, 32, 105, 112, 97, 105, 114, 115, 32, 114, 97, 119, 108, 101, 110, 32, 115, 116, 97, 116, 115, 32, 112, 114, 111, 98, 101, 115, 32, 45, 32, 116, 97, 98, 108, 101, 46, 105, 110, 115, 101, 114, 116, 32, 116, 97, 98, 108, 101, 46, 114, 101, 109, 111, 118, 101, 32, 116, 97, 98, 108, 101, 46, 99, 111, 110, 99, 97, 116, 32, 116, 97, 98, 108, 101, 46, 117, 110, 112, 97, 99, 107, 32, 116, 97, 98, 108, 101, 46, 109, 111, 118, 101, 32, 116, 97, 98, 108, 101, 46, 115, 111, 114, 116, 32, 117, 116, 102, 56, 46, 108, 101, 110, 32, 117, 116, 102, 56, 46, 99, 104, 97, 114, 32, 117, 116, 102, 56, 46, 99, 111, 100, 101, 112, 111, 105, 110, 116, 32, 117, 116, 102, 56, 46, 111, 102, 102, 115, 101, 116, 32, 117, 116, 102, 56, 46, 99, 111, 100, 101, 115, 32, 45]⟩ : ByteArray).data.toList).length ≤ 1000000) && (⟨#[112, 114, 105, 110, 116, 32, 116, 121, 112, 101, 32, 116, 111, 115, 116, 114, 105, 110, 103, 32, 116, 111, 110, 117, 109, 98, 101, 114, 32, 110, 101, 120, 116, 32, 112, 97, 105, 114, 115, 32, 105, 112, 97, 105, 114, 115, 32, 114, 97, 119, 108, 101, 110, 32, 115, 116, 97, 116, 115, 32, 112, 114, 111, 98, 101, 115, 32, 45, 32, 116, 97, 98, 108, 101, 46, 105, 110, 115, 101, 114, 116, 32, 116, 97, 98, 108, 101, 46, 114, 101, 109, 111, 118, 101, 32, 116, 97, 98, 108, 101, 46, 99, 111, 110, 99, 97, 116, 32, 116, 97, 98, 108, 101, 46, 117, 110, 112, 97, 99, 107, 32, 116, 97, 98, 108, 101, 46, 109, 111, 118, 101, 32, 116, 97, 98, 108, 101, 46, 115, 111, 114, 116, 32, 117, 116, 102, 56, 46, 108, 101, 110, 32, 117, 116, 102, 56, 46, 99, 104, 97, 114, 32, 117, 116, 102, 56, 46, 99, 111, 100, 101, 112, 111, 105, 110, 116, 32, 117, 116, 102, 56, 46, 111, 102, 102, 115, 101, 116, 32, 117, 116, 102, 56, 46, 99, 111, 100, 101, 115, 32, 45]⟩ : ByteArray).data.toList.all fun b => decide (b.toNat < 128)) = true := by decide +kernel
 unfold strings_Fields.f
 rw [h]
 rfl
theorem progList_len : progList.length = 23 := by decide +kernel
theorem progList_names : progList.map (·.toList) = progNames := by decide +kernel
theorem library_eq (k : Nat) (hk : 30 ≤ k) (a0 : ByteArray) : check_Library.f k a0 = some (libOf a0.toList) := by
 have h1 := fields_made k
 obtain ⟨L, hL⟩ : ∃ L, L = progList := ⟨_, rfl⟩
 have h2 := progList_len
 have h3 := progList_names
 rw [← hL] at h1 h2 h3
 have hd : (⟨#[45]⟩ : ByteArray).toList = [45] := by kernel_rfl
 unfold check_Library.f
 rw [hd, h1]
 unfold libOf
 cases hq : a0.toList == [45] with
 | true => rfl
 | false =>
  simp only [cond_false, Option.bind_some, Bool.false_eq_true, if_false]
  unfold slices_Index_string_string_.f joinF
  have hl := index_loop L (by omega) a0 L.length 0 k (by omega) (by omega) (by omega)
  rw [List.drop_zero, h3, Int.ofNat_zero] at hl
  change ((slices_Index_string_string_.l0 k L a0 (fun _ => some (-1)) 0).bind _) = _
  rw [hl]
  have hb := (lib_same a0.toList).2
  unfold libOf at hb
  rw [hq] at hb
  simp only [Bool.false_eq_true, if_false] at hb
  simp only [Option.bind_some]
  rw [wiC _ (by omega) (by omega)]
theorem refLibrary_eq (k : Nat) (hk : 30 ≤ k) (a0 : ByteArray) : r13_Library.f k a0 = some (libOf a0.toList) := by
 unfold r13_Library.f joinF
 have hl := ref_loop a0 22 0 k (by omega) (by omega) (by omega)
 rw [List.drop_zero, Int.ofNat_zero, ← (lib_same a0.toList).1] at hl
 exact hl
theorem fixed13 : law13_fixed.f 300 = some true := by kernel_rfl
theorem checkNames_true (s : ByteArray) : law13_CheckNames.f 300 s = some true := by
 have hb := (lib_same s.toList).2
 unfold law13_CheckNames.f
 rw [library_eq 300 (by decide), refLibrary_eq 300 (by decide), fixed13, library_eq 300 (by decide), library_eq 300 (by decide)]
 simp only [Option.bind_some, cond_true, beq_self_eq_true]
 rw [decide_eq_true (p := libOf s.toList ≥ 0) (by omega), decide_eq_true (p := libOf s.toList ≤ 22) hb.2]
 simp only [cond_true]
 decide +kernel
end Go.Proofs.YtdkgnlaneccioaaGreatDoor
