/- Texts of mine for lexPlain_card, part 3. -/
import Derived.Test.YtoaplbeojagjcaaDoorLpB
set_option linter.unusedSimpArgs false
set_option linter.unusedVariables false
set_option linter.unusedSectionVars false
namespace Go.Proofs.YtoaplbeojagjcaaDoor
open Go Go.RowKit
theorem ety33 : ElemTy Tryd.prog 33 5 1 1 Tryd.t5 (.int .u8 (0 : Int)) := ⟨by kernel_rfl, by kernel_rfl, by kernel_rfl, by kernel_rfl, by kernel_rfl, by kernel_rfl, by decide⟩
def strings_Builder_WriteByte.f (k : Nat) (a0_1 : List Int) (a1 : Int) : Option (List Int) := (strings_Builder_copyCheck.f k a0_1).bind fun r1 => (apd 1 a0_1 [a1]).bind fun l5 => some (l5)
set_option maxRecDepth 100000 in
theorem strings_Builder_WriteByte.ok {k : Nat} {a0_1 : List Int} {a1 : Int} {b0 : Nat} {T0_ : Nat} {v0_ : Value} {H_a0_1 : Frag} {A_a0_1 : Option Addr} {c_a0_1 : Nat} {r : List Int} (h : strings_Builder_WriteByte.f k a0_1 a1 = some r) (BT_b0 : isBd T0_) (V_v0_ : SelfOr b0 v0_) (R_a0_1 : OwnT (encI .u8) 5 1 H_a0_1 (.slice A_a0_1 a0_1.length c_a0_1) a0_1) : Ct Tryd.prog 9 #[.pointer (some ⟨b0, 0, none⟩), .int .u8 a1] [blk b0 (.cells #[v0_, .slice A_a0_1 a0_1.length c_a0_1] T0_ (0, 0)), H_a0_1] [] (fun e l1 => ∃ (W0_ : Value) (H0_ : Frag) (A0_ : Option Addr) (c0_ : Nat), SelfOr b0 W0_ ∧ OwnT (encI .u8) 5 1 H0_ (.slice A0_ r.length c0_) r ∧ e = .returned (.nilIface) ∧ l1 = [blk b0 (.cells #[W0_, .slice A0_ r.length c0_] T0_ (0, 0)), H0_]) := by
 refine ct_enter (args := [.pointer (some ⟨b0, 0, none⟩), .int .u8 a1]) Tryd.func9 rfl (Nat.le_of_ble_eq_true rfl) ?_
 intro A X hh_
 unfold strings_Builder_WriteByte.f at h
 refine K.eq (env' := [(0, .pointer (some ⟨b0, 0, none⟩)), (1, .int .u8 a1)]) (l' := blk b0 (.cells #[v0_, .slice A_a0_1 a0_1.length c_a0_1] T0_ (0, 0)) :: H_a0_1 :: X) rfl rfl ?_
 refine k_seq ?_
 refine k_region ?_
 refine kl_steps 1 [(0, .pointer (some ⟨b0, 0, none⟩)), (1, .int .u8 a1)] (by kernel_rfl) ?_
 refine k_nil ?_
 refine k_then ?_
 refine k_seq ?_
 refine k_region ?_
 refine kl_steps 1 [(0, .pointer (some ⟨b0, 0, none⟩)), (1, .int .u8 a1), (5, .pointer (some ⟨b0, 0, none⟩))] (by kernel_rfl) ?_
 obtain ⟨r1, hr1, h⟩ := bindSome h
 refine kl_call (H_a0_1 :: X) (by kernel_rfl) (by kernel_rfl) (by kernel_rfl) (strings_Builder_copyCheck.ok (b0 := b0) hr1 BT_b0 V_v0_ (OwnT.rd R_a0_1)) rfl ⟨(.head _), trivial⟩ ?_
 rintro _ _ ⟨v2, V3, rfl, rfl⟩
 refine nx_ret1 ?_
 refine k_nil ?_
 refine k_then ?_
 refine k_seq ?_
 refine k_region ?_
 refine kl_steps 4 [(1, .int .u8 a1), (7, .pointer (some ⟨b0, 0, none⟩)), (10, .pointer (some ⟨b0, 1, none⟩))] (by kernel_rfl) ?_
 refine kl_load (v := .slice A_a0_1 a0_1.length c_a0_1) [.val (.slice A_a0_1 a0_1.length c_a0_1)] [.ld ⟨b0, 1, none⟩ (.slice A_a0_1 a0_1.length c_a0_1)] (by kernel_rfl) (by kernel_rfl) (by kernel_rfl) ⟨⟨0, _, _, _, rfl, rfl, rfl⟩, trivial⟩ ?_
 refine kl_steps 1 [(7, .pointer (some ⟨b0, 0, none⟩)), (11, .slice A_a0_1 a0_1.length c_a0_1), (12, .int .u8 a1)] (by kernel_rfl) ?_
 refine kl_new (.cells #[.int .u8 a1] 5 (0, 0)) (fun b => .slice (some ⟨b, 0, none⟩) 1 1) (by kernel_rfl) (by kernel_rfl) (fun _ => by kernel_rfl) fun b4 => ?_
 refine K.mv2 ?_
 obtain ⟨l5, hl5, h⟩ := bindSome h
 refine kl_apd (ys := [a1]) (encI_ok .u8) rfl ety33 (by kernel_rfl) (by kernel_rfl) (by kernel_rfl) (by kernel_rfl) (by kernel_rfl) hl5 R_a0_1 (src_blk (n := 1) (encI_ok .u8) [a1] (by kernel_rfl) rfl (by decide) 1 rfl) fun h6 A7 k8 o9 => ?_
 refine K.mv1 ?_
 refine K.drop ?_
 refine kl_steps 2 [(14, .slice A7 l5.length k8), (16, .pointer (some ⟨b0, 1, none⟩))] (by kernel_rfl) ?_
 refine K.mv1 ?_
 refine kl_store (cs' := #[v2, .slice A7 l5.length k8]) [.st ⟨b0, 1, none⟩ (.slice A7 l5.length k8)] (by kernel_rfl) (by kernel_rfl) (by kernel_rfl) ⟨rfl, trivial⟩ (by kernel_rfl) ?_
 refine k_nil ?_
 refine k_then ?_
 refine k_seq ?_
 refine k_region ?_
 refine kl_steps 1 [(4, .nilIface)] (by kernel_rfl) ?_
 refine k_nil ?_
 refine k_then ?_
 refine k_ret ?_
 obtain rfl := Option.some.inj h
 refine k_done (v := .nilIface) [] [] [blk b0 (.cells #[v2, .slice A7 l5.length k8] T0_ (0, 0)), h6] (by kernel_rfl) (by kernel_rfl) trivial ?_
 exact k_end ⟨v2, h6, A7, k8, V3, o9, rfl, rfl⟩
def strings_Builder_WriteString.f (k : Nat) (a0_1 : List Int) (a1 : ByteArray) : Option (Int × List Int) := (strings_Builder_copyCheck.f k a0_1).bind fun r1 => (apd 1 a0_1 (bsI a1)).bind fun l4 => some ((a1.size : Int), l4)
set_option maxRecDepth 100000 in
theorem strings_Builder_WriteString.ok {k : Nat} {a0_1 : List Int} {a1 : ByteArray} {b0 : Nat} {T0_ : Nat} {v0_ : Value} {H_a0_1 : Frag} {A_a0_1 : Option Addr} {c_a0_1 : Nat} {r : Int × List Int} (h : strings_Builder_WriteString.f k a0_1 a1 = some r) (BT_b0 : isBd T0_) (V_v0_ : SelfOr b0 v0_) (R_a0_1 : OwnT (encI .u8) 5 1 H_a0_1 (.slice A_a0_1 a0_1.length c_a0_1) a0_1) : Ct Tryd.prog 11 #[.pointer (some ⟨b0, 0, none⟩), .string a1] [blk b0 (.cells #[v0_, .slice A_a0_1 a0_1.length c_a0_1] T0_ (0, 0)), H_a0_1] [] (fun e l1 => ∃ (W0_ : Value) (H0_ : Frag) (A0_ : Option Addr) (c0_ : Nat), SelfOr b0 W0_ ∧ OwnT (encI .u8) 5 1 H0_ (.slice A0_ r.2.length c0_) r.2 ∧ e = .returned (.tuple #[.int .i64 r.1, .nilIface]) ∧ l1 = [blk b0 (.cells #[W0_, .slice A0_ r.2.length c0_] T0_ (0, 0)), H0_]) := by
 refine ct_enter (args := [.pointer (some ⟨b0, 0, none⟩), .string a1]) Tryd.func11 rfl (Nat.le_of_ble_eq_true rfl) ?_
 intro A X hh_
 unfold strings_Builder_WriteString.f at h
 refine K.eq (env' := [(0, .pointer (some ⟨b0, 0, none⟩)), (1, .string a1)]) (l' := blk b0 (.cells #[v0_, .slice A_a0_1 a0_1.length c_a0_1] T0_ (0, 0)) :: H_a0_1 :: X) rfl rfl ?_
 refine k_seq ?_
 refine k_region ?_
 refine kl_steps 2 [(0, .pointer (some ⟨b0, 0, none⟩)), (1, .string a1)] (by kernel_rfl) ?_
 refine k_nil ?_
 refine k_then ?_
 refine k_seq ?_
 refine k_region ?_
 refine kl_steps 1 [(0, .pointer (some ⟨b0, 0, none⟩)), (1, .string a1), (6, .pointer (some ⟨b0, 0, none⟩))] (by kernel_rfl) ?_
 obtain ⟨r1, hr1, h⟩ := bindSome h
 refine kl_call (H_a0_1 :: X) (by kernel_rfl) (by kernel_rfl) (by kernel_rfl) (strings_Builder_copyCheck.ok (b0 := b0) hr1 BT_b0 V_v0_ (OwnT.rd R_a0_1)) rfl ⟨(.head _), trivial⟩ ?_
 rintro _ _ ⟨v2, V3, rfl, rfl⟩
 refine nx_ret1 ?_
 refine k_nil ?_
 refine k_then ?_
 refine k_seq ?_
 refine k_region ?_
 refine kl_steps 4 [(1, .string a1), (8, .pointer (some ⟨b0, 0, none⟩)), (11, .pointer (some ⟨b0, 1, none⟩))] (by kernel_rfl) ?_
 refine kl_load (v := .slice A_a0_1 a0_1.length c_a0_1) [.val (.slice A_a0_1 a0_1.length c_a0_1)] [.ld ⟨b0, 1, none⟩ (.slice A_a0_1 a0_1.length c_a0_1)] (by kernel_rfl) (by kernel_rfl) (by kernel_rfl) ⟨⟨0, _, _, _, rfl, rfl, rfl⟩, trivial⟩ ?_
 refine kl_steps 1 [(1, .string a1), (8, .pointer (some ⟨b0, 0, none⟩)), (12, .slice A_a0_1 a0_1.length c_a0_1), (13, .string a1)] (by kernel_rfl) ?_
 refine K.mv1 ?_
 obtain ⟨l4, hl4, h⟩ := bindSome h
 refine kl_apd (ys := (bsI a1)) (encI_ok .u8) rfl ety33 (by kernel_rfl) (by kernel_rfl) (by kernel_rfl) (by kernel_rfl) (by kernel_rfl) hl4 R_a0_1 (fun w_ _ => src_strT a1 w_) fun h5 A6 k7 o8 => ?_
 refine kl_steps 2 [(1, .string a1), (14, .slice A6 l4.length k7), (16, .pointer (some ⟨b0, 1, none⟩))] (by kernel_rfl) ?_
 refine K.mv1 ?_
 refine kl_store (cs' := #[v2, .slice A6 l4.length k7]) [.st ⟨b0, 1, none⟩ (.slice A6 l4.length k7)] (by kernel_rfl) (by kernel_rfl) (by kernel_rfl) ⟨rfl, trivial⟩ (by kernel_rfl) ?_
 refine k_nil ?_
 refine k_then ?_
 refine k_seq ?_
 refine k_region ?_
 refine kl_steps 4 [(4, .int .i64 (a1.size : Int)), (5, .nilIface)] (by kernel_rfl) ?_
 refine k_nil ?_
 refine k_then ?_
 refine k_ret ?_
 obtain rfl := Option.some.inj h
 refine k_done (v := .tuple #[.int .i64 (a1.size : Int), .nilIface]) [] [] [blk b0 (.cells #[v2, .slice A6 l4.length k7] T0_ (0, 0)), h5] (by kernel_rfl) (by kernel_rfl) trivial ?_
 exact k_end ⟨v2, h5, A6, k7, V3, o8, rfl, rfl⟩
def strings_Builder_Len.f (_k : Nat) (a0_1 : List Int) : Option (Int) := some (((a0_1.length : Nat) : Int))
set_option maxRecDepth 100000 in
theorem strings_Builder_Len.ok {k : Nat} {a0_1 : List Int} {b0 : Nat} {T0_ : Nat} {v0_ : Value} {H_a0_1 : Frag} {A_a0_1 : Option Addr} {c_a0_1 : Nat} {r : Int} (h : strings_Builder_Len.f k a0_1 = some r) (BT_b0 : isBd T0_) (V_v0_ : SelfOr b0 v0_) (R_a0_1 : RdT (encI .u8) 1 H_a0_1 (.slice A_a0_1 a0_1.length c_a0_1) a0_1) : Ct Tryd.prog 27 #[.pointer (some ⟨b0, 0, none⟩)] [blk b0 (.cells #[v0_, .slice A_a0_1 a0_1.length c_a0_1] T0_ (0, 0))] [H_a0_1] (fun e l1 => e = .returned (.int .i64 r) ∧ l1 = [blk b0 (.cells #[v0_, .slice A_a0_1 a0_1.length c_a0_1] T0_ (0, 0))]) := by
 refine ct_enter (args := [.pointer (some ⟨b0, 0, none⟩)]) Tryd.func27 rfl (Nat.le_of_ble_eq_true rfl) ?_
 intro A X hh_
 obtain ⟨hm_H_a0_1, _⟩ := hh_
 unfold strings_Builder_Len.f at h
 refine K.eq (env' := [(0, .pointer (some ⟨b0, 0, none⟩))]) (l' := blk b0 (.cells #[v0_, .slice A_a0_1 a0_1.length c_a0_1] T0_ (0, 0)) :: X) rfl rfl ?_
 refine k_seq ?_
 refine k_region ?_
 refine kl_steps 1 [(0, .pointer (some ⟨b0, 0, none⟩))] (by kernel_rfl) ?_
 refine k_nil ?_
 refine k_then ?_
 refine k_seq ?_
 refine k_region ?_
 refine kl_steps 3 [(5, .pointer (some ⟨b0, 1, none⟩))] (by kernel_rfl) ?_
 refine kl_load (v := .slice A_a0_1 a0_1.length c_a0_1) [.val (.slice A_a0_1 a0_1.length c_a0_1)] [.ld ⟨b0, 1, none⟩ (.slice A_a0_1 a0_1.length c_a0_1)] (by kernel_rfl) (by kernel_rfl) (by kernel_rfl) ⟨⟨0, _, _, _, rfl, rfl, rfl⟩, trivial⟩ ?_
 refine kl_steps 2 [(2, .int .i64 ((a0_1.length : Nat) : Int))] (by kernel_rfl) ?_
 refine k_nil ?_
 refine k_then ?_
 refine k_ret ?_
 obtain rfl := Option.some.inj h
 refine k_done (v := .int .i64 ((a0_1.length : Nat) : Int)) [] [] [blk b0 (.cells #[v0_, .slice A_a0_1 a0_1.length c_a0_1] T0_ (0, 0))] (by kernel_rfl) (by kernel_rfl) trivial ?_
 exact k_end ⟨rfl, rfl⟩
def strings_Builder_String.f (_k : Nat) (a0_1 : List Int) : Option (ByteArray) := cond (allByte a0_1) (some ((strOfNums a0_1))) none
set_option maxRecDepth 100000 in
theorem strings_Builder_String.ok {k : Nat} {a0_1 : List Int} {b0 : Nat} {T0_ : Nat} {v0_ : Value} {H_a0_1 : Frag} {A_a0_1 : Option Addr} {c_a0_1 : Nat} {r : ByteArray} (h : strings_Builder_String.f k a0_1 = some r) (BT_b0 : isBd T0_) (V_v0_ : SelfOr b0 v0_) (R_a0_1 : OwnT (encI .u8) 5 1 H_a0_1 (.slice A_a0_1 a0_1.length c_a0_1) a0_1) : Ct Tryd.prog 14 #[.pointer (some ⟨b0, 0, none⟩)] [blk b0 (.cells #[v0_, .slice A_a0_1 a0_1.length c_a0_1] T0_ (0, 0)), H_a0_1] [] (fun e l1 => e = .returned (.string r) ∧ l1 = [blk b0 (.cells #[v0_, .slice A_a0_1 a0_1.length c_a0_1] T0_ (0, 0))]) := by
 refine ct_enter (args := [.pointer (some ⟨b0, 0, none⟩)]) Tryd.func14 rfl (Nat.le_of_ble_eq_true rfl) ?_
 intro A X hh_
 unfold strings_Builder_String.f at h
 refine K.eq (env' := [(0, .pointer (some ⟨b0, 0, none⟩))]) (l' := blk b0 (.cells #[v0_, .slice A_a0_1 a0_1.length c_a0_1] T0_ (0, 0)) :: H_a0_1 :: X) rfl rfl ?_
 refine k_seq ?_
 refine k_region ?_
 refine kl_steps 1 [(0, .pointer (some ⟨b0, 0, none⟩))] (by kernel_rfl) ?_
 refine k_nil ?_
 refine k_then ?_
 refine k_seq ?_
 refine k_region_plan [(0, 0), (1, 0), (2, 0), (3, 3), (5, 0), (6, 0), (7, 0), (8, 3), (9, 0), (4, 1)] (fun w => OnAll [blk b0 (.cells #[v0_, .slice A_a0_1 a0_1.length c_a0_1] T0_ (0, 0))] w) (by kernel_rfl) (by kernel_rfl) (fun _ _ d _ _ h => by cases d <;> exact h) (fun w h_ => ⟨h_.sat.on _ (.head _), trivial⟩) ?_
 simp only [planOps, List.filterMap_cons, List.filterMap_nil, List.getElem?_toArray, List.getElem?_cons_zero, List.getElem?_cons_succ, Option.map_some, List.drop_succ_cons, List.drop_zero, List.length_cons, List.length_nil]
 refine kp_steps 3 [(0, .pointer (some ⟨b0, 0, none⟩)), (5, .pointer (some ⟨b0, 1, none⟩))] (by kernel_rfl) (by kernel_rfl) ?_
 refine kp_loadS (v := .slice A_a0_1 a0_1.length c_a0_1) [blk b0 (.cells #[v0_, .slice A_a0_1 a0_1.length c_a0_1] T0_ (0, 0))] [.val (.slice A_a0_1 a0_1.length c_a0_1)] [.ld ⟨b0, 1, none⟩ (.slice A_a0_1 a0_1.length c_a0_1)] (by kernel_rfl) (by kernel_rfl) (by kernel_rfl) (fun _ h => h) ⟨⟨0, _, _, _, rfl, rfl, rfl⟩, trivial⟩ ?_
 refine kp_steps 3 [(6, .slice A_a0_1 a0_1.length c_a0_1), (10, .pointer (some ⟨b0, 1, none⟩))] (by kernel_rfl) (by kernel_rfl) ?_
 refine kp_loadS (v := .slice A_a0_1 a0_1.length c_a0_1) [blk b0 (.cells #[v0_, .slice A_a0_1 a0_1.length c_a0_1] T0_ (0, 0))] [.val (.slice A_a0_1 a0_1.length c_a0_1)] [.ld ⟨b0, 1, none⟩ (.slice A_a0_1 a0_1.length c_a0_1)] (by kernel_rfl) (by kernel_rfl) (by kernel_rfl) (fun _ h => h) ⟨⟨0, _, _, _, rfl, rfl, rfl⟩, trivial⟩ ?_
 refine kp_steps 1 [(6, .slice A_a0_1 a0_1.length c_a0_1), (12, .int .i64 ((a0_1.length : Nat) : Int))] (by kernel_rfl) (by kernel_rfl) ?_
 refine kp_turn (by kernel_rfl) ?_
 refine op_sdata (U := 5) rfl (by kernel_rfl) (by kernel_rfl) (by kernel_rfl) R_a0_1 (.tail _ (.head _)) fun p1 d2 => ?_
 refine k_and (fun w h_ => ⟨h_.sat.on _ (.head _), trivial⟩) ?_
 refine kp_done ?_
 refine K.mv1 ?_
 obtain ⟨t3, h⟩ := condN h
 refine kl_ustr rfl (by kernel_rfl) (by kernel_rfl) (by kernel_rfl) (by kernel_rfl) (by kernel_rfl) (by kernel_rfl) R_a0_1 d2 t3 ?_
 refine kl_steps 1 [(2, .string (strOfNums a0_1))] (by kernel_rfl) ?_
 refine k_nil ?_
 refine k_then ?_
 refine k_ret ?_
 obtain rfl := Option.some.inj h
 refine k_done (v := .string (strOfNums a0_1)) [] [] [blk b0 (.cells #[v0_, .slice A_a0_1 a0_1.length c_a0_1] T0_ (0, 0))] (by kernel_rfl) (by kernel_rfl) trivial ?_
 exact k_end ⟨rfl, rfl⟩
def words_Format.f (k : Nat) (a0 : Int) : Option (ByteArray) := (strconv_Itoa.f k a0).bind fun r1 => some (r1)
set_option maxRecDepth 100000 in
theorem words_Format.ok {k : Nat} {a0 : Int} {G : Frag} {r : ByteArray} (h : words_Format.f k a0 = some r) (hG : GlT G) : Ct Tryd.prog 12 #[.int .i64 a0] [] [G] (fun e l1 => e = .returned (.string r) ∧ l1 = []) := by
 refine ct_enter (args := [.int .i64 a0]) Tryd.func12 rfl (Nat.le_of_ble_eq_true rfl) ?_
 intro A X hh_
 obtain ⟨hm_G, _⟩ := hh_
 unfold words_Format.f at h
 refine k_seq ?_
 refine k_region ?_
 refine kl_steps 1 [(0, .int .i64 a0)] (by kernel_rfl) ?_
 refine k_nil ?_
 refine k_then ?_
 refine k_seq ?_
 refine k_region ?_
 refine kl_steps 1 [(3, .int .i64 a0)] (by kernel_rfl) ?_
 obtain ⟨r1, hr1, h⟩ := bindSome h
 refine kl_callv (by kernel_rfl) (by kernel_rfl) (by kernel_rfl) (strconv_Itoa.ok hr1 hG) ⟨hm_G, trivial⟩ ?_
 refine kl_steps 1 [(2, .string r1)] (by kernel_rfl) ?_
 refine k_nil ?_
 refine k_then ?_
 refine k_ret ?_
 obtain rfl := Option.some.inj h
 refine k_done (v := .string r1) [] [] [] (by kernel_rfl) (by kernel_rfl) trivial ?_
 exact k_end ⟨rfl, rfl⟩
def e43 (x : Int × Int × Int) : List Value := [.int .i64 x.1, .int .i64 x.2.1, .int .i64 x.2.2]
theorem e43_ok : EncOk e43 3 := ⟨fun _ => rfl, fun _ => rfl⟩
theorem ety40 : ElemTy Tryd.prog 40 43 3 24 Tryd.t43 (.agg #[.int .i64 (0 : Int), .int .i64 (0 : Int), .int .i64 (0 : Int)]) := ⟨by kernel_rfl, by kernel_rfl, by kernel_rfl, by kernel_rfl, by kernel_rfl, by kernel_rfl, by decide⟩
def runes_List_1.f (_k : Nat) (a0_0 : Int) (a0_1 : Int) (a0_2 : Int) (a1_0 : List (Int × Int × Int)) : Option (Bool × List (Int × Int × Int)) := (apd 24 a1_0 [(a0_0, a0_1, a0_2)]).bind fun l3 => some (true, l3)
set_option maxRecDepth 100000 in
theorem runes_List_1.ok {k : Nat} {a0_0 : Int} {a0_1 : Int} {a0_2 : Int} {a1_0 : List (Int × Int × Int)} {b1_ : Nat} {H_a1_0 : Frag} {A_a1_0 : Option Addr} {c_a1_0 : Nat} {r : Bool × List (Int × Int × Int)} (h : runes_List_1.f k a0_0 a0_1 a0_2 a1_0 = some r) (R_a1_0 : OwnT e43 43 3 H_a1_0 (.slice A_a1_0 a1_0.length c_a1_0) a1_0) : Ct Tryd.prog 22 #[.agg #[.int .i64 a0_0, .int .i64 a0_1, .int .i64 a0_2], .pointer (some ⟨b1_, 0, none⟩)] [blk b1_ (.cells #[.slice A_a1_0 a1_0.length c_a1_0] 40 (0, 0)), H_a1_0] [] (fun e l1 => ∃ (H0_ : Frag) (A0_ : Option Addr) (c0_ : Nat), OwnT e43 43 3 H0_ (.slice A0_ r.2.length c0_) r.2 ∧ e = .returned (.bool r.1) ∧ l1 = [blk b1_ (.cells #[.slice A0_ r.2.length c0_] 40 (0, 0)), H0_]) := by
 refine ct_enter (args := [.agg #[.int .i64 a0_0, .int .i64 a0_1, .int .i64 a0_2], .pointer (some ⟨b1_, 0, none⟩)]) Tryd.func22 rfl (Nat.le_of_ble_eq_true rfl) ?_
 intro A X hh_
 unfold runes_List_1.f at h
 refine K.eq (env' := [(0, .agg #[.int .i64 a0_0, .int .i64 a0_1, .int .i64 a0_2]), (1, .pointer (some ⟨b1_, 0, none⟩))]) (l' := blk b1_ (.cells #[.slice A_a1_0 a1_0.length c_a1_0] 40 (0, 0)) :: H_a1_0 :: X) rfl rfl ?_
 refine k_seq ?_
 refine k_region ?_
 refine kl_new (.cells #[.int .i64 a0_0, .int .i64 a0_1, .int .i64 a0_2] 43 (0, 0)) (fun b => .pointer (some ⟨b, 0, none⟩)) (by kernel_rfl) (by kernel_rfl) (fun _ => by kernel_rfl) fun b1 => ?_
 refine kl_steps 1 [(1, .pointer (some ⟨b1_, 0, none⟩)), (2, .pointer (some ⟨b1, 0, none⟩))] (by kernel_rfl) ?_
 refine k_nil ?_
 refine k_then ?_
 refine k_seq ?_
 refine k_region ?_
 refine kl_load (v := .slice A_a1_0 a1_0.length c_a1_0) [.val (.slice A_a1_0 a1_0.length c_a1_0)] [.ld ⟨b1_, 0, none⟩ (.slice A_a1_0 a1_0.length c_a1_0)] (by kernel_rfl) (by kernel_rfl) (by kernel_rfl) ⟨⟨1, _, _, _, rfl, rfl, rfl⟩, trivial⟩ ?_
 refine kl_load (v := .agg #[.int .i64 a0_0, .int .i64 a0_1, .int .i64 a0_2]) [.val (.int .i64 a0_0), .val (.int .i64 a0_1), .val (.int .i64 a0_2)] [.ld ⟨b1, 0, none⟩ (.int .i64 a0_0), .ld ⟨b1, 1, none⟩ (.int .i64 a0_1), .ld ⟨b1, 2, none⟩ (.int .i64 a0_2)] (by kernel_rfl) (by kernel_rfl) (by kernel_rfl) ⟨⟨0, _, _, _, rfl, rfl, rfl⟩, ⟨0, _, _, _, rfl, rfl, rfl⟩, ⟨0, _, _, _, rfl, rfl, rfl⟩, trivial⟩ ?_
 refine K.drop ?_
 refine kl_new (.cells #[.int .i64 a0_0, .int .i64 a0_1, .int .i64 a0_2] 43 (0, 0)) (fun b => .slice (some ⟨b, 0, none⟩) 1 1) (by kernel_rfl) (by kernel_rfl) (fun _ => by kernel_rfl) fun b2 => ?_
 refine K.mv2 ?_
 obtain ⟨l3, hl3, h⟩ := bindSome h
 refine kl_apd (ys := [(a0_0, a0_1, a0_2)]) e43_ok rfl ety40 (by kernel_rfl) (by kernel_rfl) (by kernel_rfl) (by kernel_rfl) (by kernel_rfl) hl3 R_a1_0 (src_blk (n := 1) e43_ok [(a0_0, a0_1, a0_2)] (by kernel_rfl) rfl (by decide) 1 rfl) fun h4 A5 k6 o7 => ?_
 refine K.mv1 ?_
 refine K.drop ?_
 refine K.mv1 ?_
 refine kl_store (cs' := #[.slice A5 l3.length k6]) [.st ⟨b1_, 0, none⟩ (.slice A5 l3.length k6)] (by kernel_rfl) (by kernel_rfl) (by kernel_rfl) ⟨rfl, trivial⟩ (by kernel_rfl) ?_
 refine k_nil ?_
 refine k_then ?_
 refine k_seq ?_
 refine k_region ?_
 refine kl_steps 1 [(3, .bool true)] (by kernel_rfl) ?_
 refine k_nil ?_
 refine k_then ?_
 refine k_ret ?_
 obtain rfl := Option.some.inj h
 refine k_done (v := .bool true) [] [] [blk b1_ (.cells #[.slice A5 l3.length k6] 40 (0, 0)), h4] (by kernel_rfl) (by kernel_rfl) trivial ?_
 exact k_end ⟨h4, A5, k6, o7, rfl, rfl⟩
def runes_each.l0 : Nat → (a0 : ByteArray) → (J9 : Int → Int → (List (Int × Int × Int)) → Option (List (Int × Int × Int))) → (p17 : Nat) → (x18 : Int) → (x19 : Int) → (l20 : List (Int × Int × Int)) → Option (List (Int × Int × Int))
 | 0, _, _, _, _, _, _ => none
 | m25 + 1, a0, J9, p17, x18, x19, l20 => cond (decide (p17 < ByteArray.size a0)) (joinF (fun (x27 : Int) (l28 : List (Int × Int × Int)) => runes_each.l0 m25 a0 J9 (rNx a0 p17) ((p17 : Nat) : Int) (IntKind.i64.wrap (rAt a0 p17)) l28) (fun J33 => cond (decide (x18 ≥ (0 : Int))) ((runes_List_1.f m25 x18 (IntKind.i64.wrap (((p17 : Nat) : Int) - x18)) x19 l20).bind fun r35 => cond (!r35.1) (some (r35.2)) (J33 (IntKind.i64.wrap (((p17 : Nat) : Int) - x18)) r35.2)) (J33 (0 : Int) l20))) (J9 x18 x19 l20)
def runes_each.f (k : Nat) (a0 : ByteArray) (a200_0 : List (Int × Int × Int)) : Option (List (Int × Int × Int)) := joinF (fun (x2 : Int) (x3 : Int) (l4 : List (Int × Int × Int)) => cond (decide (x2 ≥ (0 : Int))) ((runes_List_1.f k x2 (IntKind.i64.wrap ((a0.size : Int) - x2)) x3 l4).bind fun r11 => some (r11.2)) (some (l4))) (fun J9 => runes_each.l0 k a0 J9 0 (-1 : Int) (0 : Int) a200_0)
set_option maxRecDepth 100000 in
theorem runes_each.ok {k : Nat} {a0 : ByteArray} {a200_0 : List (Int × Int × Int)} {b200_ : Nat} {H_a200_0 : Frag} {A_a200_0 : Option Addr} {c_a200_0 : Nat} {r : List (Int × Int × Int)} (h : runes_each.f k a0 a200_0 = some r) (R_a200_0 : OwnT e43 43 3 H_a200_0 (.slice A_a200_0 a200_0.length c_a200_0) a200_0) : Ct Tryd.prog 21 #[.string a0, .func (.func 22) #[] #[.pointer (some ⟨b200_, 0, none⟩)]] [blk b200_ (.cells #[.slice A_a200_0 a200_0.length c_a200_0] 40 (0, 0)), H_a200_0] [] (fun e l1 => ∃ (H0_ : Frag) (A0_ : Option Addr) (c0_ : Nat), OwnT e43 43 3 H0_ (.slice A0_ r.length c0_) r ∧ e = .returned (.tuple #[]) ∧ l1 = [blk b200_ (.cells #[.slice A0_ r.length c0_] 40 (0, 0)), H0_]) := by
 refine ct_enter (args := [.string a0, .func (.func 22) #[] #[.pointer (some ⟨b200_, 0, none⟩)]]) Tryd.func21 rfl (Nat.le_of_ble_eq_true rfl) ?_
 intro A X hh_
 unfold runes_each.f at h
 refine K.eq (env' := [(0, .string a0), (1, .func (.func 22) #[] #[.pointer (some ⟨b200_, 0, none⟩)])]) (l' := blk b200_ (.cells #[.slice A_a200_0 a200_0.length c_a200_0] 40 (0, 0)) :: H_a200_0 :: X) rfl rfl ?_
 refine k_seq ?_
 refine k_region ?_
 refine kl_steps 1 [(0, .string a0), (1, .func (.func 22) #[] #[.pointer (some ⟨b200_, 0, none⟩)]), (7, .agg #[.int .i64 (-1 : Int), .int .i64 (0 : Int), .int .i64 (0 : Int)])] (by kernel_rfl) ?_
 refine kl_new (.cells #[.int .i64 (0 : Int), .int .i64 (0 : Int), .int .i64 (0 : Int)] 43 (0, 0)) (fun b => .pointer (some ⟨b, 0, none⟩)) (by kernel_rfl) (by kernel_rfl) (fun _ => by kernel_rfl) fun b1 => ?_
 refine kl_store (cs' := #[.int .i64 (-1 : Int), .int .i64 (0 : Int), .int .i64 (0 : Int)]) [.st ⟨b1, 0, none⟩ (.int .i64 (-1 : Int)), .st ⟨b1, 1, none⟩ (.int .i64 (0 : Int)), .st ⟨b1, 2, none⟩ (.int .i64 (0 : Int))] (by kernel_rfl) (by kernel_rfl) (by kernel_rfl) ⟨rfl, rfl, rfl, trivial⟩ (by kernel_rfl) ?_
 refine k_nil ?_
 refine k_then ?_
 obtain ⟨J9, hJ9, h⟩ := joinSplit h
 refine k_cut (τ := Int × Int × (List (Int × Int × Int)) × Frag × (Option Addr) × Nat) (fun t => [(0, .string a0), (1, .func (.func 22) #[] #[.pointer (some ⟨b200_, 0, none⟩)]), (4, .pointer (some ⟨b1, 0, none⟩))]) (fun t => blk b1 (.cells #[.int .i64 t.1, .int .i64 (0 : Int), .int .i64 t.2.1] 43 (0, 0)) :: blk b200_ (.cells #[.slice t.2.2.2.2.1 t.2.2.1.length t.2.2.2.2.2] 40 (0, 0)) :: t.2.2.2.1 :: X) (fun t => J9 t.1 t.2.1 t.2.2.1 = some r ∧ OwnT e43 43 3 t.2.2.2.1 (.slice t.2.2.2.2.1 t.2.2.1.length t.2.2.2.2.2) t.2.2.1) ?_ ?_
 ·rintro ⟨x2, x3, l4, h5, A6, k7⟩ ⟨h, o8⟩
  subst hJ9
  refine k_seq ?_
  refine k_region ?_
  refine kl_steps 1 [(0, .string a0), (1, .func (.func 22) #[] #[.pointer (some ⟨b200_, 0, none⟩)]), (4, .pointer (some ⟨b1, 0, none⟩)), (30, .pointer (some ⟨b1, 0, none⟩))] (by kernel_rfl) ?_
  refine kl_load (v := .int .i64 x2) [.val (.int .i64 x2)] [.ld ⟨b1, 0, none⟩ (.int .i64 x2)] (by kernel_rfl) (by kernel_rfl) (by kernel_rfl) ⟨⟨0, _, _, _, rfl, rfl, rfl⟩, trivial⟩ ?_
  refine kl_steps 1 [(0, .string a0), (1, .func (.func 22) #[] #[.pointer (some ⟨b200_, 0, none⟩)]), (4, .pointer (some ⟨b1, 0, none⟩)), (32, .bool (decide (x2 ≥ (0 : Int))))] (by kernel_rfl) ?_
  refine k_nil ?_
  refine k_then ?_
  refine k_cond (t := decide (x2 ≥ (0 : Int))) (by kernel_rfl) (fun t10 => ?_) (fun t10 => ?_)
  ·have h := condT h t10
   refine k_seq ?_
   refine k_region ?_
   refine kl_steps 3 [(1, .func (.func 22) #[] #[.pointer (some ⟨b200_, 0, none⟩)]), (4, .pointer (some ⟨b1, 0, none⟩)), (34, .int .i64 (a0.size : Int)), (35, .pointer (some ⟨b1, 0, none⟩))] (by kernel_rfl) ?_
   refine kl_load (v := .int .i64 x2) [.val (.int .i64 x2)] [.ld ⟨b1, 0, none⟩ (.int .i64 x2)] (by kernel_rfl) (by kernel_rfl) (by kernel_rfl) ⟨⟨0, _, _, _, rfl, rfl, rfl⟩, trivial⟩ ?_
   refine kl_steps 2 [(1, .func (.func 22) #[] #[.pointer (some ⟨b200_, 0, none⟩)]), (4, .pointer (some ⟨b1, 0, none⟩)), (37, .int .i64 (IntKind.i64.wrap ((a0.size : Int) - x2))), (38, .pointer (some ⟨b1, 1, none⟩))] (by kernel_rfl) ?_
   refine kl_store (cs' := #[.int .i64 x2, .int .i64 (IntKind.i64.wrap ((a0.size : Int) - x2)), .int .i64 x3]) [.st ⟨b1, 1, none⟩ (.int .i64 (IntKind.i64.wrap ((a0.size : Int) - x2)))] (by kernel_rfl) (by kernel_rfl) (by kernel_rfl) ⟨rfl, trivial⟩ (by kernel_rfl) ?_
   refine k_nil ?_
   refine k_then ?_
   refine k_region ?_
   refine kl_steps 1 [(4, .pointer (some ⟨b1, 0, none⟩)), (39, .func (.func 22) #[] #[.pointer (some ⟨b200_, 0, none⟩)])] (by kernel_rfl) ?_
   refine kl_load (v := .agg #[.int .i64 x2, .int .i64 (IntKind.i64.wrap ((a0.size : Int) - x2)), .int .i64 x3]) [.val (.int .i64 x2), .val (.int .i64 (IntKind.i64.wrap ((a0.size : Int) - x2))), .val (.int .i64 x3)] [.ld ⟨b1, 0, none⟩ (.int .i64 x2), .ld ⟨b1, 1, none⟩ (.int .i64 (IntKind.i64.wrap ((a0.size : Int) - x2))), .ld ⟨b1, 2, none⟩ (.int .i64 x3)] (by kernel_rfl) (by kernel_rfl) (by kernel_rfl) ⟨⟨0, _, _, _, rfl, rfl, rfl⟩, ⟨0, _, _, _, rfl, rfl, rfl⟩, ⟨0, _, _, _, rfl, rfl, rfl⟩, trivial⟩ ?_
   refine K.drop ?_
   refine K.mv1 ?_
   refine K.mv1 ?_
   obtain ⟨r11, hr11, h⟩ := bindSome h
   refine kl_call (X) (by kernel_rfl) (by kernel_rfl) (by kernel_rfl) (runes_List_1.ok (b1_ := b200_) hr11 o8) rfl trivial ?_
   rintro _ _ ⟨h12, A13, k14, o15, rfl, rfl⟩
   refine nx_ret2 ?_
   refine k_nil ?_
   refine k_fall ?_
   obtain rfl := Option.some.inj h
   refine k_done (v := .tuple #[]) [] [] [blk b200_ (.cells #[.slice A13 r11.2.length k14] 40 (0, 0)), h12] (by kernel_rfl) (by kernel_rfl) trivial ?_
   exact k_end ⟨h12, A13, k14, o15, rfl, rfl⟩
  ·have h := condF h t10
   refine k_skip ?_
   refine k_fall ?_
   obtain rfl := Option.some.inj h
   refine k_done (v := .tuple #[]) [] [] [blk b200_ (.cells #[.slice A6 l4.length k7] 40 (0, 0)), h5] (by kernel_rfl) (by kernel_rfl) trivial ?_
   refine K.drop ?_
   exact k_end ⟨h5, A6, k7, o8, rfl, rfl⟩
 ·skip
  refine k_seq ?_
  refine k_region ?_
  refine kl_steps 1 [(0, .string a0), (1, .func (.func 22) #[] #[.pointer (some ⟨b200_, 0, none⟩)]), (4, .pointer (some ⟨b1, 0, none⟩)), (8, .string a0)] (by kernel_rfl) ?_
  refine kl_range (s := a0) rfl (by kernel_rfl) (by kernel_rfl) (by kernel_rfl) (by kernel_rfl) fun b16 => ?_
  refine k_nil ?_
  refine k_then ?_
  refine k_block ?_
  refine k_loop (τ := Nat × Int × Int × (List (Int × Int × Int)) × Frag × (Option Addr) × Nat) (fun t => [(0, .string a0), (1, .func (.func 22) #[] #[.pointer (some ⟨b200_, 0, none⟩)]), (4, .pointer (some ⟨b1, 0, none⟩)), (9, .pointer (some ⟨b16, 0, none⟩))]) (fun t => blk b16 (.stringIter a0 t.1) :: blk b1 (.cells #[.int .i64 t.2.1, .int .i64 (0 : Int), .int .i64 t.2.2.1] 43 (0, 0)) :: blk b200_ (.cells #[.slice t.2.2.2.2.2.1 t.2.2.2.1.length t.2.2.2.2.2.2] 40 (0, 0)) :: t.2.2.2.2.1 :: X) (fun m t => runes_each.l0 m a0 J9 t.1 t.2.1 t.2.2.1 t.2.2.2.1 = some r ∧ OwnT e43 43 3 t.2.2.2.2.1 (.slice t.2.2.2.2.2.1 t.2.2.2.1.length t.2.2.2.2.2.2) t.2.2.2.1) k (0, (-1 : Int), (0 : Int), a200_0, H_a200_0, A_a200_0, c_a200_0) ⟨h, R_a200_0⟩ ⟨rfl, rfl, rfl, rfl, trivial⟩ rfl ?_
  clear h
  rintro m25 ⟨p17, x18, x19, l20, h21, A22, k23⟩ ⟨h, o24⟩
  cases m25 with
  | zero => simp [runes_each.l0] at h
  | succ m25 =>
   simp only [runes_each.l0] at h
   refine k_seq ?_
   refine k_region ?_
   rcases Bool.eq_false_or_eq_true (decide (p17 < ByteArray.size a0)) with t26 | t26
   ·have h := condT h t26
    refine kl_nextT t26 rfl (by kernel_rfl) (by kernel_rfl) (by kernel_rfl) ?_
    refine kl_steps 1 [(0, .string a0), (1, .func (.func 22) #[] #[.pointer (some ⟨b200_, 0, none⟩)]), (4, .pointer (some ⟨b1, 0, none⟩)), (9, .pointer (some ⟨b16, 0, none⟩)), (10, .tuple #[.bool true, .int .i64 ((p17 : Nat) : Int), .int .i32 (rAt a0 p17)]), (11, .bool true)] (by kernel_rfl) ?_
    refine k_nil ?_
    refine k_then ?_
    refine k_seq ?_
    refine k_cond_true (by kernel_rfl) ?_
    refine k_skip ?_
    refine k_then ?_
    refine k_block ?_
    refine k_seq ?_
    refine k_region ?_
    refine kl_steps 4 [(0, .string a0), (1, .func (.func 22) #[] #[.pointer (some ⟨b200_, 0, none⟩)]), (4, .pointer (some ⟨b1, 0, none⟩)), (9, .pointer (some ⟨b16, 0, none⟩)), (5, .int .i64 ((p17 : Nat) : Int)), (6, .int .i32 (rAt a0 p17))] (by kernel_rfl) ?_
    refine k_nil ?_
    refine k_then ?_
    obtain ⟨J33, hJ33, h⟩ := joinSplit h
    refine k_cut (τ := Int × (List (Int × Int × Int)) × Frag × (Option Addr) × Nat) (fun t => [(0, .string a0), (1, .func (.func 22) #[] #[.pointer (some ⟨b200_, 0, none⟩)]), (4, .pointer (some ⟨b1, 0, none⟩)), (5, .int .i64 ((p17 : Nat) : Int)), (6, .int .i32 (rAt a0 p17)), (9, .pointer (some ⟨b16, 0, none⟩))]) (fun t => blk b16 (.stringIter a0 (rNx a0 p17)) :: blk b1 (.cells #[.int .i64 x18, .int .i64 t.1, .int .i64 x19] 43 (0, 0)) :: blk b200_ (.cells #[.slice t.2.2.2.1 t.2.1.length t.2.2.2.2] 40 (0, 0)) :: t.2.2.1 :: X) (fun t => J33 t.1 t.2.1 = some r ∧ OwnT e43 43 3 t.2.2.1 (.slice t.2.2.2.1 t.2.1.length t.2.2.2.2) t.2.1) ?_ ?_
    ·rintro ⟨x27, l28, h29, A30, k31⟩ ⟨h, o32⟩
     subst hJ33
     refine k_region ?_
     refine kl_steps 4 [(0, .string a0), (1, .func (.func 22) #[] #[.pointer (some ⟨b200_, 0, none⟩)]), (4, .pointer (some ⟨b1, 0, none⟩)), (9, .pointer (some ⟨b16, 0, none⟩)), (29, .agg #[.int .i64 ((p17 : Nat) : Int), .int .i64 (0 : Int), .int .i64 (IntKind.i64.wrap (rAt a0 p17))])] (by kernel_rfl) ?_
     refine K.mv1 ?_
     refine kl_store (cs' := #[.int .i64 ((p17 : Nat) : Int), .int .i64 (0 : Int), .int .i64 (IntKind.i64.wrap (rAt a0 p17))]) [.st ⟨b1, 0, none⟩ (.int .i64 ((p17 : Nat) : Int)), .st ⟨b1, 1, none⟩ (.int .i64 (0 : Int)), .st ⟨b1, 2, none⟩ (.int .i64 (IntKind.i64.wrap (rAt a0 p17)))] (by kernel_rfl) (by kernel_rfl) (by kernel_rfl) ⟨rfl, rfl, rfl, trivial⟩ (by kernel_rfl) ?_
     refine k_nil ?_
     refine k_blk ?_
     refine k_then ?_
     refine K.mv3 ?_
     refine K.mv3 ?_
     refine K.mv2 ?_
     refine K.mv3 ?_
     exact k_again m25 ((rNx a0 p17), ((p17 : Nat) : Int), IntKind.i64.wrap (rAt a0 p17), l28, h29, A30, k31) (Nat.lt_succ_self _) ⟨h, o32⟩ ⟨rfl, rfl, rfl, rfl, trivial⟩ rfl
    ·skip
     refine k_seq ?_
     refine k_region ?_
     refine kl_steps 1 [(0, .string a0), (1, .func (.func 22) #[] #[.pointer (some ⟨b200_, 0, none⟩)]), (4, .pointer (some ⟨b1, 0, none⟩)), (9, .pointer (some ⟨b16, 0, none⟩)), (5, .int .i64 ((p17 : Nat) : Int)), (6, .int .i32 (rAt a0 p17)), (14, .pointer (some ⟨b1, 0, none⟩))] (by kernel_rfl) ?_
     refine kl_load (v := .int .i64 x18) [.val (.int .i64 x18)] [.ld ⟨b1, 0, none⟩ (.int .i64 x18)] (by kernel_rfl) (by kernel_rfl) (by kernel_rfl) ⟨⟨1, _, _, _, rfl, rfl, rfl⟩, trivial⟩ ?_
     refine kl_steps 1 [(0, .string a0), (1, .func (.func 22) #[] #[.pointer (some ⟨b200_, 0, none⟩)]), (4, .pointer (some ⟨b1, 0, none⟩)), (9, .pointer (some ⟨b16, 0, none⟩)), (5, .int .i64 ((p17 : Nat) : Int)), (6, .int .i32 (rAt a0 p17)), (16, .bool (decide (x18 ≥ (0 : Int))))] (by kernel_rfl) ?_
     refine k_nil ?_
     refine k_then ?_
     refine k_cond (t := decide (x18 ≥ (0 : Int))) (by kernel_rfl) (fun t34 => ?_) (fun t34 => ?_)
     ·have h := condT h t34
      refine k_seq ?_
      refine k_region ?_
      refine kl_steps 2 [(0, .string a0), (1, .func (.func 22) #[] #[.pointer (some ⟨b200_, 0, none⟩)]), (4, .pointer (some ⟨b1, 0, none⟩)), (9, .pointer (some ⟨b16, 0, none⟩)), (5, .int .i64 ((p17 : Nat) : Int)), (6, .int .i32 (rAt a0 p17)), (17, .int .i64 ((p17 : Nat) : Int)), (18, .pointer (some ⟨b1, 0, none⟩))] (by kernel_rfl) ?_
      refine kl_load (v := .int .i64 x18) [.val (.int .i64 x18)] [.ld ⟨b1, 0, none⟩ (.int .i64 x18)] (by kernel_rfl) (by kernel_rfl) (by kernel_rfl) ⟨⟨1, _, _, _, rfl, rfl, rfl⟩, trivial⟩ ?_
      refine kl_steps 2 [(0, .string a0), (1, .func (.func 22) #[] #[.pointer (some ⟨b200_, 0, none⟩)]), (4, .pointer (some ⟨b1, 0, none⟩)), (9, .pointer (some ⟨b16, 0, none⟩)), (5, .int .i64 ((p17 : Nat) : Int)), (6, .int .i32 (rAt a0 p17)), (20, .int .i64 (IntKind.i64.wrap (((p17 : Nat) : Int) - x18))), (21, .pointer (some ⟨b1, 1, none⟩))] (by kernel_rfl) ?_
      refine K.mv1 ?_
      refine kl_store (cs' := #[.int .i64 x18, .int .i64 (IntKind.i64.wrap (((p17 : Nat) : Int) - x18)), .int .i64 x19]) [.st ⟨b1, 1, none⟩ (.int .i64 (IntKind.i64.wrap (((p17 : Nat) : Int) - x18)))] (by kernel_rfl) (by kernel_rfl) (by kernel_rfl) ⟨rfl, trivial⟩ (by kernel_rfl) ?_
      refine k_nil ?_
      refine k_then ?_
      refine k_seq ?_
      refine k_region ?_
      refine kl_steps 1 [(0, .string a0), (1, .func (.func 22) #[] #[.pointer (some ⟨b200_, 0, none⟩)]), (4, .pointer (some ⟨b1, 0, none⟩)), (9, .pointer (some ⟨b16, 0, none⟩)), (5, .int .i64 ((p17 : Nat) : Int)), (6, .int .i32 (rAt a0 p17)), (22, .func (.func 22) #[] #[.pointer (some ⟨b200_, 0, none⟩)])] (by kernel_rfl) ?_
      refine kl_load (v := .agg #[.int .i64 x18, .int .i64 (IntKind.i64.wrap (((p17 : Nat) : Int) - x18)), .int .i64 x19]) [.val (.int .i64 x18), .val (.int .i64 (IntKind.i64.wrap (((p17 : Nat) : Int) - x18))), .val (.int .i64 x19)] [.ld ⟨b1, 0, none⟩ (.int .i64 x18), .ld ⟨b1, 1, none⟩ (.int .i64 (IntKind.i64.wrap (((p17 : Nat) : Int) - x18))), .ld ⟨b1, 2, none⟩ (.int .i64 x19)] (by kernel_rfl) (by kernel_rfl) (by kernel_rfl) ⟨⟨0, _, _, _, rfl, rfl, rfl⟩, ⟨0, _, _, _, rfl, rfl, rfl⟩, ⟨0, _, _, _, rfl, rfl, rfl⟩, trivial⟩ ?_
      refine K.mv3 ?_
      refine K.mv3 ?_
      obtain ⟨r35, hr35, h⟩ := bindSome h
      refine kl_call (blk b1 (.cells #[.int .i64 x18, .int .i64 (IntKind.i64.wrap (((p17 : Nat) : Int) - x18)), .int .i64 x19] 43 (0, 0)) :: blk b16 (.stringIter a0 (rNx a0 p17)) :: X) (by kernel_rfl) (by kernel_rfl) (by kernel_rfl) (runes_List_1.ok (b1_ := b200_) hr35 o24) rfl trivial ?_
      rintro _ _ ⟨h36, A37, k38, o39, rfl, rfl⟩
      refine nx_ret2 ?_
      refine kl_steps 1 [(0, .string a0), (1, .func (.func 22) #[] #[.pointer (some ⟨b200_, 0, none⟩)]), (4, .pointer (some ⟨b1, 0, none⟩)), (9, .pointer (some ⟨b16, 0, none⟩)), (5, .int .i64 ((p17 : Nat) : Int)), (6, .int .i32 (rAt a0 p17)), (25, .bool (!r35.1))] (by kernel_rfl) ?_
      refine k_nil ?_
      refine k_then ?_
      refine k_cond (t := !r35.1) (by kernel_rfl) (fun t40 => ?_) (fun t40 => ?_)
      ·have h := condT h t40
       refine k_ret ?_
       refine k_then_ret ?_
       refine k_blk_ret ?_
       refine k_then_ret ?_
       refine k_blk_ret ?_
       refine k_then_ret ?_
       obtain rfl := Option.some.inj h
       refine k_done (v := .tuple #[]) [] [] [blk b200_ (.cells #[.slice A37 r35.2.length k38] 40 (0, 0)), h36] (by kernel_rfl) (by kernel_rfl) trivial ?_
       refine K.mv2 ?_
       refine K.drop ?_
       refine K.mv2 ?_
       refine K.drop ?_
       exact k_end ⟨h36, A37, k38, o39, rfl, rfl⟩
      ·have h := condF h t40
       refine k_skip ?_
       refine k_then ?_
       refine K.mv1 ?_
       refine K.mv1 ?_
       refine K.mv2 ?_
       refine K.mv3 ?_
       exact k_meet (IntKind.i64.wrap (((p17 : Nat) : Int) - x18), r35.2, h36, A37, k38) ⟨h, o39⟩ ⟨rfl, rfl, rfl, rfl, rfl, rfl, trivial⟩ rfl
     ·have h := condF h t34
      refine k_skip ?_
      refine k_then ?_
      exact k_meet ((0 : Int), l20, h21, A22, k23) ⟨h, o24⟩ ⟨rfl, rfl, rfl, rfl, rfl, rfl, trivial⟩ rfl
   ·have h := condF h t26
    refine kl_nextF t26 rfl (by kernel_rfl) (by kernel_rfl) (by kernel_rfl) ?_
    refine kl_steps 1 [(0, .string a0), (1, .func (.func 22) #[] #[.pointer (some ⟨b200_, 0, none⟩)]), (4, .pointer (some ⟨b1, 0, none⟩)), (9, .pointer (some ⟨b16, 0, none⟩)), (10, .tuple #[.bool false]), (11, .bool false)] (by kernel_rfl) ?_
    refine k_nil ?_
    refine k_then ?_
    refine k_seq ?_
    refine k_cond_false (by kernel_rfl) ?_
    refine k_exit ?_
    refine k_then_exit ?_
    refine k_then_exit ?_
    refine k_here ?_
    refine k_then ?_
    refine K.drop ?_
    exact k_meet (x18, x19, l20, h21, A22, k23) ⟨h, o24⟩ ⟨rfl, rfl, rfl, trivial⟩ rfl
def runes_List.f (k : Nat) (a0 : ByteArray) : Option (List (Int × Int × Int)) := (runes_each.f k a0 ([])).bind fun r2 => some (r2)
set_option maxRecDepth 100000 in
theorem runes_List.ok {k : Nat} {a0 : ByteArray} {r : List (Int × Int × Int)} (h : runes_List.f k a0 = some r) : Ct Tryd.prog 10 #[.string a0] [] [] (fun e l1 => ∃ (H0_ : Frag) (A0_ : Option Addr) (c0_ : Nat), OwnT e43 43 3 H0_ (.slice A0_ r.length c0_) r ∧ e = .returned (.slice A0_ r.length c0_) ∧ l1 = [H0_]) := by
 refine ct_enter (args := [.string a0]) Tryd.func10 rfl (Nat.le_of_ble_eq_true rfl) ?_
 intro A X hh_
 unfold runes_List.f at h
 refine k_seq ?_
 refine k_region ?_
 refine kl_steps 1 [(0, .string a0)] (by kernel_rfl) ?_
 refine k_nil ?_
 refine k_then ?_
 refine k_seq ?_
 refine k_region ?_
 refine kl_new (.cells #[.slice none 0 0] 40 (0, 0)) (fun b => .pointer (some ⟨b, 0, none⟩)) (by kernel_rfl) (by kernel_rfl) (fun _ => by kernel_rfl) fun b1 => ?_
 refine k_nil ?_
 refine k_then ?_
 refine k_seq ?_
 refine k_region ?_
 refine kl_steps 2 [(3, .pointer (some ⟨b1, 0, none⟩)), (4, .string a0), (5, .func (.func 22) #[] #[.pointer (some ⟨b1, 0, none⟩)])] (by kernel_rfl) ?_
 refine k_none ?_
 refine K.mv1 ?_
 obtain ⟨r2, hr2, h⟩ := bindSome h
 refine kl_call (X) (by kernel_rfl) (by kernel_rfl) (by kernel_rfl) (runes_each.ok (b200_ := b1) hr2 (OwnT.nil e43 43 3 none_)) rfl trivial ?_
 rintro _ _ ⟨h3, A4, k5, o6, rfl, rfl⟩
 refine nx_ret2 ?_
 refine k_nil ?_
 refine k_then ?_
 refine k_seq ?_
 refine k_region ?_
 refine kl_load (v := .slice A4 r2.length k5) [.val (.slice A4 r2.length k5)] [.ld ⟨b1, 0, none⟩ (.slice A4 r2.length k5)] (by kernel_rfl) (by kernel_rfl) (by kernel_rfl) ⟨⟨0, _, _, _, rfl, rfl, rfl⟩, trivial⟩ ?_
 refine K.drop ?_
 refine kl_steps 1 [(2, .slice A4 r2.length k5)] (by kernel_rfl) ?_
 refine k_nil ?_
 refine k_then ?_
 refine k_ret ?_
 obtain rfl := Option.some.inj h
 refine k_done (v := .slice A4 r2.length k5) [] [] [h3] (by kernel_rfl) (by kernel_rfl) trivial ?_
 exact k_end ⟨h3, A4, k5, o6, rfl, rfl⟩
def lex_Quote.l0 : Nat → (a0 : ByteArray) → (J16 : (List Int) → Option (ByteArray)) → (r25 : List (Int × Int × Int)) → (x30 : Int) → (l33 : List Int) → Option (ByteArray)
 | 0, _, _, _, _, _ => none
 | m38 + 1, a0, J16, r25, x30, l33 => cond (decide (x30 < ((r25.length : Nat) : Int))) (joinF (fun (l42 : List Int) => lex_Quote.l0 m38 a0 J16 r25 (IntKind.i64.wrap (x30 + (1 : Int))) l42) (fun J47 => (lIdx r25 x30).bind fun x48 => (sIdx a0 x48.1).bind fun c53 : UInt8 => (cond ((c53.toNat : Int) == (92 : Int)) (some true) (some ((c53.toNat : Int) == (34 : Int))) : Option Bool).bind fun q54 => cond q54 ((strings_Builder_WriteByte.f m38 l33 (92 : Int)).bind fun r56 => (strings_Builder_WriteByte.f m38 r56 (c53.toNat : Int)).bind fun r63 => J47 r63) (cond ((c53.toNat : Int) == (10 : Int)) ((strings_Builder_WriteString.f m38 l33 (⟨#[92, 110]⟩ : ByteArray)).bind fun r71 => J47 r71.2) (cond ((c53.toNat : Int) == (13 : Int)) ((strings_Builder_WriteString.f m38 l33 (⟨#[92, 114]⟩ : ByteArray)).bind fun r79 => J47 r79.2) ((cond (decide ((c53.toNat : Int) < (32 : Int))) (some true) (some ((c53.toNat : Int) == (127 : Int))) : Option Bool).bind fun q86 => cond q86 ((words_Format.f m38 (IntKind.i64.wrap (c53.toNat : Int))).bind fun r88 => (strings_Repeat.f m38 (⟨#[48]⟩ : ByteArray) (IntKind.i64.wrap ((3 : Int) - (r88.size : Int)))).bind fun r89 => (sCat (⟨#[92]⟩ : ByteArray) r89).bind fun s90 : ByteArray => (sCat s90 r88).bind fun s91 : ByteArray => (strings_Builder_WriteString.f m38 l33 s91).bind fun r92 => J47 r92.2) ((cond (x48.2.2 == (65533 : Int)) (some (x48.2.1 == (1 : Int))) (some false) : Option Bool).bind fun q99 => cond q99 ((sIdx (⟨#[48, 49, 50, 51, 52, 53, 54, 55, 56, 57, 97, 98, 99, 100, 101, 102]⟩ : ByteArray) (Int.fdiv (c53.toNat : Int) 16)).bind fun c101 : UInt8 => (sCat (⟨#[92, 120]⟩ : ByteArray) (Utf8.encode (c101.toNat : Int))).bind fun s102 : ByteArray => (sIdx (⟨#[48, 49, 50, 51, 52, 53, 54, 55, 56, 57, 97, 98, 99, 100, 101, 102]⟩ : ByteArray) (IntKind.u8.wrap ((BitVec.ofInt 8 (c53.toNat : Int) &&& BitVec.ofInt 8 (15 : Int)).toNat : Int))).bind fun c103 : UInt8 => (sCat s102 (Utf8.encode (c103.toNat : Int))).bind fun s104 : ByteArray => (strings_Builder_WriteString.f m38 l33 s104).bind fun r105 => J47 r105.2) ((sSub a0 x48.1 (IntKind.i64.wrap (x48.1 + x48.2.1))).bind fun s112 : ByteArray => (strings_Builder_WriteString.f m38 l33 s112).bind fun r113 => J47 r113.2))))))) (J16 l33)
def lex_Quote.f (k : Nat) (a0 : ByteArray) : Option (ByteArray) := (strings_Builder_WriteByte.f k ([]) (34 : Int)).bind fun r2 => joinF (fun (l11 : List Int) => (strings_Builder_WriteByte.f k l11 (34 : Int)).bind fun r17 => (strings_Builder_String.f k r17).bind fun r24 => some (r24)) (fun J16 => (runes_List.f k a0).bind fun r25 => lex_Quote.l0 k a0 J16 r25 (0 : Int) r2)
set_option maxRecDepth 100000 in
theorem lex_Quote.ok {k : Nat} {a0 : ByteArray} {G : Frag} {r : ByteArray} (h : lex_Quote.f k a0 = some r) (hG : GlT G) : Ct Tryd.prog 5 #[.string a0] [] [G] (fun e l1 => e = .returned (.string r) ∧ l1 = []) := by
 refine ct_enter (args := [.string a0]) Tryd.func5 rfl (Nat.le_of_ble_eq_true rfl) ?_
 intro A X hh_
 obtain ⟨hm_G, _⟩ := hh_
 unfold lex_Quote.f at h
 refine k_seq ?_
 refine k_region ?_
 refine kl_steps 1 [(0, .string a0)] (by kernel_rfl) ?_
 refine k_nil ?_
 refine k_then ?_
 refine k_seq ?_
 refine k_region ?_
 refine kl_new (.cells #[.pointer none, .slice none 0 0] 36 (0, 0)) (fun b => .pointer (some ⟨b, 0, none⟩)) (by kernel_rfl) (by kernel_rfl) (fun _ => by kernel_rfl) fun b1 => ?_
 refine k_nil ?_
 refine k_then ?_
 refine k_seq ?_
 refine k_region ?_
 refine k_none ?_
 refine K.mv1 ?_
 obtain ⟨r2, hr2, h⟩ := bindSome h
 refine kl_call (X) (by kernel_rfl) (by kernel_rfl) (by kernel_rfl) (strings_Builder_WriteByte.ok (b0 := b1) hr2 bd36 (.inl rfl) (OwnT.nil (encI .u8) 5 1 none_)) rfl trivial ?_
 rintro _ _ ⟨v3, h5, A6, k7, V4, o8, rfl, rfl⟩
 refine nx_ret2 ?_
 refine k_nil ?_
 refine k_then ?_
 obtain ⟨J16, hJ16, h⟩ := joinSplit h
 refine k_cut (τ := (List Int) × Value × Frag × (Option Addr) × Nat) (fun t => [(3, .pointer (some ⟨b1, 0, none⟩))]) (fun t => blk b1 (.cells #[t.2.1, .slice t.2.2.2.1 t.1.length t.2.2.2.2] 36 (0, 0)) :: t.2.2.1 :: X) (fun t => J16 t.1 = some r ∧ SelfOr b1 t.2.1 ∧ OwnT (encI .u8) 5 1 t.2.2.1 (.slice t.2.2.2.1 t.1.length t.2.2.2.2) t.1) ?_ ?_
 ·rintro ⟨l11, v9, h12, A13, k14⟩ ⟨h, V10, o15⟩
  subst hJ16
  refine k_seq ?_
  refine k_region ?_
  refine K.mv1 ?_
  refine K.mv1 ?_
  obtain ⟨r17, hr17, h⟩ := bindSome h
  refine kl_call (X) (by kernel_rfl) (by kernel_rfl) (by kernel_rfl) (strings_Builder_WriteByte.ok (b0 := b1) hr17 bd36 V10 o15) rfl trivial ?_
  rintro _ _ ⟨v18, h20, A21, k22, V19, o23, rfl, rfl⟩
  refine nx_ret2 ?_
  refine k_nil ?_
  refine k_then ?_
  refine k_seq ?_
  refine k_region ?_
  refine K.mv1 ?_
  refine K.mv1 ?_
  obtain ⟨r24, hr24, h⟩ := bindSome h
  refine kl_call (X) (by kernel_rfl) (by kernel_rfl) (by kernel_rfl) (strings_Builder_String.ok (b0 := b1) hr24 bd36 V19 o23) rfl trivial ?_
  rintro _ _ ⟨rfl, rfl⟩
  refine nx_ret1 ?_
  refine K.drop ?_
  refine kl_steps 1 [(2, .string r24)] (by kernel_rfl) ?_
  refine k_nil ?_
  refine k_then ?_
  refine k_ret ?_
  obtain rfl := Option.some.inj h
  refine k_done (v := .string r24) [] [] [] (by kernel_rfl) (by kernel_rfl) trivial ?_
  exact k_end ⟨rfl, rfl⟩
 ·skip
  refine k_seq ?_
  refine k_region ?_
  refine kl_steps 1 [(0, .string a0), (3, .pointer (some ⟨b1, 0, none⟩)), (9, .string a0)] (by kernel_rfl) ?_
  obtain ⟨r25, hr25, h⟩ := bindSome h
  refine kl_call (blk b1 (.cells #[v3, .slice A6 r2.length k7] 36 (0, 0)) :: h5 :: X) (by kernel_rfl) (by kernel_rfl) (by kernel_rfl) (runes_List.ok hr25) rfl trivial ?_
  rintro _ _ ⟨h26, A27, k28, o29, rfl, rfl⟩
  refine nx_ret1 ?_
  refine kl_steps 2 [(0, .string a0), (3, .pointer (some ⟨b1, 0, none⟩)), (10, .slice A27 r25.length k28), (11, .int .i64 ((r25.length : Nat) : Int)), (12, .int .i64 (0 : Int))] (by kernel_rfl) ?_
  refine k_nil ?_
  refine k_then ?_
  refine k_block ?_
  refine k_loop (τ := Int × (List Int) × Value × Frag × (Option Addr) × Nat) (fun t => [(0, .string a0), (3, .pointer (some ⟨b1, 0, none⟩)), (10, .slice A27 r25.length k28), (11, .int .i64 ((r25.length : Nat) : Int)), (12, .int .i64 t.1)]) (fun t => h26 :: blk b1 (.cells #[t.2.2.1, .slice t.2.2.2.2.1 t.2.1.length t.2.2.2.2.2] 36 (0, 0)) :: t.2.2.2.1 :: X) (fun m t => lex_Quote.l0 m a0 J16 r25 t.1 t.2.1 = some r ∧ SelfOr b1 t.2.2.1 ∧ OwnT (encI .u8) 5 1 t.2.2.2.1 (.slice t.2.2.2.2.1 t.2.1.length t.2.2.2.2.2) t.2.1) k ((0 : Int), r2, v3, h5, A6, k7) ⟨h, V4, o8⟩ ⟨rfl, rfl, rfl, rfl, rfl, trivial⟩ rfl ?_
  clear h
  rintro m38 ⟨x30, l33, v31, h34, A35, k36⟩ ⟨h, V32, o37⟩
  cases m38 with
  | zero => simp [lex_Quote.l0] at h
  | succ m38 =>
   simp only [lex_Quote.l0] at h
   refine k_seq ?_
   refine k_region ?_
   refine kl_steps 1 [(0, .string a0), (3, .pointer (some ⟨b1, 0, none⟩)), (10, .slice A27 r25.length k28), (11, .int .i64 ((r25.length : Nat) : Int)), (12, .int .i64 x30), (13, .bool (decide (x30 < ((r25.length : Nat) : Int))))] (by kernel_rfl) ?_
   refine k_nil ?_
   refine k_then ?_
   refine k_seq ?_
   refine k_cond (t := decide (x30 < ((r25.length : Nat) : Int))) (by kernel_rfl) (fun t39 => ?_) (fun t39 => ?_)
   ·have h := condT h t39
    refine k_skip ?_
    refine k_then ?_
    obtain ⟨J47, hJ47, h⟩ := joinSplit h
    refine k_cut (τ := (List Int) × Value × Frag × (Option Addr) × Nat) (fun t => [(0, .string a0), (3, .pointer (some ⟨b1, 0, none⟩)), (10, .slice A27 r25.length k28), (11, .int .i64 ((r25.length : Nat) : Int)), (12, .int .i64 x30)]) (fun t => h26 :: blk b1 (.cells #[t.2.1, .slice t.2.2.2.1 t.1.length t.2.2.2.2] 36 (0, 0)) :: t.2.2.1 :: X) (fun t => J47 t.1 = some r ∧ SelfOr b1 t.2.1 ∧ OwnT (encI .u8) 5 1 t.2.2.1 (.slice t.2.2.2.1 t.1.length t.2.2.2.2) t.1) ?_ ?_
    ·rintro ⟨l42, v40, h43, A44, k45⟩ ⟨h, V41, o46⟩
     subst hJ47
     refine k_region ?_
     refine kl_steps 2 [(0, .string a0), (3, .pointer (some ⟨b1, 0, none⟩)), (10, .slice A27 r25.length k28), (11, .int .i64 ((r25.length : Nat) : Int)), (12, .int .i64 (IntKind.i64.wrap (x30 + (1 : Int))))] (by kernel_rfl) ?_
     refine k_nil ?_
     refine k_then ?_
     exact k_again m38 (IntKind.i64.wrap (x30 + (1 : Int)), l42, v40, h43, A44, k45) (Nat.lt_succ_self _) ⟨h, V41, o46⟩ ⟨rfl, rfl, rfl, rfl, rfl, trivial⟩ rfl
    ·skip
     refine k_block ?_
     refine k_seq ?_
     refine k_region ?_
     obtain ⟨x48, hx48, h⟩ := bindSome h
     refine kl_elemP (T := 43) (kd := .i64) e43_ok rfl (by kernel_rfl) (by kernel_rfl) (by kernel_rfl) (by kernel_rfl) (by kernel_rfl) (by kernel_rfl) hx48 (OwnT.rd o29) fun p49 e50 y51 => ?_
     have e50 : Elem _ p49 [.int .i64 x48.1, .int .i64 x48.2.1, .int .i64 x48.2.2] := e50
     refine kl_eloadN rfl (by kernel_rfl) (by kernel_rfl) (by kernel_rfl) (by kernel_rfl) (by kernel_rfl) e50 (.head _) ?_
     refine kl_new (.cells #[.int .i64 (0 : Int), .int .i64 (0 : Int), .int .i64 (0 : Int)] 43 (0, 0)) (fun b => .pointer (some ⟨b, 0, none⟩)) (by kernel_rfl) (by kernel_rfl) (fun _ => by kernel_rfl) fun b52 => ?_
     refine kl_store (cs' := #[.int .i64 x48.1, .int .i64 x48.2.1, .int .i64 x48.2.2]) [.st ⟨b52, 0, none⟩ (.int .i64 x48.1), .st ⟨b52, 1, none⟩ (.int .i64 x48.2.1), .st ⟨b52, 2, none⟩ (.int .i64 x48.2.2)] (by kernel_rfl) (by kernel_rfl) (by kernel_rfl) ⟨rfl, rfl, rfl, trivial⟩ (by kernel_rfl) ?_
     refine k_nil ?_
     refine k_then ?_
     refine k_seq ?_
     refine k_region ?_
     refine kl_steps 2 [(0, .string a0), (3, .pointer (some ⟨b1, 0, none⟩)), (10, .slice A27 r25.length k28), (11, .int .i64 ((r25.length : Nat) : Int)), (12, .int .i64 x30), (5, .pointer (some ⟨b52, 0, none⟩)), (16, .string a0), (17, .pointer (some ⟨b52, 0, none⟩))] (by kernel_rfl) ?_
     refine kl_load (v := .int .i64 x48.1) [.val (.int .i64 x48.1)] [.ld ⟨b52, 0, none⟩ (.int .i64 x48.1)] (by kernel_rfl) (by kernel_rfl) (by kernel_rfl) ⟨⟨0, _, _, _, rfl, rfl, rfl⟩, trivial⟩ ?_
     obtain ⟨c53, hc53, h⟩ := bindSome h
     refine kl_index (kd := .i64) rfl (by kernel_rfl) (by kernel_rfl) (by kernel_rfl) (by kernel_rfl) (by kernel_rfl) hc53 ?_
     refine kl_steps 1 [(0, .string a0), (3, .pointer (some ⟨b1, 0, none⟩)), (10, .slice A27 r25.length k28), (11, .int .i64 ((r25.length : Nat) : Int)), (12, .int .i64 x30), (5, .pointer (some ⟨b52, 0, none⟩)), (6, .int .u8 (c53.toNat : Int))] (by kernel_rfl) ?_
     refine k_nil ?_
     refine k_then ?_
     refine k_block ?_
     obtain ⟨q54, hq54, h⟩ := bindSome h
     refine k_cut1 [(0, .string a0), (3, .pointer (some ⟨b1, 0, none⟩)), (10, .slice A27 r25.length k28), (11, .int .i64 ((r25.length : Nat) : Int)), (12, .int .i64 x30), (5, .pointer (some ⟨b52, 0, none⟩)), (6, .int .u8 (c53.toNat : Int)), (30, .bool q54)] (blk b52 (.cells #[.int .i64 x48.1, .int .i64 x48.2.1, .int .i64 x48.2.2] 43 (0, 0)) :: h26 :: blk b1 (.cells #[v31, .slice A35 l33.length k36] 36 (0, 0)) :: h34 :: X) ?_ ?_
     ·clear hq54
      refine k_cond (t := q54) (by kernel_rfl) (fun t55 => ?_) (fun t55 => ?_)
      ·have h := condT h t55
       refine k_seq ?_
       refine k_region ?_
       refine K.mv3 ?_
       refine K.mv3 ?_
       obtain ⟨r56, hr56, h⟩ := bindSome h
       refine kl_call (blk b52 (.cells #[.int .i64 x48.1, .int .i64 x48.2.1, .int .i64 x48.2.2] 43 (0, 0)) :: h26 :: X) (by kernel_rfl) (by kernel_rfl) (by kernel_rfl) (strings_Builder_WriteByte.ok (b0 := b1) hr56 bd36 V32 o37) rfl trivial ?_
       rintro _ _ ⟨v57, h59, A60, k61, V58, o62, rfl, rfl⟩
       refine nx_ret2 ?_
       refine K.mv2 ?_
       refine K.drop ?_
       refine k_nil ?_
       refine k_then ?_
       refine k_region ?_
       refine kl_steps 1 [(0, .string a0), (3, .pointer (some ⟨b1, 0, none⟩)), (10, .slice A27 r25.length k28), (11, .int .i64 ((r25.length : Nat) : Int)), (12, .int .i64 x30), (38, .int .u8 (c53.toNat : Int))] (by kernel_rfl) ?_
       refine K.mv1 ?_
       refine K.mv1 ?_
       obtain ⟨r63, hr63, h⟩ := bindSome h
       refine kl_call (h26 :: X) (by kernel_rfl) (by kernel_rfl) (by kernel_rfl) (strings_Builder_WriteByte.ok (b0 := b1) hr63 bd36 V58 o62) rfl trivial ?_
       rintro _ _ ⟨v64, h66, A67, k68, V65, o69, rfl, rfl⟩
       refine nx_ret2 ?_
       refine k_nil ?_
       refine k_blk ?_
       refine k_blk ?_
       refine k_then ?_
       refine K.mv1 ?_
       refine K.mv1 ?_
       refine K.mv2 ?_
       exact k_meet (r63, v64, h66, A67, k68) ⟨h, V65, o69⟩ ⟨rfl, rfl, rfl, rfl, rfl, trivial⟩ rfl
      ·have h := condF h t55
       refine k_seq ?_
       refine k_region ?_
       refine kl_steps 3 [(0, .string a0), (3, .pointer (some ⟨b1, 0, none⟩)), (10, .slice A27 r25.length k28), (11, .int .i64 ((r25.length : Nat) : Int)), (12, .int .i64 x30), (5, .pointer (some ⟨b52, 0, none⟩)), (6, .int .u8 (c53.toNat : Int)), (40, .bool ((c53.toNat : Int) == (10 : Int)))] (by kernel_rfl) ?_
       refine k_nil ?_
       refine k_then ?_
       refine k_cond (t := ((c53.toNat : Int) == (10 : Int))) (by kernel_rfl) (fun t70 => ?_) (fun t70 => ?_)
       ·have h := condT h t70
        refine k_region ?_
        refine K.mv3 ?_
        refine K.mv3 ?_
        obtain ⟨r71, hr71, h⟩ := bindSome h
        refine kl_call (blk b52 (.cells #[.int .i64 x48.1, .int .i64 x48.2.1, .int .i64 x48.2.2] 43 (0, 0)) :: h26 :: X) (by kernel_rfl) (by kernel_rfl) (by kernel_rfl) (strings_Builder_WriteString.ok (b0 := b1) hr71 bd36 V32 o37) rfl trivial ?_
        rintro _ _ ⟨v72, h74, A75, k76, V73, o77, rfl, rfl⟩
        refine nx_ret2 ?_
        refine K.mv2 ?_
        refine K.drop ?_
        refine k_nil ?_
        refine k_blk ?_
        refine k_blk ?_
        refine k_then ?_
        refine K.mv1 ?_
        refine K.mv1 ?_
        refine K.mv2 ?_
        exact k_meet (r71.2, v72, h74, A75, k76) ⟨h, V73, o77⟩ ⟨rfl, rfl, rfl, rfl, rfl, trivial⟩ rfl
       ·have h := condF h t70
        refine k_seq ?_
        refine k_region ?_
        refine kl_steps 3 [(0, .string a0), (3, .pointer (some ⟨b1, 0, none⟩)), (10, .slice A27 r25.length k28), (11, .int .i64 ((r25.length : Nat) : Int)), (12, .int .i64 x30), (5, .pointer (some ⟨b52, 0, none⟩)), (6, .int .u8 (c53.toNat : Int)), (44, .bool ((c53.toNat : Int) == (13 : Int)))] (by kernel_rfl) ?_
        refine k_nil ?_
        refine k_then ?_
        refine k_cond (t := ((c53.toNat : Int) == (13 : Int))) (by kernel_rfl) (fun t78 => ?_) (fun t78 => ?_)
        ·have h := condT h t78
         refine k_region ?_
         refine K.mv3 ?_
         refine K.mv3 ?_
         obtain ⟨r79, hr79, h⟩ := bindSome h
         refine kl_call (blk b52 (.cells #[.int .i64 x48.1, .int .i64 x48.2.1, .int .i64 x48.2.2] 43 (0, 0)) :: h26 :: X) (by kernel_rfl) (by kernel_rfl) (by kernel_rfl) (strings_Builder_WriteString.ok (b0 := b1) hr79 bd36 V32 o37) rfl trivial ?_
         rintro _ _ ⟨v80, h82, A83, k84, V81, o85, rfl, rfl⟩
         refine nx_ret2 ?_
         refine K.mv2 ?_
         refine K.drop ?_
         refine k_nil ?_
         refine k_blk ?_
         refine k_blk ?_
         refine k_then ?_
         refine K.mv1 ?_
         refine K.mv1 ?_
         refine K.mv2 ?_
         exact k_meet (r79.2, v80, h82, A83, k84) ⟨h, V81, o85⟩ ⟨rfl, rfl, rfl, rfl, rfl, trivial⟩ rfl
        ·have h := condF h t78
         obtain ⟨q86, hq86, h⟩ := bindSome h
         refine k_cut1 [(0, .string a0), (3, .pointer (some ⟨b1, 0, none⟩)), (10, .slice A27 r25.length k28), (11, .int .i64 ((r25.length : Nat) : Int)), (12, .int .i64 x30), (5, .pointer (some ⟨b52, 0, none⟩)), (6, .int .u8 (c53.toNat : Int)), (48, .bool q86)] (blk b52 (.cells #[.int .i64 x48.1, .int .i64 x48.2.1, .int .i64 x48.2.2] 43 (0, 0)) :: h26 :: blk b1 (.cells #[v31, .slice A35 l33.length k36] 36 (0, 0)) :: h34 :: X) ?_ ?_
         ·clear hq86
          refine k_cond (t := q86) (by kernel_rfl) (fun t87 => ?_) (fun t87 => ?_)
          ·have h := condT h t87
           refine k_seq ?_
           refine k_region ?_
           refine kl_steps 2 [(0, .string a0), (3, .pointer (some ⟨b1, 0, none⟩)), (10, .slice A27 r25.length k28), (11, .int .i64 ((r25.length : Nat) : Int)), (12, .int .i64 x30), (56, .int .i64 (IntKind.i64.wrap (c53.toNat : Int)))] (by kernel_rfl) ?_
           obtain ⟨r88, hr88, h⟩ := bindSome h
           refine kl_callv (by kernel_rfl) (by kernel_rfl) (by kernel_rfl) (words_Format.ok hr88 hG) ⟨(.tail _ (.tail _ (.tail _ (.tail _ hm_G)))), trivial⟩ ?_
           refine K.drop ?_
           refine kl_steps 1 [(0, .string a0), (3, .pointer (some ⟨b1, 0, none⟩)), (10, .slice A27 r25.length k28), (11, .int .i64 ((r25.length : Nat) : Int)), (12, .int .i64 x30), (7, .string r88)] (by kernel_rfl) ?_
           refine k_nil ?_
           refine k_then ?_
           refine k_region ?_
           refine kl_steps 3 [(0, .string a0), (3, .pointer (some ⟨b1, 0, none⟩)), (10, .slice A27 r25.length k28), (11, .int .i64 ((r25.length : Nat) : Int)), (12, .int .i64 x30), (7, .string r88), (60, .int .i64 (IntKind.i64.wrap ((3 : Int) - (r88.size : Int))))] (by kernel_rfl) ?_
           obtain ⟨r89, hr89, h⟩ := bindSome h
           refine kl_callv (by kernel_rfl) (by kernel_rfl) (by kernel_rfl) (strings_Repeat.ok hr89) trivial ?_
           obtain ⟨s90, hs90, h⟩ := bindSome h
           refine kl_cat rfl (by kernel_rfl) (by kernel_rfl) (by kernel_rfl) (by kernel_rfl) hs90 ?_
           refine kl_steps 1 [(0, .string a0), (3, .pointer (some ⟨b1, 0, none⟩)), (10, .slice A27 r25.length k28), (11, .int .i64 ((r25.length : Nat) : Int)), (12, .int .i64 x30), (62, .string s90), (63, .string r88)] (by kernel_rfl) ?_
           obtain ⟨s91, hs91, h⟩ := bindSome h
           refine kl_cat rfl (by kernel_rfl) (by kernel_rfl) (by kernel_rfl) (by kernel_rfl) hs91 ?_
           refine K.mv2 ?_
           refine K.mv2 ?_
           obtain ⟨r92, hr92, h⟩ := bindSome h
           refine kl_call (h26 :: X) (by kernel_rfl) (by kernel_rfl) (by kernel_rfl) (strings_Builder_WriteString.ok (b0 := b1) hr92 bd36 V32 o37) rfl trivial ?_
           rintro _ _ ⟨v93, h95, A96, k97, V94, o98, rfl, rfl⟩
           refine nx_ret2 ?_
           refine k_nil ?_
           refine k_blk ?_
           refine k_blk ?_
           refine k_then ?_
           refine K.mv1 ?_
           refine K.mv1 ?_
           refine K.mv2 ?_
           exact k_meet (r92.2, v93, h95, A96, k97) ⟨h, V94, o98⟩ ⟨rfl, rfl, rfl, rfl, rfl, trivial⟩ rfl
          ·have h := condF h t87
           obtain ⟨q99, hq99, h⟩ := bindSome h
           refine k_cut1 [(0, .string a0), (3, .pointer (some ⟨b1, 0, none⟩)), (10, .slice A27 r25.length k28), (11, .int .i64 ((r25.length : Nat) : Int)), (12, .int .i64 x30), (5, .pointer (some ⟨b52, 0, none⟩)), (6, .int .u8 (c53.toNat : Int)), (66, .bool q99)] (blk b52 (.cells #[.int .i64 x48.1, .int .i64 x48.2.1, .int .i64 x48.2.2] 43 (0, 0)) :: h26 :: blk b1 (.cells #[v31, .slice A35 l33.length k36] 36 (0, 0)) :: h34 :: X) ?_ ?_
           ·clear hq99
            refine k_cond (t := q99) (by kernel_rfl) (fun t100 => ?_) (fun t100 => ?_)
            ·have h := condT h t100
             refine k_region_plan [(0, 0), (1, 0), (2, 0), (3, 0), (4, 0)] (fun _ => True) (by kernel_rfl) (by kernel_rfl) (fun _ _ d _ _ h => by cases d <;> exact h) (fun _ _ => trivial) ?_
             simp only [planOps, List.filterMap_cons, List.filterMap_nil, List.getElem?_toArray, List.getElem?_cons_zero, List.getElem?_cons_succ, Option.map_some, List.drop_succ_cons, List.drop_zero, List.length_cons, List.length_nil]
             refine kp_steps 2 [(0, .string a0), (3, .pointer (some ⟨b1, 0, none⟩)), (10, .slice A27 r25.length k28), (11, .int .i64 ((r25.length : Nat) : Int)), (12, .int .i64 x30), (6, .int .u8 (c53.toNat : Int)), (76, .int .u8 (Int.fdiv (c53.toNat : Int) 16))] (by kernel_rfl) (by kernel_rfl) ?_
             obtain ⟨c101, hc101, h⟩ := bindSome h
             refine kp_index (kd := .u8) rfl (by kernel_rfl) (by kernel_rfl) (by kernel_rfl) (by kernel_rfl) (by kernel_rfl) hc101 ?_
             refine kp_steps 1 [(0, .string a0), (3, .pointer (some ⟨b1, 0, none⟩)), (10, .slice A27 r25.length k28), (11, .int .i64 ((r25.length : Nat) : Int)), (12, .int .i64 x30), (6, .int .u8 (c53.toNat : Int)), (78, .string (Utf8.encode (c101.toNat : Int)))] (by kernel_rfl) (by kernel_rfl) ?_
             obtain ⟨s102, hs102, h⟩ := bindSome h
             refine kp_cat rfl (by kernel_rfl) (by kernel_rfl) (by kernel_rfl) (by kernel_rfl) hs102 ?_
             refine kp_done ?_
             refine kl_steps 2 [(0, .string a0), (3, .pointer (some ⟨b1, 0, none⟩)), (10, .slice A27 r25.length k28), (11, .int .i64 ((r25.length : Nat) : Int)), (12, .int .i64 x30), (79, .string s102), (81, .int .u8 (IntKind.u8.wrap ((BitVec.ofInt 8 (c53.toNat : Int) &&& BitVec.ofInt 8 (15 : Int)).toNat : Int)))] (by kernel_rfl) ?_
             obtain ⟨c103, hc103, h⟩ := bindSome h
             refine kl_index (kd := .u8) rfl (by kernel_rfl) (by kernel_rfl) (by kernel_rfl) (by kernel_rfl) (by kernel_rfl) hc103 ?_
             refine K.drop ?_
             refine kl_steps 1 [(0, .string a0), (3, .pointer (some ⟨b1, 0, none⟩)), (10, .slice A27 r25.length k28), (11, .int .i64 ((r25.length : Nat) : Int)), (12, .int .i64 x30), (79, .string s102), (83, .string (Utf8.encode (c103.toNat : Int)))] (by kernel_rfl) ?_
             obtain ⟨s104, hs104, h⟩ := bindSome h
             refine kl_cat rfl (by kernel_rfl) (by kernel_rfl) (by kernel_rfl) (by kernel_rfl) hs104 ?_
             refine K.mv2 ?_
             refine K.mv2 ?_
             obtain ⟨r105, hr105, h⟩ := bindSome h
             refine kl_call (h26 :: X) (by kernel_rfl) (by kernel_rfl) (by kernel_rfl) (strings_Builder_WriteString.ok (b0 := b1) hr105 bd36 V32 o37) rfl trivial ?_
             rintro _ _ ⟨v106, h108, A109, k110, V107, o111, rfl, rfl⟩
             refine nx_ret2 ?_
             refine k_nil ?_
             refine k_blk ?_
             refine k_blk ?_
             refine k_then ?_
             refine K.mv1 ?_
             refine K.mv1 ?_
             refine K.mv2 ?_
             exact k_meet (r105.2, v106, h108, A109, k110) ⟨h, V107, o111⟩ ⟨rfl, rfl, rfl, rfl, rfl, trivial⟩ rfl
            ·have h := condF h t100
             refine k_region ?_
             refine kl_steps 2 [(0, .string a0), (3, .pointer (some ⟨b1, 0, none⟩)), (10, .slice A27 r25.length k28), (11, .int .i64 ((r25.length : Nat) : Int)), (12, .int .i64 x30), (5, .pointer (some ⟨b52, 0, none⟩)), (20, .string a0), (21, .pointer (some ⟨b52, 0, none⟩))] (by kernel_rfl) ?_
             refine kl_load (v := .int .i64 x48.1) [.val (.int .i64 x48.1)] [.ld ⟨b52, 0, none⟩ (.int .i64 x48.1)] (by kernel_rfl) (by kernel_rfl) (by kernel_rfl) ⟨⟨0, _, _, _, rfl, rfl, rfl⟩, trivial⟩ ?_
             refine kl_steps 1 [(0, .string a0), (3, .pointer (some ⟨b1, 0, none⟩)), (10, .slice A27 r25.length k28), (11, .int .i64 ((r25.length : Nat) : Int)), (12, .int .i64 x30), (5, .pointer (some ⟨b52, 0, none⟩)), (20, .string a0), (22, .int .i64 x48.1), (23, .pointer (some ⟨b52, 0, none⟩))] (by kernel_rfl) ?_
             refine kl_load (v := .int .i64 x48.1) [.val (.int .i64 x48.1)] [.ld ⟨b52, 0, none⟩ (.int .i64 x48.1)] (by kernel_rfl) (by kernel_rfl) (by kernel_rfl) ⟨⟨0, _, _, _, rfl, rfl, rfl⟩, trivial⟩ ?_
             refine kl_steps 1 [(0, .string a0), (3, .pointer (some ⟨b1, 0, none⟩)), (10, .slice A27 r25.length k28), (11, .int .i64 ((r25.length : Nat) : Int)), (12, .int .i64 x30), (20, .string a0), (22, .int .i64 x48.1), (24, .int .i64 x48.1), (25, .pointer (some ⟨b52, 1, none⟩))] (by kernel_rfl) ?_
             refine kl_load (v := .int .i64 x48.2.1) [.val (.int .i64 x48.2.1)] [.ld ⟨b52, 1, none⟩ (.int .i64 x48.2.1)] (by kernel_rfl) (by kernel_rfl) (by kernel_rfl) ⟨⟨0, _, _, _, rfl, rfl, rfl⟩, trivial⟩ ?_
             refine K.drop ?_
             refine kl_steps 1 [(0, .string a0), (3, .pointer (some ⟨b1, 0, none⟩)), (10, .slice A27 r25.length k28), (11, .int .i64 ((r25.length : Nat) : Int)), (12, .int .i64 x30), (20, .string a0), (22, .int .i64 x48.1), (27, .int .i64 (IntKind.i64.wrap (x48.1 + x48.2.1)))] (by kernel_rfl) ?_
             obtain ⟨s112, hs112, h⟩ := bindSome h
             refine kl_sstr x48.1 (IntKind.i64.wrap (x48.1 + x48.2.1)) rfl (by kernel_rfl) (by kernel_rfl) (by kernel_rfl) (.inr ⟨_, .i64, rfl, (by kernel_rfl)⟩) (.inr ⟨_, .i64, rfl, (by kernel_rfl)⟩) (by kernel_rfl) hs112 ?_
             refine K.mv2 ?_
             refine K.mv2 ?_
             obtain ⟨r113, hr113, h⟩ := bindSome h
             refine kl_call (h26 :: X) (by kernel_rfl) (by kernel_rfl) (by kernel_rfl) (strings_Builder_WriteString.ok (b0 := b1) hr113 bd36 V32 o37) rfl trivial ?_
             rintro _ _ ⟨v114, h116, A117, k118, V115, o119, rfl, rfl⟩
             refine nx_ret2 ?_
             refine k_nil ?_
             refine k_blk ?_
             refine k_blk ?_
             refine k_then ?_
             refine K.mv1 ?_
             refine K.mv1 ?_
             refine K.mv2 ?_
             exact k_meet (r113.2, v114, h116, A117, k118) ⟨h, V115, o119⟩ ⟨rfl, rfl, rfl, rfl, rfl, trivial⟩ rfl
           ·have h := hq99
            clear hq99
            refine k_region ?_
            refine kl_steps 1 [(0, .string a0), (3, .pointer (some ⟨b1, 0, none⟩)), (10, .slice A27 r25.length k28), (11, .int .i64 ((r25.length : Nat) : Int)), (12, .int .i64 x30), (5, .pointer (some ⟨b52, 0, none⟩)), (6, .int .u8 (c53.toNat : Int)), (67, .pointer (some ⟨b52, 2, none⟩))] (by kernel_rfl) ?_
            refine kl_load (v := .int .i64 x48.2.2) [.val (.int .i64 x48.2.2)] [.ld ⟨b52, 2, none⟩ (.int .i64 x48.2.2)] (by kernel_rfl) (by kernel_rfl) (by kernel_rfl) ⟨⟨0, _, _, _, rfl, rfl, rfl⟩, trivial⟩ ?_
            refine kl_steps 2 [(0, .string a0), (3, .pointer (some ⟨b1, 0, none⟩)), (10, .slice A27 r25.length k28), (11, .int .i64 ((r25.length : Nat) : Int)), (12, .int .i64 x30), (5, .pointer (some ⟨b52, 0, none⟩)), (6, .int .u8 (c53.toNat : Int)), (70, .bool (x48.2.2 == (65533 : Int)))] (by kernel_rfl) ?_
            rcases Bool.eq_false_or_eq_true ((x48.2.2 == (65533 : Int))) with t120 | t120
            ·have h := condT h t120
             refine K.weak (env' := [(0, .string a0), (3, .pointer (some ⟨b1, 0, none⟩)), (10, .slice A27 r25.length k28), (11, .int .i64 ((r25.length : Nat) : Int)), (12, .int .i64 x30), (5, .pointer (some ⟨b52, 0, none⟩)), (6, .int .u8 (c53.toNat : Int)), (70, .bool true)]) ?_ ⟨rfl, rfl, rfl, rfl, rfl, rfl, rfl, congrArg (fun b => some (Value.bool b)) t120, trivial⟩
             refine kl_steps 1 [(0, .string a0), (3, .pointer (some ⟨b1, 0, none⟩)), (10, .slice A27 r25.length k28), (11, .int .i64 ((r25.length : Nat) : Int)), (12, .int .i64 x30), (5, .pointer (some ⟨b52, 0, none⟩)), (6, .int .u8 (c53.toNat : Int)), (70, .bool true), (71, .pointer (some ⟨b52, 1, none⟩))] (by kernel_rfl) ?_
             refine kl_load (v := .int .i64 x48.2.1) [.val (.int .i64 x48.2.1)] [.ld ⟨b52, 1, none⟩ (.int .i64 x48.2.1)] (by kernel_rfl) (by kernel_rfl) (by kernel_rfl) ⟨⟨0, _, _, _, rfl, rfl, rfl⟩, trivial⟩ ?_
             refine kl_steps 3 [(0, .string a0), (3, .pointer (some ⟨b1, 0, none⟩)), (10, .slice A27 r25.length k28), (11, .int .i64 ((r25.length : Nat) : Int)), (12, .int .i64 x30), (5, .pointer (some ⟨b52, 0, none⟩)), (6, .int .u8 (c53.toNat : Int)), (66, .bool (x48.2.1 == (1 : Int)))] (by kernel_rfl) ?_
             refine k_nil ?_
             refine k_then ?_
             exact k_meet1 ⟨rfl, rfl, rfl, rfl, rfl, rfl, rfl, congrArg (fun b => some (Value.bool b)) (Option.some.inj h), trivial⟩
            ·have h := condF h t120
             refine K.weak (env' := [(0, .string a0), (3, .pointer (some ⟨b1, 0, none⟩)), (10, .slice A27 r25.length k28), (11, .int .i64 ((r25.length : Nat) : Int)), (12, .int .i64 x30), (5, .pointer (some ⟨b52, 0, none⟩)), (6, .int .u8 (c53.toNat : Int)), (70, .bool false)]) ?_ ⟨rfl, rfl, rfl, rfl, rfl, rfl, rfl, congrArg (fun b => some (Value.bool b)) t120, trivial⟩
             refine kl_steps 5 [(0, .string a0), (3, .pointer (some ⟨b1, 0, none⟩)), (10, .slice A27 r25.length k28), (11, .int .i64 ((r25.length : Nat) : Int)), (12, .int .i64 x30), (5, .pointer (some ⟨b52, 0, none⟩)), (6, .int .u8 (c53.toNat : Int)), (66, .bool false)] (by kernel_rfl) ?_
             refine k_nil ?_
             refine k_then ?_
             exact k_meet1 ⟨rfl, rfl, rfl, rfl, rfl, rfl, rfl, congrArg (fun b => some (Value.bool b)) (Option.some.inj h), trivial⟩
         ·have h := hq86
          clear hq86
          refine k_region ?_
          refine kl_steps 3 [(0, .string a0), (3, .pointer (some ⟨b1, 0, none⟩)), (10, .slice A27 r25.length k28), (11, .int .i64 ((r25.length : Nat) : Int)), (12, .int .i64 x30), (5, .pointer (some ⟨b52, 0, none⟩)), (6, .int .u8 (c53.toNat : Int)), (51, .bool (decide ((c53.toNat : Int) < (32 : Int))))] (by kernel_rfl) ?_
          rcases Bool.eq_false_or_eq_true (decide ((c53.toNat : Int) < (32 : Int))) with t121 | t121
          ·have h := condT h t121
           refine K.weak (env' := [(0, .string a0), (3, .pointer (some ⟨b1, 0, none⟩)), (10, .slice A27 r25.length k28), (11, .int .i64 ((r25.length : Nat) : Int)), (12, .int .i64 x30), (5, .pointer (some ⟨b52, 0, none⟩)), (6, .int .u8 (c53.toNat : Int)), (51, .bool true)]) ?_ ⟨rfl, rfl, rfl, rfl, rfl, rfl, rfl, congrArg (fun b => some (Value.bool b)) t121, trivial⟩
           refine kl_steps 4 [(0, .string a0), (3, .pointer (some ⟨b1, 0, none⟩)), (10, .slice A27 r25.length k28), (11, .int .i64 ((r25.length : Nat) : Int)), (12, .int .i64 x30), (5, .pointer (some ⟨b52, 0, none⟩)), (6, .int .u8 (c53.toNat : Int)), (48, .bool true)] (by kernel_rfl) ?_
           refine k_nil ?_
           refine k_then ?_
           exact k_meet1 ⟨rfl, rfl, rfl, rfl, rfl, rfl, rfl, congrArg (fun b => some (Value.bool b)) (Option.some.inj h), trivial⟩
          ·have h := condF h t121
           refine K.weak (env' := [(0, .string a0), (3, .pointer (some ⟨b1, 0, none⟩)), (10, .slice A27 r25.length k28), (11, .int .i64 ((r25.length : Nat) : Int)), (12, .int .i64 x30), (5, .pointer (some ⟨b52, 0, none⟩)), (6, .int .u8 (c53.toNat : Int)), (51, .bool false)]) ?_ ⟨rfl, rfl, rfl, rfl, rfl, rfl, rfl, congrArg (fun b => some (Value.bool b)) t121, trivial⟩
           refine kl_steps 4 [(0, .string a0), (3, .pointer (some ⟨b1, 0, none⟩)), (10, .slice A27 r25.length k28), (11, .int .i64 ((r25.length : Nat) : Int)), (12, .int .i64 x30), (5, .pointer (some ⟨b52, 0, none⟩)), (6, .int .u8 (c53.toNat : Int)), (48, .bool ((c53.toNat : Int) == (127 : Int)))] (by kernel_rfl) ?_
           refine k_nil ?_
           refine k_then ?_
           exact k_meet1 ⟨rfl, rfl, rfl, rfl, rfl, rfl, rfl, congrArg (fun b => some (Value.bool b)) (Option.some.inj h), trivial⟩
     ·have h := hq54
      clear hq54
      refine k_region ?_
      refine kl_steps 3 [(0, .string a0), (3, .pointer (some ⟨b1, 0, none⟩)), (10, .slice A27 r25.length k28), (11, .int .i64 ((r25.length : Nat) : Int)), (12, .int .i64 x30), (5, .pointer (some ⟨b52, 0, none⟩)), (6, .int .u8 (c53.toNat : Int)), (33, .bool ((c53.toNat : Int) == (92 : Int)))] (by kernel_rfl) ?_
      rcases Bool.eq_false_or_eq_true (((c53.toNat : Int) == (92 : Int))) with t122 | t122
      ·have h := condT h t122
       refine K.weak (env' := [(0, .string a0), (3, .pointer (some ⟨b1, 0, none⟩)), (10, .slice A27 r25.length k28), (11, .int .i64 ((r25.length : Nat) : Int)), (12, .int .i64 x30), (5, .pointer (some ⟨b52, 0, none⟩)), (6, .int .u8 (c53.toNat : Int)), (33, .bool true)]) ?_ ⟨rfl, rfl, rfl, rfl, rfl, rfl, rfl, congrArg (fun b => some (Value.bool b)) t122, trivial⟩
       refine kl_steps 4 [(0, .string a0), (3, .pointer (some ⟨b1, 0, none⟩)), (10, .slice A27 r25.length k28), (11, .int .i64 ((r25.length : Nat) : Int)), (12, .int .i64 x30), (5, .pointer (some ⟨b52, 0, none⟩)), (6, .int .u8 (c53.toNat : Int)), (30, .bool true)] (by kernel_rfl) ?_
       refine k_nil ?_
       refine k_then ?_
       exact k_meet1 ⟨rfl, rfl, rfl, rfl, rfl, rfl, rfl, congrArg (fun b => some (Value.bool b)) (Option.some.inj h), trivial⟩
      ·have h := condF h t122
       refine K.weak (env' := [(0, .string a0), (3, .pointer (some ⟨b1, 0, none⟩)), (10, .slice A27 r25.length k28), (11, .int .i64 ((r25.length : Nat) : Int)), (12, .int .i64 x30), (5, .pointer (some ⟨b52, 0, none⟩)), (6, .int .u8 (c53.toNat : Int)), (33, .bool false)]) ?_ ⟨rfl, rfl, rfl, rfl, rfl, rfl, rfl, congrArg (fun b => some (Value.bool b)) t122, trivial⟩
       refine kl_steps 4 [(0, .string a0), (3, .pointer (some ⟨b1, 0, none⟩)), (10, .slice A27 r25.length k28), (11, .int .i64 ((r25.length : Nat) : Int)), (12, .int .i64 x30), (5, .pointer (some ⟨b52, 0, none⟩)), (6, .int .u8 (c53.toNat : Int)), (30, .bool ((c53.toNat : Int) == (34 : Int)))] (by kernel_rfl) ?_
       refine k_nil ?_
       refine k_then ?_
       exact k_meet1 ⟨rfl, rfl, rfl, rfl, rfl, rfl, rfl, congrArg (fun b => some (Value.bool b)) (Option.some.inj h), trivial⟩
   ·have h := condF h t39
    refine k_exit ?_
    refine k_then_exit ?_
    refine k_then_exit ?_
    refine k_here ?_
    refine k_then ?_
    refine K.drop ?_
    exact k_meet (l33, v31, h34, A35, k36) ⟨h, V32, o37⟩ ⟨rfl, trivial⟩ rfl
end Go.Proofs.YtoaplbeojagjcaaDoor
namespace Go.Proofs.YtoaplbeojagjcaaDoor
open Go Go.RowKit
def r11_hex.f (_k : Nat) (a0 : Int) : Option (Int) := cond (decide (a0 < (10 : Int))) (some (IntKind.u8.wrap ((48 : Int) + a0))) (some (IntKind.u8.wrap ((IntKind.u8.wrap ((97 : Int) + a0)) - (10 : Int))))
set_option maxRecDepth 100000 in
theorem r11_hex.ok {k : Nat} {a0 : Int} {r : Int} (h : r11_hex.f k a0 = some r) : Ct Tryd.prog 16 #[.int .u8 a0] [] [] (fun e l1 => e = .returned (.int .u8 r) ∧ l1 = []) := by
 refine ct_enter (args := [.int .u8 a0]) Tryd.func16 rfl (Nat.le_of_ble_eq_true rfl) ?_
 intro A X hh_
 unfold r11_hex.f at h
 refine k_seq ?_
 refine k_region ?_
 refine kl_steps 1 [(0, .int .u8 a0)] (by kernel_rfl) ?_
 refine k_nil ?_
 refine k_then ?_
 refine k_seq ?_
 refine k_seq ?_
 refine k_region ?_
 refine kl_steps 2 [(0, .int .u8 a0), (4, .bool (decide (a0 < (10 : Int))))] (by kernel_rfl) ?_
 refine k_nil ?_
 refine k_then ?_
 refine k_cond (t := decide (a0 < (10 : Int))) (by kernel_rfl) (fun t1 => ?_) (fun t1 => ?_)
 ·have h := condT h t1
  refine k_seq ?_
  refine k_region ?_
  refine kl_steps 3 [(2, .int .u8 (IntKind.u8.wrap ((48 : Int) + a0)))] (by kernel_rfl) ?_
  refine k_nil ?_
  refine k_then ?_
  refine k_ret ?_
  refine k_then_ret ?_
  obtain rfl := Option.some.inj h
  refine k_done (v := .int .u8 (IntKind.u8.wrap ((48 : Int) + a0))) [] [] [] (by kernel_rfl) (by kernel_rfl) trivial ?_
  exact k_end ⟨rfl, rfl⟩
 ·have h := condF h t1
  refine k_skip ?_
  refine k_then ?_
  refine k_seq ?_
  refine k_region ?_
  refine kl_steps 4 [(2, .int .u8 (IntKind.u8.wrap ((IntKind.u8.wrap ((97 : Int) + a0)) - (10 : Int))))] (by kernel_rfl) ?_
  refine k_nil ?_
  refine k_then ?_
  refine k_ret ?_
  obtain rfl := Option.some.inj h
  refine k_done (v := .int .u8 (IntKind.u8.wrap ((IntKind.u8.wrap ((97 : Int) + a0)) - (10 : Int)))) [] [] [] (by kernel_rfl) (by kernel_rfl) trivial ?_
  exact k_end ⟨rfl, rfl⟩
def r11_Quote.l0 : Nat → (a0 : ByteArray) → (J7 : (List Int) → Option (ByteArray)) → (l14 : List Int) → (x19 : Int) → Option (ByteArray)
 | 0, _, _, _, _ => none
 | m20 + 1, a0, J7, l14, x19 => cond (decide (x19 < (a0.size : Int))) ((r01_At.f m20 a0 x19).bind fun r22 => (sIdx a0 x19).bind fun c24 : UInt8 => joinF (fun (l25 : List Int) => r11_Quote.l0 m20 a0 J7 l25 (IntKind.i64.wrap (x19 + r22.2.1))) (fun J30 => (cond ((c24.toNat : Int) == (92 : Int)) (some true) (some ((c24.toNat : Int) == (34 : Int))) : Option Bool).bind fun q31 => cond q31 ((apd 1 l14 [(92 : Int), (c24.toNat : Int)]).bind fun l34 => J30 l34) (cond ((c24.toNat : Int) == (10 : Int)) ((apd 1 l14 [(92 : Int), (110 : Int)]).bind fun l41 => J30 l41) (cond ((c24.toNat : Int) == (13 : Int)) ((apd 1 l14 [(92 : Int), (114 : Int)]).bind fun l48 => J30 l48) ((cond (decide ((c24.toNat : Int) < (32 : Int))) (some true) (some ((c24.toNat : Int) == (127 : Int))) : Option Bool).bind fun q53 => cond q53 ((apd 1 l14 [(92 : Int), IntKind.u8.wrap ((48 : Int) + (IntKind.u8.wrap (Int.tdiv (c24.toNat : Int) (100 : Int)))), IntKind.u8.wrap ((48 : Int) + (Int.tmod (IntKind.u8.wrap (Int.tdiv (c24.toNat : Int) (10 : Int))) (10 : Int))), IntKind.u8.wrap ((48 : Int) + (Int.tmod (c24.toNat : Int) (10 : Int)))]).bind fun l56 => J30 l56) ((cond (r22.2.2 == (65533 : Int)) (some (r22.2.1 == (1 : Int))) (some false) : Option Bool).bind fun q61 => cond q61 ((r11_hex.f m20 (IntKind.u8.wrap (Int.tdiv (c24.toNat : Int) (16 : Int)))).bind fun r63 => (r11_hex.f m20 (Int.tmod (c24.toNat : Int) (16 : Int))).bind fun r64 => (apd 1 l14 [(92 : Int), (120 : Int), r63, r64]).bind fun l66 => J30 l66) ((sSub a0 x19 (IntKind.i64.wrap (x19 + r22.2.1))).bind fun s71 : ByteArray => (apd 1 l14 (bsI s71)).bind fun l72 => J30 l72))))))) (J7 l14)
def r11_Quote.f (k : Nat) (a0 : ByteArray) : Option (ByteArray) := joinF (fun (l2 : List Int) => (apd 1 l2 [(34 : Int)]).bind fun l9 => some ((strOfNums l9))) (fun J7 => r11_Quote.l0 k a0 J7 ([(34 : Int)]) (0 : Int))
set_option maxRecDepth 100000 in
theorem r11_Quote.ok {k : Nat} {a0 : ByteArray} {r : ByteArray} (h : r11_Quote.f k a0 = some r) : Ct Tryd.prog 7 #[.string a0] [] [] (fun e l1 => e = .returned (.string r) ∧ l1 = []) := by
 refine ct_enter (args := [.string a0]) Tryd.func7 rfl (Nat.le_of_ble_eq_true rfl) ?_
 intro A X hh_
 unfold r11_Quote.f at h
 refine k_seq ?_
 refine k_region ?_
 refine kl_steps 1 [(0, .string a0)] (by kernel_rfl) ?_
 refine k_nil ?_
 refine k_then ?_
 refine k_seq ?_
 refine k_region ?_
 refine kl_new (.cells #[.int .u8 (34 : Int)] 5 (0, 0)) (fun b => .slice (some ⟨b, 0, none⟩) 1 1) (by kernel_rfl) (by kernel_rfl) (fun _ => by kernel_rfl) fun b1 => ?_
 refine kl_steps 1 [(0, .string a0), (3, .slice (some ⟨b1, 0, none⟩) 1 1)] (by kernel_rfl) ?_
 refine k_nil ?_
 refine k_then ?_
 obtain ⟨J7, hJ7, h⟩ := joinSplit h
 refine k_cut (τ := (List Int) × Frag × (Option Addr) × Nat) (fun t => [(3, .slice t.2.2.1 t.1.length t.2.2.2)]) (fun t => t.2.1 :: X) (fun t => J7 t.1 = some r ∧ OwnT (encI .u8) 5 1 t.2.1 (.slice t.2.2.1 t.1.length t.2.2.2) t.1) ?_ ?_
 ·rintro ⟨l2, h3, A4, k5⟩ ⟨h, o6⟩
  subst hJ7
  refine k_seq ?_
  refine k_region ?_
  refine kl_steps 1 [(92, .slice A4 l2.length k5)] (by kernel_rfl) ?_
  refine kl_new (.cells #[.int .u8 (34 : Int)] 5 (0, 0)) (fun b => .slice (some ⟨b, 0, none⟩) 1 1) (by kernel_rfl) (by kernel_rfl) (fun _ => by kernel_rfl) fun b8 => ?_
  refine K.mv1 ?_
  obtain ⟨l9, hl9, h⟩ := bindSome h
  refine kl_apd (ys := [(34 : Int)]) (encI_ok .u8) rfl ety33 (by kernel_rfl) (by kernel_rfl) (by kernel_rfl) (by kernel_rfl) (by kernel_rfl) hl9 o6 (src_blk (n := 1) (encI_ok .u8) [(34 : Int)] (by kernel_rfl) rfl (by decide) 1 rfl) fun h10 A11 k12 o13 => ?_
  refine K.mv1 ?_
  refine K.drop ?_
  refine kl_string (U := 5) (xs := l9) rfl (by kernel_rfl) (by kernel_rfl) (by kernel_rfl) (by kernel_rfl) (by kernel_rfl) (by kernel_rfl) (OwnT.rd o13) (.head _) ?_
  refine K.drop ?_
  refine kl_steps 1 [(2, .string (strOfNums l9))] (by kernel_rfl) ?_
  refine k_nil ?_
  refine k_then ?_
  refine k_ret ?_
  obtain rfl := Option.some.inj h
  refine k_done (v := .string (strOfNums l9)) [] [] [] (by kernel_rfl) (by kernel_rfl) trivial ?_
  exact k_end ⟨rfl, rfl⟩
 ·skip
  refine k_seq ?_
  refine k_region ?_
  refine kl_steps 1 [(0, .string a0), (3, .slice (some ⟨b1, 0, none⟩) 1 1), (4, .int .i64 (0 : Int))] (by kernel_rfl) ?_
  refine k_nil ?_
  refine k_then ?_
  refine k_block ?_
  refine k_loop (τ := (List Int) × Int × Frag × (Option Addr) × Nat) (fun t => [(0, .string a0), (3, .slice t.2.2.2.1 t.1.length t.2.2.2.2), (4, .int .i64 t.2.1)]) (fun t => t.2.2.1 :: X) (fun m t => r11_Quote.l0 m a0 J7 t.1 t.2.1 = some r ∧ OwnT (encI .u8) 5 1 t.2.2.1 (.slice t.2.2.2.1 t.1.length t.2.2.2.2) t.1) k ([(34 : Int)], (0 : Int), blk b1 (.cells #[.int .u8 (34 : Int)] 5 (0, 0)), (some ⟨b1, 0, none⟩), 1) ⟨h, (OwnT.blk 5 (encI_ok .u8) b1 [(34 : Int)] #[.int .u8 (34 : Int)] 1 (by kernel_rfl) rfl (by decide))⟩ ⟨rfl, rfl, rfl, trivial⟩ rfl ?_
  clear h
  rintro m20 ⟨l14, x19, h15, A16, k17⟩ ⟨h, o18⟩
  cases m20 with
  | zero => simp [r11_Quote.l0] at h
  | succ m20 =>
   simp only [r11_Quote.l0] at h
   refine k_seq ?_
   refine k_seq ?_
   refine k_region ?_
   refine kl_steps 4 [(0, .string a0), (3, .slice A16 l14.length k17), (4, .int .i64 x19), (11, .bool (decide (x19 < (a0.size : Int))))] (by kernel_rfl) ?_
   refine k_nil ?_
   refine k_then ?_
   refine k_cond (t := decide (x19 < (a0.size : Int))) (by kernel_rfl) (fun t21 => ?_) (fun t21 => ?_)
   ·have h := condT h t21
    refine k_skip ?_
    refine k_then ?_
    refine k_block ?_
    refine k_seq ?_
    refine k_region ?_
    refine kl_steps 2 [(0, .string a0), (3, .slice A16 l14.length k17), (4, .int .i64 x19), (12, .string a0), (13, .int .i64 x19)] (by kernel_rfl) ?_
    obtain ⟨r22, hr22, h⟩ := bindSome h
    refine kl_callv (by kernel_rfl) (by kernel_rfl) (by kernel_rfl) (r01_At.ok hr22) trivial ?_
    refine kl_new (.cells #[.int .i64 (0 : Int), .int .i64 (0 : Int), .int .i64 (0 : Int)] 50 (0, 0)) (fun b => .pointer (some ⟨b, 0, none⟩)) (by kernel_rfl) (by kernel_rfl) (fun _ => by kernel_rfl) fun b23 => ?_
    refine kl_store (cs' := #[.int .i64 r22.1, .int .i64 r22.2.1, .int .i64 r22.2.2]) [.st ⟨b23, 0, none⟩ (.int .i64 r22.1), .st ⟨b23, 1, none⟩ (.int .i64 r22.2.1), .st ⟨b23, 2, none⟩ (.int .i64 r22.2.2)] (by kernel_rfl) (by kernel_rfl) (by kernel_rfl) ⟨rfl, rfl, rfl, trivial⟩ (by kernel_rfl) ?_
    refine k_nil ?_
    refine k_then ?_
    refine k_seq ?_
    refine k_region ?_
    refine kl_steps 2 [(0, .string a0), (3, .slice A16 l14.length k17), (4, .int .i64 x19), (5, .pointer (some ⟨b23, 0, none⟩)), (15, .string a0), (16, .int .i64 x19)] (by kernel_rfl) ?_
    obtain ⟨c24, hc24, h⟩ := bindSome h
    refine kl_index (kd := .i64) rfl (by kernel_rfl) (by kernel_rfl) (by kernel_rfl) (by kernel_rfl) (by kernel_rfl) hc24 ?_
    refine kl_steps 1 [(0, .string a0), (3, .slice A16 l14.length k17), (4, .int .i64 x19), (5, .pointer (some ⟨b23, 0, none⟩)), (6, .int .u8 (c24.toNat : Int))] (by kernel_rfl) ?_
    refine k_nil ?_
    refine k_then ?_
    obtain ⟨J30, hJ30, h⟩ := joinSplit h
    refine k_cut (τ := (List Int) × Frag × (Option Addr) × Nat) (fun t => [(0, .string a0), (3, .slice t.2.2.1 t.1.length t.2.2.2), (4, .int .i64 x19), (5, .pointer (some ⟨b23, 0, none⟩))]) (fun t => blk b23 (.cells #[.int .i64 r22.1, .int .i64 r22.2.1, .int .i64 r22.2.2] 50 (0, 0)) :: t.2.1 :: X) (fun t => J30 t.1 = some r ∧ OwnT (encI .u8) 5 1 t.2.1 (.slice t.2.2.1 t.1.length t.2.2.2) t.1) ?_ ?_
    ·rintro ⟨l25, h26, A27, k28⟩ ⟨h, o29⟩
     subst hJ30
     refine k_region ?_
     refine kl_steps 2 [(0, .string a0), (3, .slice A27 l25.length k28), (4, .int .i64 x19), (88, .int .i64 x19), (89, .pointer (some ⟨b23, 1, none⟩))] (by kernel_rfl) ?_
     refine kl_load (v := .int .i64 r22.2.1) [.val (.int .i64 r22.2.1)] [.ld ⟨b23, 1, none⟩ (.int .i64 r22.2.1)] (by kernel_rfl) (by kernel_rfl) (by kernel_rfl) ⟨⟨0, _, _, _, rfl, rfl, rfl⟩, trivial⟩ ?_
     refine K.drop ?_
     refine kl_steps 2 [(0, .string a0), (3, .slice A27 l25.length k28), (4, .int .i64 (IntKind.i64.wrap (x19 + r22.2.1)))] (by kernel_rfl) ?_
     refine k_nil ?_
     refine k_blk ?_
     refine k_then ?_
     exact k_again m20 (l25, IntKind.i64.wrap (x19 + r22.2.1), h26, A27, k28) (Nat.lt_succ_self _) ⟨h, o29⟩ ⟨rfl, rfl, rfl, trivial⟩ rfl
    ·skip
     refine k_block ?_
     obtain ⟨q31, hq31, h⟩ := bindSome h
     refine k_cut1 [(0, .string a0), (3, .slice A16 l14.length k17), (4, .int .i64 x19), (5, .pointer (some ⟨b23, 0, none⟩)), (6, .int .u8 (c24.toNat : Int)), (27, .bool q31)] (blk b23 (.cells #[.int .i64 r22.1, .int .i64 r22.2.1, .int .i64 r22.2.2] 50 (0, 0)) :: h15 :: X) ?_ ?_
     ·clear hq31
      refine k_cond (t := q31) (by kernel_rfl) (fun t32 => ?_) (fun t32 => ?_)
      ·have h := condT h t32
       refine k_region ?_
       refine kl_steps 2 [(0, .string a0), (3, .slice A16 l14.length k17), (4, .int .i64 x19), (5, .pointer (some ⟨b23, 0, none⟩)), (34, .slice A16 l14.length k17), (35, .int .u8 (c24.toNat : Int))] (by kernel_rfl) ?_
       refine kl_new (.cells #[.int .u8 (92 : Int), .int .u8 (c24.toNat : Int)] 5 (0, 0)) (fun b => .slice (some ⟨b, 0, none⟩) 2 2) (by kernel_rfl) (by kernel_rfl) (fun _ => by kernel_rfl) fun b33 => ?_
       refine K.mv2 ?_
       obtain ⟨l34, hl34, h⟩ := bindSome h
       refine kl_apd (ys := [(92 : Int), (c24.toNat : Int)]) (encI_ok .u8) rfl ety33 (by kernel_rfl) (by kernel_rfl) (by kernel_rfl) (by kernel_rfl) (by kernel_rfl) hl34 o18 (src_blk (n := 2) (encI_ok .u8) [(92 : Int), (c24.toNat : Int)] (by kernel_rfl) rfl (by decide) 1 rfl) fun h35 A36 k37 o38 => ?_
       refine K.mv1 ?_
       refine K.drop ?_
       refine kl_steps 1 [(0, .string a0), (3, .slice A36 l34.length k37), (4, .int .i64 x19), (5, .pointer (some ⟨b23, 0, none⟩))] (by kernel_rfl) ?_
       refine k_nil ?_
       refine k_blk ?_
       refine k_then ?_
       refine K.mv1 ?_
       exact k_meet (l34, h35, A36, k37) ⟨h, o38⟩ ⟨rfl, rfl, rfl, rfl, trivial⟩ rfl
      ·have h := condF h t32
       refine k_seq ?_
       refine k_region ?_
       refine kl_steps 3 [(0, .string a0), (3, .slice A16 l14.length k17), (4, .int .i64 x19), (5, .pointer (some ⟨b23, 0, none⟩)), (6, .int .u8 (c24.toNat : Int)), (38, .bool ((c24.toNat : Int) == (10 : Int)))] (by kernel_rfl) ?_
       refine k_nil ?_
       refine k_then ?_
       refine k_cond (t := ((c24.toNat : Int) == (10 : Int))) (by kernel_rfl) (fun t39 => ?_) (fun t39 => ?_)
       ·have h := condT h t39
        refine k_region ?_
        refine kl_steps 1 [(0, .string a0), (3, .slice A16 l14.length k17), (4, .int .i64 x19), (5, .pointer (some ⟨b23, 0, none⟩)), (41, .slice A16 l14.length k17)] (by kernel_rfl) ?_
        refine kl_new (.cells #[.int .u8 (92 : Int), .int .u8 (110 : Int)] 5 (0, 0)) (fun b => .slice (some ⟨b, 0, none⟩) 2 2) (by kernel_rfl) (by kernel_rfl) (fun _ => by kernel_rfl) fun b40 => ?_
        refine K.mv2 ?_
        obtain ⟨l41, hl41, h⟩ := bindSome h
        refine kl_apd (ys := [(92 : Int), (110 : Int)]) (encI_ok .u8) rfl ety33 (by kernel_rfl) (by kernel_rfl) (by kernel_rfl) (by kernel_rfl) (by kernel_rfl) hl41 o18 (src_blk (n := 2) (encI_ok .u8) [(92 : Int), (110 : Int)] (by kernel_rfl) rfl (by decide) 1 rfl) fun h42 A43 k44 o45 => ?_
        refine K.mv1 ?_
        refine K.drop ?_
        refine kl_steps 1 [(0, .string a0), (3, .slice A43 l41.length k44), (4, .int .i64 x19), (5, .pointer (some ⟨b23, 0, none⟩))] (by kernel_rfl) ?_
        refine k_nil ?_
        refine k_blk ?_
        refine k_then ?_
        refine K.mv1 ?_
        exact k_meet (l41, h42, A43, k44) ⟨h, o45⟩ ⟨rfl, rfl, rfl, rfl, trivial⟩ rfl
       ·have h := condF h t39
        refine k_seq ?_
        refine k_region ?_
        refine kl_steps 3 [(0, .string a0), (3, .slice A16 l14.length k17), (4, .int .i64 x19), (5, .pointer (some ⟨b23, 0, none⟩)), (6, .int .u8 (c24.toNat : Int)), (44, .bool ((c24.toNat : Int) == (13 : Int)))] (by kernel_rfl) ?_
        refine k_nil ?_
        refine k_then ?_
        refine k_cond (t := ((c24.toNat : Int) == (13 : Int))) (by kernel_rfl) (fun t46 => ?_) (fun t46 => ?_)
        ·have h := condT h t46
         refine k_region ?_
         refine kl_steps 1 [(0, .string a0), (3, .slice A16 l14.length k17), (4, .int .i64 x19), (5, .pointer (some ⟨b23, 0, none⟩)), (47, .slice A16 l14.length k17)] (by kernel_rfl) ?_
         refine kl_new (.cells #[.int .u8 (92 : Int), .int .u8 (114 : Int)] 5 (0, 0)) (fun b => .slice (some ⟨b, 0, none⟩) 2 2) (by kernel_rfl) (by kernel_rfl) (fun _ => by kernel_rfl) fun b47 => ?_
         refine K.mv2 ?_
         obtain ⟨l48, hl48, h⟩ := bindSome h
         refine kl_apd (ys := [(92 : Int), (114 : Int)]) (encI_ok .u8) rfl ety33 (by kernel_rfl) (by kernel_rfl) (by kernel_rfl) (by kernel_rfl) (by kernel_rfl) hl48 o18 (src_blk (n := 2) (encI_ok .u8) [(92 : Int), (114 : Int)] (by kernel_rfl) rfl (by decide) 1 rfl) fun h49 A50 k51 o52 => ?_
         refine K.mv1 ?_
         refine K.drop ?_
         refine kl_steps 1 [(0, .string a0), (3, .slice A50 l48.length k51), (4, .int .i64 x19), (5, .pointer (some ⟨b23, 0, none⟩))] (by kernel_rfl) ?_
         refine k_nil ?_
         refine k_blk ?_
         refine k_then ?_
         refine K.mv1 ?_
         exact k_meet (l48, h49, A50, k51) ⟨h, o52⟩ ⟨rfl, rfl, rfl, rfl, trivial⟩ rfl
        ·have h := condF h t46
         obtain ⟨q53, hq53, h⟩ := bindSome h
         refine k_cut1 [(0, .string a0), (3, .slice A16 l14.length k17), (4, .int .i64 x19), (5, .pointer (some ⟨b23, 0, none⟩)), (6, .int .u8 (c24.toNat : Int)), (50, .bool q53)] (blk b23 (.cells #[.int .i64 r22.1, .int .i64 r22.2.1, .int .i64 r22.2.2] 50 (0, 0)) :: h15 :: X) ?_ ?_
         ·clear hq53
          refine k_cond (t := q53) (by kernel_rfl) (fun t54 => ?_) (fun t54 => ?_)
          ·have h := condT h t54
           refine k_region ?_
           refine kl_steps 11 [(0, .string a0), (3, .slice A16 l14.length k17), (4, .int .i64 x19), (5, .pointer (some ⟨b23, 0, none⟩)), (57, .slice A16 l14.length k17), (60, .int .u8 (IntKind.u8.wrap ((48 : Int) + (IntKind.u8.wrap (Int.tdiv (c24.toNat : Int) (100 : Int)))))), (64, .int .u8 (IntKind.u8.wrap ((48 : Int) + (Int.tmod (IntKind.u8.wrap (Int.tdiv (c24.toNat : Int) (10 : Int))) (10 : Int))))), (67, .int .u8 (IntKind.u8.wrap ((48 : Int) + (Int.tmod (c24.toNat : Int) (10 : Int)))))] (by kernel_rfl) ?_
           refine kl_new (.cells #[.int .u8 (92 : Int), .int .u8 (IntKind.u8.wrap ((48 : Int) + (IntKind.u8.wrap (Int.tdiv (c24.toNat : Int) (100 : Int))))), .int .u8 (IntKind.u8.wrap ((48 : Int) + (Int.tmod (IntKind.u8.wrap (Int.tdiv (c24.toNat : Int) (10 : Int))) (10 : Int)))), .int .u8 (IntKind.u8.wrap ((48 : Int) + (Int.tmod (c24.toNat : Int) (10 : Int))))] 5 (0, 0)) (fun b => .slice (some ⟨b, 0, none⟩) 4 4) (by kernel_rfl) (by kernel_rfl) (fun _ => by kernel_rfl) fun b55 => ?_
           refine K.mv2 ?_
           obtain ⟨l56, hl56, h⟩ := bindSome h
           refine kl_apd (ys := [(92 : Int), IntKind.u8.wrap ((48 : Int) + (IntKind.u8.wrap (Int.tdiv (c24.toNat : Int) (100 : Int)))), IntKind.u8.wrap ((48 : Int) + (Int.tmod (IntKind.u8.wrap (Int.tdiv (c24.toNat : Int) (10 : Int))) (10 : Int))), IntKind.u8.wrap ((48 : Int) + (Int.tmod (c24.toNat : Int) (10 : Int)))]) (encI_ok .u8) rfl ety33 (by kernel_rfl) (by kernel_rfl) (by kernel_rfl) (by kernel_rfl) (by kernel_rfl) hl56 o18 (src_blk (n := 4) (encI_ok .u8) [(92 : Int), IntKind.u8.wrap ((48 : Int) + (IntKind.u8.wrap (Int.tdiv (c24.toNat : Int) (100 : Int)))), IntKind.u8.wrap ((48 : Int) + (Int.tmod (IntKind.u8.wrap (Int.tdiv (c24.toNat : Int) (10 : Int))) (10 : Int))), IntKind.u8.wrap ((48 : Int) + (Int.tmod (c24.toNat : Int) (10 : Int)))] (by kernel_rfl) rfl (by decide) 1 rfl) fun h57 A58 k59 o60 => ?_
           refine K.mv1 ?_
           refine K.drop ?_
           refine kl_steps 1 [(0, .string a0), (3, .slice A58 l56.length k59), (4, .int .i64 x19), (5, .pointer (some ⟨b23, 0, none⟩))] (by kernel_rfl) ?_
           refine k_nil ?_
           refine k_blk ?_
           refine k_then ?_
           refine K.mv1 ?_
           exact k_meet (l56, h57, A58, k59) ⟨h, o60⟩ ⟨rfl, rfl, rfl, rfl, trivial⟩ rfl
          ·have h := condF h t54
           obtain ⟨q61, hq61, h⟩ := bindSome h
           refine k_cut1 [(0, .string a0), (3, .slice A16 l14.length k17), (4, .int .i64 x19), (5, .pointer (some ⟨b23, 0, none⟩)), (6, .int .u8 (c24.toNat : Int)), (70, .bool q61)] (blk b23 (.cells #[.int .i64 r22.1, .int .i64 r22.2.1, .int .i64 r22.2.2] 50 (0, 0)) :: h15 :: X) ?_ ?_
           ·clear hq61
            refine k_cond (t := q61) (by kernel_rfl) (fun t62 => ?_) (fun t62 => ?_)
            ·have h := condT h t62
             refine k_region ?_
             refine kl_steps 3 [(0, .string a0), (3, .slice A16 l14.length k17), (4, .int .i64 x19), (5, .pointer (some ⟨b23, 0, none⟩)), (6, .int .u8 (c24.toNat : Int)), (79, .slice A16 l14.length k17), (81, .int .u8 (IntKind.u8.wrap (Int.tdiv (c24.toNat : Int) (16 : Int))))] (by kernel_rfl) ?_
             obtain ⟨r63, hr63, h⟩ := bindSome h
             refine kl_callv (by kernel_rfl) (by kernel_rfl) (by kernel_rfl) (r11_hex.ok hr63) trivial ?_
             refine kl_steps 2 [(0, .string a0), (3, .slice A16 l14.length k17), (4, .int .i64 x19), (5, .pointer (some ⟨b23, 0, none⟩)), (79, .slice A16 l14.length k17), (82, .int .u8 r63), (84, .int .u8 (Int.tmod (c24.toNat : Int) (16 : Int)))] (by kernel_rfl) ?_
             obtain ⟨r64, hr64, h⟩ := bindSome h
             refine kl_callv (by kernel_rfl) (by kernel_rfl) (by kernel_rfl) (r11_hex.ok hr64) trivial ?_
             refine kl_new (.cells #[.int .u8 (92 : Int), .int .u8 (120 : Int), .int .u8 r63, .int .u8 r64] 5 (0, 0)) (fun b => .slice (some ⟨b, 0, none⟩) 4 4) (by kernel_rfl) (by kernel_rfl) (fun _ => by kernel_rfl) fun b65 => ?_
             refine K.mv2 ?_
             obtain ⟨l66, hl66, h⟩ := bindSome h
             refine kl_apd (ys := [(92 : Int), (120 : Int), r63, r64]) (encI_ok .u8) rfl ety33 (by kernel_rfl) (by kernel_rfl) (by kernel_rfl) (by kernel_rfl) (by kernel_rfl) hl66 o18 (src_blk (n := 4) (encI_ok .u8) [(92 : Int), (120 : Int), r63, r64] (by kernel_rfl) rfl (by decide) 1 rfl) fun h67 A68 k69 o70 => ?_
             refine K.mv1 ?_
             refine K.drop ?_
             refine kl_steps 1 [(0, .string a0), (3, .slice A68 l66.length k69), (4, .int .i64 x19), (5, .pointer (some ⟨b23, 0, none⟩))] (by kernel_rfl) ?_
             refine k_nil ?_
             refine k_blk ?_
             refine k_then ?_
             refine K.mv1 ?_
             exact k_meet (l66, h67, A68, k69) ⟨h, o70⟩ ⟨rfl, rfl, rfl, rfl, trivial⟩ rfl
            ·have h := condF h t62
             refine k_region ?_
             refine kl_steps 5 [(0, .string a0), (3, .slice A16 l14.length k17), (4, .int .i64 x19), (5, .pointer (some ⟨b23, 0, none⟩)), (18, .slice A16 l14.length k17), (19, .string a0), (20, .int .i64 x19), (21, .int .i64 x19), (22, .pointer (some ⟨b23, 1, none⟩))] (by kernel_rfl) ?_
             refine kl_load (v := .int .i64 r22.2.1) [.val (.int .i64 r22.2.1)] [.ld ⟨b23, 1, none⟩ (.int .i64 r22.2.1)] (by kernel_rfl) (by kernel_rfl) (by kernel_rfl) ⟨⟨0, _, _, _, rfl, rfl, rfl⟩, trivial⟩ ?_
             refine kl_steps 1 [(0, .string a0), (3, .slice A16 l14.length k17), (4, .int .i64 x19), (5, .pointer (some ⟨b23, 0, none⟩)), (18, .slice A16 l14.length k17), (19, .string a0), (20, .int .i64 x19), (24, .int .i64 (IntKind.i64.wrap (x19 + r22.2.1)))] (by kernel_rfl) ?_
             obtain ⟨s71, hs71, h⟩ := bindSome h
             refine kl_sstr x19 (IntKind.i64.wrap (x19 + r22.2.1)) rfl (by kernel_rfl) (by kernel_rfl) (by kernel_rfl) (.inr ⟨_, .i64, rfl, (by kernel_rfl)⟩) (.inr ⟨_, .i64, rfl, (by kernel_rfl)⟩) (by kernel_rfl) hs71 ?_
             refine K.mv1 ?_
             obtain ⟨l72, hl72, h⟩ := bindSome h
             refine kl_apd (ys := (bsI s71)) (encI_ok .u8) rfl ety33 (by kernel_rfl) (by kernel_rfl) (by kernel_rfl) (by kernel_rfl) (by kernel_rfl) hl72 o18 (fun w_ _ => src_strT s71 w_) fun h73 A74 k75 o76 => ?_
             refine kl_steps 1 [(0, .string a0), (3, .slice A74 l72.length k75), (4, .int .i64 x19), (5, .pointer (some ⟨b23, 0, none⟩))] (by kernel_rfl) ?_
             refine k_nil ?_
             refine k_blk ?_
             refine k_then ?_
             refine K.mv1 ?_
             exact k_meet (l72, h73, A74, k75) ⟨h, o76⟩ ⟨rfl, rfl, rfl, rfl, trivial⟩ rfl
           ·have h := hq61
            clear hq61
            refine k_region ?_
            refine kl_steps 1 [(0, .string a0), (3, .slice A16 l14.length k17), (4, .int .i64 x19), (5, .pointer (some ⟨b23, 0, none⟩)), (6, .int .u8 (c24.toNat : Int)), (71, .pointer (some ⟨b23, 2, none⟩))] (by kernel_rfl) ?_
            refine kl_load (v := .int .i64 r22.2.2) [.val (.int .i64 r22.2.2)] [.ld ⟨b23, 2, none⟩ (.int .i64 r22.2.2)] (by kernel_rfl) (by kernel_rfl) (by kernel_rfl) ⟨⟨0, _, _, _, rfl, rfl, rfl⟩, trivial⟩ ?_
            refine kl_steps 2 [(0, .string a0), (3, .slice A16 l14.length k17), (4, .int .i64 x19), (5, .pointer (some ⟨b23, 0, none⟩)), (6, .int .u8 (c24.toNat : Int)), (74, .bool (r22.2.2 == (65533 : Int)))] (by kernel_rfl) ?_
            rcases Bool.eq_false_or_eq_true ((r22.2.2 == (65533 : Int))) with t77 | t77
            ·have h := condT h t77
             refine K.weak (env' := [(0, .string a0), (3, .slice A16 l14.length k17), (4, .int .i64 x19), (5, .pointer (some ⟨b23, 0, none⟩)), (6, .int .u8 (c24.toNat : Int)), (74, .bool true)]) ?_ ⟨rfl, rfl, rfl, rfl, rfl, congrArg (fun b => some (Value.bool b)) t77, trivial⟩
             refine kl_steps 1 [(0, .string a0), (3, .slice A16 l14.length k17), (4, .int .i64 x19), (5, .pointer (some ⟨b23, 0, none⟩)), (6, .int .u8 (c24.toNat : Int)), (74, .bool true), (75, .pointer (some ⟨b23, 1, none⟩))] (by kernel_rfl) ?_
             refine kl_load (v := .int .i64 r22.2.1) [.val (.int .i64 r22.2.1)] [.ld ⟨b23, 1, none⟩ (.int .i64 r22.2.1)] (by kernel_rfl) (by kernel_rfl) (by kernel_rfl) ⟨⟨0, _, _, _, rfl, rfl, rfl⟩, trivial⟩ ?_
             refine kl_steps 3 [(0, .string a0), (3, .slice A16 l14.length k17), (4, .int .i64 x19), (5, .pointer (some ⟨b23, 0, none⟩)), (6, .int .u8 (c24.toNat : Int)), (70, .bool (r22.2.1 == (1 : Int)))] (by kernel_rfl) ?_
             refine k_nil ?_
             refine k_then ?_
             exact k_meet1 ⟨rfl, rfl, rfl, rfl, rfl, congrArg (fun b => some (Value.bool b)) (Option.some.inj h), trivial⟩
            ·have h := condF h t77
             refine K.weak (env' := [(0, .string a0), (3, .slice A16 l14.length k17), (4, .int .i64 x19), (5, .pointer (some ⟨b23, 0, none⟩)), (6, .int .u8 (c24.toNat : Int)), (74, .bool false)]) ?_ ⟨rfl, rfl, rfl, rfl, rfl, congrArg (fun b => some (Value.bool b)) t77, trivial⟩
             refine kl_steps 5 [(0, .string a0), (3, .slice A16 l14.length k17), (4, .int .i64 x19), (5, .pointer (some ⟨b23, 0, none⟩)), (6, .int .u8 (c24.toNat : Int)), (70, .bool false)] (by kernel_rfl) ?_
             refine k_nil ?_
             refine k_then ?_
             exact k_meet1 ⟨rfl, rfl, rfl, rfl, rfl, congrArg (fun b => some (Value.bool b)) (Option.some.inj h), trivial⟩
         ·have h := hq53
          clear hq53
          refine k_region ?_
          refine kl_steps 3 [(0, .string a0), (3, .slice A16 l14.length k17), (4, .int .i64 x19), (5, .pointer (some ⟨b23, 0, none⟩)), (6, .int .u8 (c24.toNat : Int)), (53, .bool (decide ((c24.toNat : Int) < (32 : Int))))] (by kernel_rfl) ?_
          rcases Bool.eq_false_or_eq_true (decide ((c24.toNat : Int) < (32 : Int))) with t78 | t78
          ·have h := condT h t78
           refine K.weak (env' := [(0, .string a0), (3, .slice A16 l14.length k17), (4, .int .i64 x19), (5, .pointer (some ⟨b23, 0, none⟩)), (6, .int .u8 (c24.toNat : Int)), (53, .bool true)]) ?_ ⟨rfl, rfl, rfl, rfl, rfl, congrArg (fun b => some (Value.bool b)) t78, trivial⟩
           refine kl_steps 4 [(0, .string a0), (3, .slice A16 l14.length k17), (4, .int .i64 x19), (5, .pointer (some ⟨b23, 0, none⟩)), (6, .int .u8 (c24.toNat : Int)), (50, .bool true)] (by kernel_rfl) ?_
           refine k_nil ?_
           refine k_then ?_
           exact k_meet1 ⟨rfl, rfl, rfl, rfl, rfl, congrArg (fun b => some (Value.bool b)) (Option.some.inj h), trivial⟩
          ·have h := condF h t78
           refine K.weak (env' := [(0, .string a0), (3, .slice A16 l14.length k17), (4, .int .i64 x19), (5, .pointer (some ⟨b23, 0, none⟩)), (6, .int .u8 (c24.toNat : Int)), (53, .bool false)]) ?_ ⟨rfl, rfl, rfl, rfl, rfl, congrArg (fun b => some (Value.bool b)) t78, trivial⟩
           refine kl_steps 4 [(0, .string a0), (3, .slice A16 l14.length k17), (4, .int .i64 x19), (5, .pointer (some ⟨b23, 0, none⟩)), (6, .int .u8 (c24.toNat : Int)), (50, .bool ((c24.toNat : Int) == (127 : Int)))] (by kernel_rfl) ?_
           refine k_nil ?_
           refine k_then ?_
           exact k_meet1 ⟨rfl, rfl, rfl, rfl, rfl, congrArg (fun b => some (Value.bool b)) (Option.some.inj h), trivial⟩
     ·have h := hq31
      clear hq31
      refine k_region ?_
      refine kl_steps 3 [(0, .string a0), (3, .slice A16 l14.length k17), (4, .int .i64 x19), (5, .pointer (some ⟨b23, 0, none⟩)), (6, .int .u8 (c24.toNat : Int)), (30, .bool ((c24.toNat : Int) == (92 : Int)))] (by kernel_rfl) ?_
      rcases Bool.eq_false_or_eq_true (((c24.toNat : Int) == (92 : Int))) with t79 | t79
      ·have h := condT h t79
       refine K.weak (env' := [(0, .string a0), (3, .slice A16 l14.length k17), (4, .int .i64 x19), (5, .pointer (some ⟨b23, 0, none⟩)), (6, .int .u8 (c24.toNat : Int)), (30, .bool true)]) ?_ ⟨rfl, rfl, rfl, rfl, rfl, congrArg (fun b => some (Value.bool b)) t79, trivial⟩
       refine kl_steps 4 [(0, .string a0), (3, .slice A16 l14.length k17), (4, .int .i64 x19), (5, .pointer (some ⟨b23, 0, none⟩)), (6, .int .u8 (c24.toNat : Int)), (27, .bool true)] (by kernel_rfl) ?_
       refine k_nil ?_
       refine k_then ?_
       exact k_meet1 ⟨rfl, rfl, rfl, rfl, rfl, congrArg (fun b => some (Value.bool b)) (Option.some.inj h), trivial⟩
      ·have h := condF h t79
       refine K.weak (env' := [(0, .string a0), (3, .slice A16 l14.length k17), (4, .int .i64 x19), (5, .pointer (some ⟨b23, 0, none⟩)), (6, .int .u8 (c24.toNat : Int)), (30, .bool false)]) ?_ ⟨rfl, rfl, rfl, rfl, rfl, congrArg (fun b => some (Value.bool b)) t79, trivial⟩
       refine kl_steps 4 [(0, .string a0), (3, .slice A16 l14.length k17), (4, .int .i64 x19), (5, .pointer (some ⟨b23, 0, none⟩)), (6, .int .u8 (c24.toNat : Int)), (27, .bool ((c24.toNat : Int) == (34 : Int)))] (by kernel_rfl) ?_
       refine k_nil ?_
       refine k_then ?_
       exact k_meet1 ⟨rfl, rfl, rfl, rfl, rfl, congrArg (fun b => some (Value.bool b)) (Option.some.inj h), trivial⟩
   ·have h := condF h t21
    refine k_exit ?_
    refine k_then_exit ?_
    refine k_then_exit ?_
    refine k_here ?_
    refine k_then ?_
    exact k_meet (l14, h15, A16, k17) ⟨h, o18⟩ ⟨rfl, trivial⟩ rfl
end Go.Proofs.YtoaplbeojagjcaaDoor
namespace Go.Proofs.YtoaplbeojagjcaaDoor
open Go Go.RowKit
def law11_LexQuotes.f (k : Nat) (a0 : ByteArray) : Option (Bool) := (lex_Quote.f k a0).bind fun r1 => ((law11_fixed.f k).bind fun r47 => cond (!r47) (some true) ((r11_Quote.f k a0).bind fun r49 => some (!(r1.toList == r49.toList))) : Option Bool).bind fun q2 => cond q2 (some (false)) ((cond (decide ((a0.size : Int) > (10000 : Int))) (some true) (some (decide ((r1.size : Int) > (20000 : Int)))) : Option Bool).bind fun q4 => cond q4 (some (true)) ((lex_Scan.f k r1).bind fun r6 => (cond (r6.2.1 == (0 : Int)) (cond (((r6.1.length : Nat) : Int) == (2 : Int)) ((lIdx r6.1 (0 : Int)).bind fun x15 => cond (x15.1 == (4 : Int)) ((lIdx r6.1 (0 : Int)).bind fun x23 => cond (x23.2.1.toList == a0.toList) ((lIdx r6.1 (0 : Int)).bind fun x31 => cond (x31.2.2.2 == (0 : Int)) ((lIdx r6.1 (1 : Int)).bind fun x39 => some (x39.2.2.2 == (r1.size : Int))) (some false)) (some false)) (some false)) (some false)) (some false) : Option Bool).bind fun q12 => some (q12)))
set_option maxRecDepth 100000 in
theorem law11_LexQuotes.ok {k : Nat} {a0 : ByteArray} {G : Frag} {r : Bool} (h : law11_LexQuotes.f k a0 = some r) (hG : GlT G) : Ct Tryd.prog 3 #[.string a0] [] [G] (fun e l1 => e = .returned (.bool r) ∧ l1 = []) := by
 refine ct_enter (args := [.string a0]) Tryd.func3 rfl (Nat.le_of_ble_eq_true rfl) ?_
 intro A X hh_
 obtain ⟨hm_G, _⟩ := hh_
 unfold law11_LexQuotes.f at h
 refine k_seq ?_
 refine k_region ?_
 refine kl_steps 1 [(0, .string a0)] (by kernel_rfl) ?_
 refine k_nil ?_
 refine k_then ?_
 refine k_seq ?_
 refine k_region ?_
 refine kl_steps 1 [(0, .string a0), (6, .string a0)] (by kernel_rfl) ?_
 obtain ⟨r1, hr1, h⟩ := bindSome h
 refine kl_callv (by kernel_rfl) (by kernel_rfl) (by kernel_rfl) (lex_Quote.ok hr1 hG) ⟨hm_G, trivial⟩ ?_
 refine kl_steps 1 [(0, .string a0), (3, .string r1)] (by kernel_rfl) ?_
 refine k_nil ?_
 refine k_then ?_
 refine k_seq ?_
 obtain ⟨q2, hq2, h⟩ := bindSome h
 refine k_cut1 [(0, .string a0), (3, .string r1), (15, .bool q2)] (X) ?_ ?_
 ·clear hq2
  refine k_cond (t := q2) (by kernel_rfl) (fun t3 => ?_) (fun t3 => ?_)
  ·have h := condT h t3
   refine k_seq ?_
   refine k_region ?_
   refine kl_steps 1 [(2, .bool false)] (by kernel_rfl) ?_
   refine k_nil ?_
   refine k_then ?_
   refine k_ret ?_
   refine k_then_ret ?_
   obtain rfl := Option.some.inj h
   refine k_done (v := .bool false) [] [] [] (by kernel_rfl) (by kernel_rfl) trivial ?_
   exact k_end ⟨rfl, rfl⟩
  ·have h := condF h t3
   refine k_skip ?_
   refine k_then ?_
   refine k_seq ?_
   obtain ⟨q4, hq4, h⟩ := bindSome h
   refine k_cut1 [(0, .string a0), (3, .string r1), (23, .bool q4)] (X) ?_ ?_
   ·clear hq4
    refine k_cond (t := q4) (by kernel_rfl) (fun t5 => ?_) (fun t5 => ?_)
    ·have h := condT h t5
     refine k_seq ?_
     refine k_region ?_
     refine kl_steps 1 [(2, .bool true)] (by kernel_rfl) ?_
     refine k_nil ?_
     refine k_then ?_
     refine k_ret ?_
     refine k_then_ret ?_
     obtain rfl := Option.some.inj h
     refine k_done (v := .bool true) [] [] [] (by kernel_rfl) (by kernel_rfl) trivial ?_
     exact k_end ⟨rfl, rfl⟩
    ·have h := condF h t5
     refine k_skip ?_
     refine k_then ?_
     refine k_seq ?_
     refine k_region ?_
     refine kl_steps 1 [(0, .string a0), (3, .string r1), (25, .string r1)] (by kernel_rfl) ?_
     obtain ⟨r6, hr6, h⟩ := bindSome h
     refine kl_call (X) (by kernel_rfl) (by kernel_rfl) (by kernel_rfl) (lex_Scan.okT hr6 hG) rfl ⟨hm_G, trivial⟩ ?_
     rintro _ _ ⟨h7, A8, k9, o10, rfl, rfl⟩
     refine nx_ret1 ?_
     refine kl_steps 3 [(0, .string a0), (3, .string r1), (27, .slice A8 r6.1.length k9), (28, .agg #[.int .i64 r6.2.1, .int .i64 r6.2.2])] (by kernel_rfl) ?_
     refine kl_new (.cells #[.int .i64 (0 : Int), .int .i64 (0 : Int)] 27 (0, 0)) (fun b => .pointer (some ⟨b, 0, none⟩)) (by kernel_rfl) (by kernel_rfl) (fun _ => by kernel_rfl) fun b11 => ?_
     refine kl_steps 1 [(0, .string a0), (3, .string r1), (28, .agg #[.int .i64 r6.2.1, .int .i64 r6.2.2]), (5, .pointer (some ⟨b11, 0, none⟩)), (4, .slice A8 r6.1.length k9)] (by kernel_rfl) ?_
     refine kl_store (cs' := #[.int .i64 r6.2.1, .int .i64 r6.2.2]) [.st ⟨b11, 0, none⟩ (.int .i64 r6.2.1), .st ⟨b11, 1, none⟩ (.int .i64 r6.2.2)] (by kernel_rfl) (by kernel_rfl) (by kernel_rfl) ⟨rfl, rfl, trivial⟩ (by kernel_rfl) ?_
     refine k_nil ?_
     refine k_then ?_
     obtain ⟨q12, hq12, h⟩ := bindSome h
     refine k_cut1 [(2, .bool q12)] (X) ?_ ?_
     ·clear hq12
      refine k_ret ?_
      obtain rfl := Option.some.inj h
      refine k_done (v := .bool q12) [] [] [] (by kernel_rfl) (by kernel_rfl) trivial ?_
      exact k_end ⟨rfl, rfl⟩
     ·have h := hq12
      clear hq12
      refine k_region ?_
      refine kl_steps 1 [(0, .string a0), (3, .string r1), (4, .slice A8 r6.1.length k9), (29, .pointer (some ⟨b11, 0, none⟩))] (by kernel_rfl) ?_
      refine kl_load (v := .int .i64 r6.2.1) [.val (.int .i64 r6.2.1)] [.ld ⟨b11, 0, none⟩ (.int .i64 r6.2.1)] (by kernel_rfl) (by kernel_rfl) (by kernel_rfl) ⟨⟨0, _, _, _, rfl, rfl, rfl⟩, trivial⟩ ?_
      refine K.drop ?_
      refine kl_steps 2 [(0, .string a0), (3, .string r1), (4, .slice A8 r6.1.length k9), (32, .bool (r6.2.1 == (0 : Int)))] (by kernel_rfl) ?_
      rcases Bool.eq_false_or_eq_true ((r6.2.1 == (0 : Int))) with t13 | t13
      ·have h := condT h t13
       refine K.weak (env' := [(0, .string a0), (3, .string r1), (4, .slice A8 r6.1.length k9), (32, .bool true)]) ?_ ⟨rfl, rfl, rfl, congrArg (fun b => some (Value.bool b)) t13, trivial⟩
       refine kl_steps 5 [(0, .string a0), (3, .string r1), (4, .slice A8 r6.1.length k9), (37, .bool (((r6.1.length : Nat) : Int) == (2 : Int)))] (by kernel_rfl) ?_
       rcases Bool.eq_false_or_eq_true ((((r6.1.length : Nat) : Int) == (2 : Int))) with t14 | t14
       ·have h := condT h t14
        refine K.weak (env' := [(0, .string a0), (3, .string r1), (4, .slice A8 r6.1.length k9), (37, .bool true)]) ?_ ⟨rfl, rfl, rfl, congrArg (fun b => some (Value.bool b)) t14, trivial⟩
        refine kl_steps 1 [(0, .string a0), (3, .string r1), (4, .slice A8 r6.1.length k9), (37, .bool true), (38, .slice A8 r6.1.length k9)] (by kernel_rfl) ?_
        obtain ⟨x15, hx15, h⟩ := bindSome h
        refine kl_elemP (T := 31) (kd := .i64) e31_ok rfl (by kernel_rfl) (by kernel_rfl) (by kernel_rfl) (by kernel_rfl) (by kernel_rfl) (by kernel_rfl) hx15 (OwnT.rd o10) fun p16 e17 y18 => ?_
        have e17 : Elem _ p16 [.int .i64 x15.1, .string x15.2.1, .int .i64 x15.2.2.1, .int .i64 x15.2.2.2] := e17
        refine kl_efieldP (off := 0) rfl (by kernel_rfl) (by kernel_rfl) (by kernel_rfl) (by kernel_rfl) e17 y18 fun p19 e20 y21 => ?_
        have e20 : Elem _ p19 [.int .i64 x15.1, .string x15.2.1, .int .i64 x15.2.2.1, .int .i64 x15.2.2.2] := e20
        refine kl_eload1 rfl (by kernel_rfl) (by kernel_rfl) (by kernel_rfl) (by kernel_rfl) e20 (.head _) ?_
        refine kl_steps 3 [(0, .string a0), (3, .string r1), (4, .slice A8 r6.1.length k9), (44, .bool (x15.1 == (4 : Int)))] (by kernel_rfl) ?_
        rcases Bool.eq_false_or_eq_true ((x15.1 == (4 : Int))) with t22 | t22
        ·have h := condT h t22
         refine K.weak (env' := [(0, .string a0), (3, .string r1), (4, .slice A8 r6.1.length k9), (44, .bool true)]) ?_ ⟨rfl, rfl, rfl, congrArg (fun b => some (Value.bool b)) t22, trivial⟩
         refine kl_steps 1 [(0, .string a0), (3, .string r1), (4, .slice A8 r6.1.length k9), (44, .bool true), (45, .slice A8 r6.1.length k9)] (by kernel_rfl) ?_
         obtain ⟨x23, hx23, h⟩ := bindSome h
         refine kl_elemP (T := 31) (kd := .i64) e31_ok rfl (by kernel_rfl) (by kernel_rfl) (by kernel_rfl) (by kernel_rfl) (by kernel_rfl) (by kernel_rfl) hx23 (OwnT.rd o10) fun p24 e25 y26 => ?_
         have e25 : Elem _ p24 [.int .i64 x23.1, .string x23.2.1, .int .i64 x23.2.2.1, .int .i64 x23.2.2.2] := e25
         refine kl_efieldP (off := 1) rfl (by kernel_rfl) (by kernel_rfl) (by kernel_rfl) (by kernel_rfl) e25 y26 fun p27 e28 y29 => ?_
         have e28 : Elem _ p27 [.string x23.2.1, .int .i64 x23.2.2.1, .int .i64 x23.2.2.2] := e28
         refine kl_eload1 rfl (by kernel_rfl) (by kernel_rfl) (by kernel_rfl) (by kernel_rfl) e28 (.head _) ?_
         refine kl_steps 4 [(3, .string r1), (4, .slice A8 r6.1.length k9), (52, .bool (x23.2.1.toList == a0.toList))] (by kernel_rfl) ?_
         rcases Bool.eq_false_or_eq_true ((x23.2.1.toList == a0.toList)) with t30 | t30
         ·have h := condT h t30
          refine K.weak (env' := [(3, .string r1), (4, .slice A8 r6.1.length k9), (52, .bool true)]) ?_ ⟨rfl, rfl, congrArg (fun b => some (Value.bool b)) t30, trivial⟩
          refine kl_steps 1 [(3, .string r1), (4, .slice A8 r6.1.length k9), (52, .bool true), (53, .slice A8 r6.1.length k9)] (by kernel_rfl) ?_
          obtain ⟨x31, hx31, h⟩ := bindSome h
          refine kl_elemP (T := 31) (kd := .i64) e31_ok rfl (by kernel_rfl) (by kernel_rfl) (by kernel_rfl) (by kernel_rfl) (by kernel_rfl) (by kernel_rfl) hx31 (OwnT.rd o10) fun p32 e33 y34 => ?_
          have e33 : Elem _ p32 [.int .i64 x31.1, .string x31.2.1, .int .i64 x31.2.2.1, .int .i64 x31.2.2.2] := e33
          refine kl_efieldP (off := 3) rfl (by kernel_rfl) (by kernel_rfl) (by kernel_rfl) (by kernel_rfl) e33 y34 fun p35 e36 y37 => ?_
          have e36 : Elem _ p35 [.int .i64 x31.2.2.2] := e36
          refine kl_eload1 rfl (by kernel_rfl) (by kernel_rfl) (by kernel_rfl) (by kernel_rfl) e36 (.head _) ?_
          refine kl_steps 3 [(3, .string r1), (4, .slice A8 r6.1.length k9), (59, .bool (x31.2.2.2 == (0 : Int)))] (by kernel_rfl) ?_
          rcases Bool.eq_false_or_eq_true ((x31.2.2.2 == (0 : Int))) with t38 | t38
          ·have h := condT h t38
           refine K.weak (env' := [(3, .string r1), (4, .slice A8 r6.1.length k9), (59, .bool true)]) ?_ ⟨rfl, rfl, congrArg (fun b => some (Value.bool b)) t38, trivial⟩
           refine kl_steps 1 [(3, .string r1), (59, .bool true), (60, .slice A8 r6.1.length k9)] (by kernel_rfl) ?_
           obtain ⟨x39, hx39, h⟩ := bindSome h
           refine kl_elemP (T := 31) (kd := .i64) e31_ok rfl (by kernel_rfl) (by kernel_rfl) (by kernel_rfl) (by kernel_rfl) (by kernel_rfl) (by kernel_rfl) hx39 (OwnT.rd o10) fun p40 e41 y42 => ?_
           have e41 : Elem _ p40 [.int .i64 x39.1, .string x39.2.1, .int .i64 x39.2.2.1, .int .i64 x39.2.2.2] := e41
           refine kl_efieldP (off := 3) rfl (by kernel_rfl) (by kernel_rfl) (by kernel_rfl) (by kernel_rfl) e41 y42 fun p43 e44 y45 => ?_
           have e44 : Elem _ p43 [.int .i64 x39.2.2.2] := e44
           refine kl_eload1 rfl (by kernel_rfl) (by kernel_rfl) (by kernel_rfl) (by kernel_rfl) e44 (.head _) ?_
           refine K.drop ?_
           refine kl_steps 5 [(2, .bool (x39.2.2.2 == (r1.size : Int)))] (by kernel_rfl) ?_
           refine k_nil ?_
           refine k_then ?_
           exact k_meet1 ⟨congrArg (fun b => some (Value.bool b)) (Option.some.inj h), trivial⟩
          ·have h := condF h t38
           refine K.weak (env' := [(3, .string r1), (4, .slice A8 r6.1.length k9), (59, .bool false)]) ?_ ⟨rfl, rfl, congrArg (fun b => some (Value.bool b)) t38, trivial⟩
           refine kl_steps 9 [(2, .bool false)] (by kernel_rfl) ?_
           refine k_nil ?_
           refine k_then ?_
           refine K.drop ?_
           exact k_meet1 ⟨congrArg (fun b => some (Value.bool b)) (Option.some.inj h), trivial⟩
         ·have h := condF h t30
          refine K.weak (env' := [(3, .string r1), (4, .slice A8 r6.1.length k9), (52, .bool false)]) ?_ ⟨rfl, rfl, congrArg (fun b => some (Value.bool b)) t30, trivial⟩
          refine kl_steps 16 [(2, .bool false)] (by kernel_rfl) ?_
          refine k_nil ?_
          refine k_then ?_
          refine K.drop ?_
          exact k_meet1 ⟨congrArg (fun b => some (Value.bool b)) (Option.some.inj h), trivial⟩
        ·have h := condF h t22
         refine K.weak (env' := [(0, .string a0), (3, .string r1), (4, .slice A8 r6.1.length k9), (44, .bool false)]) ?_ ⟨rfl, rfl, rfl, congrArg (fun b => some (Value.bool b)) t22, trivial⟩
         refine kl_steps 24 [(2, .bool false)] (by kernel_rfl) ?_
         refine k_nil ?_
         refine k_then ?_
         refine K.drop ?_
         exact k_meet1 ⟨congrArg (fun b => some (Value.bool b)) (Option.some.inj h), trivial⟩
       ·have h := condF h t14
        refine K.weak (env' := [(0, .string a0), (3, .string r1), (4, .slice A8 r6.1.length k9), (37, .bool false)]) ?_ ⟨rfl, rfl, rfl, congrArg (fun b => some (Value.bool b)) t14, trivial⟩
        refine kl_steps 31 [(2, .bool false)] (by kernel_rfl) ?_
        refine k_nil ?_
        refine k_then ?_
        refine K.drop ?_
        exact k_meet1 ⟨congrArg (fun b => some (Value.bool b)) (Option.some.inj h), trivial⟩
      ·have h := condF h t13
       refine K.weak (env' := [(0, .string a0), (3, .string r1), (4, .slice A8 r6.1.length k9), (32, .bool false)]) ?_ ⟨rfl, rfl, rfl, congrArg (fun b => some (Value.bool b)) t13, trivial⟩
       refine kl_steps 36 [(2, .bool false)] (by kernel_rfl) ?_
       refine k_nil ?_
       refine k_then ?_
       refine K.drop ?_
       exact k_meet1 ⟨congrArg (fun b => some (Value.bool b)) (Option.some.inj h), trivial⟩
   ·have h := hq4
    clear hq4
    refine k_region ?_
    refine kl_steps 4 [(0, .string a0), (3, .string r1), (19, .bool (decide ((a0.size : Int) > (10000 : Int))))] (by kernel_rfl) ?_
    rcases Bool.eq_false_or_eq_true (decide ((a0.size : Int) > (10000 : Int))) with t46 | t46
    ·have h := condT h t46
     refine K.weak (env' := [(0, .string a0), (3, .string r1), (19, .bool true)]) ?_ ⟨rfl, rfl, congrArg (fun b => some (Value.bool b)) t46, trivial⟩
     refine kl_steps 4 [(0, .string a0), (3, .string r1), (23, .bool true)] (by kernel_rfl) ?_
     refine k_nil ?_
     refine k_then ?_
     exact k_meet1 ⟨rfl, rfl, congrArg (fun b => some (Value.bool b)) (Option.some.inj h), trivial⟩
    ·have h := condF h t46
     refine K.weak (env' := [(0, .string a0), (3, .string r1), (19, .bool false)]) ?_ ⟨rfl, rfl, congrArg (fun b => some (Value.bool b)) t46, trivial⟩
     refine kl_steps 4 [(0, .string a0), (3, .string r1), (23, .bool (decide ((r1.size : Int) > (20000 : Int))))] (by kernel_rfl) ?_
     refine k_nil ?_
     refine k_then ?_
     exact k_meet1 ⟨rfl, rfl, congrArg (fun b => some (Value.bool b)) (Option.some.inj h), trivial⟩
 ·have h := hq2
  clear hq2
  refine k_region ?_
  obtain ⟨r47, hr47, h⟩ := bindSome h
  refine kl_callv (by kernel_rfl) (by kernel_rfl) (by kernel_rfl) (law11_fixed.okT hr47 hG) ⟨hm_G, trivial⟩ ?_
  refine kl_steps 2 [(0, .string a0), (3, .string r1), (10, .bool (!r47))] (by kernel_rfl) ?_
  rcases Bool.eq_false_or_eq_true (!r47) with t48 | t48
  ·have h := condT h t48
   refine K.weak (env' := [(0, .string a0), (3, .string r1), (10, .bool true)]) ?_ ⟨rfl, rfl, congrArg (fun b => some (Value.bool b)) t48, trivial⟩
   refine kl_steps 5 [(0, .string a0), (3, .string r1), (15, .bool true)] (by kernel_rfl) ?_
   refine k_nil ?_
   refine k_then ?_
   exact k_meet1 ⟨rfl, rfl, congrArg (fun b => some (Value.bool b)) (Option.some.inj h), trivial⟩
  ·have h := condF h t48
   refine K.weak (env' := [(0, .string a0), (3, .string r1), (10, .bool false)]) ?_ ⟨rfl, rfl, congrArg (fun b => some (Value.bool b)) t48, trivial⟩
   refine kl_steps 2 [(0, .string a0), (3, .string r1), (10, .bool false), (11, .string r1), (12, .string a0)] (by kernel_rfl) ?_
   obtain ⟨r49, hr49, h⟩ := bindSome h
   refine kl_callv (by kernel_rfl) (by kernel_rfl) (by kernel_rfl) (r11_Quote.ok hr49) trivial ?_
   refine kl_steps 2 [(0, .string a0), (3, .string r1), (15, .bool (!(r1.toList == r49.toList)))] (by kernel_rfl) ?_
   refine k_nil ?_
   refine k_then ?_
   exact k_meet1 ⟨rfl, rfl, congrArg (fun b => some (Value.bool b)) (Option.some.inj h), trivial⟩
def law11_LexPlain.l1 : Nat → (r3 : List (Int × ByteArray × Int × Int) × Int × Int) → (J14 : (List Int) → Option (Bool)) → (l79 : List Int) → (x84 : Int) → Option (Bool)
 | 0, _, _, _, _ => none
 | m85 + 1, r3, J14, l79, x84 => cond (decide (x84 < ((r3.1.length : Nat) : Int))) ((lIdx r3.1 x84).bind fun x87 => joinF (fun (x94 : ByteArray) => (apd 1 l79 (bsI x94)).bind fun l96 => (apd 1 l96 [(32 : Int)]).bind fun l102 => law11_LexPlain.l1 m85 r3 J14 l102 (IntKind.i64.wrap (x84 + (1 : Int)))) (fun J95 => (lIdx r3.1 x84).bind fun x107 => cond (x107.1 == (4 : Int)) ((lex_Quote.f m85 x87.2.1).bind fun r115 => J95 r115) (J95 x87.2.1))) (J14 l79)
def law11_LexPlain.l0 : Nat → (r3 : List (Int × ByteArray × Int × Int) × Int × Int) → (r19 : List (Int × ByteArray × Int × Int) × Int × Int) → (J27 : (Unit → Option (Bool))) → (x28 : Int) → Option (Bool)
 | 0, _, _, _, _ => none
 | m29 + 1, r3, r19, J27, x28 => cond (decide (x28 < ((r19.1.length : Nat) : Int))) (((lIdx r19.1 x28).bind fun x33 => (lIdx r3.1 x28).bind fun x40 => cond (x33.1 != x40.1) (some true) ((lIdx r19.1 x28).bind fun x48 => (lIdx r3.1 x28).bind fun x55 => cond (!(x48.2.1.toList == x55.2.1.toList)) (some true) ((lIdx r19.1 x28).bind fun x63 => (lIdx r3.1 x28).bind fun x70 => some (x63.2.2.1 != x70.2.2.1))) : Option Bool).bind fun q31 => cond q31 (some (false)) (law11_LexPlain.l0 m29 r3 r19 J27 (IntKind.i64.wrap (x28 + (1 : Int))))) (J27 ())
def law11_LexPlain.f (k : Nat) (a0 : ByteArray) : Option (Bool) := (law11_fixed.f k).bind fun r1 => cond (!r1) (some (false)) ((lex_Scan.f k a0).bind fun r3 => joinF (fun (l9 : List Int) => (cond (r3.2.1 != (0 : Int)) (some true) (some (decide (((l9.length : Nat) : Int) > (20000 : Int)))) : Option Bool).bind fun q15 => cond q15 ((cond (r3.2.1 != (0 : Int)) (some true) (some (decide (((r3.1.length : Nat) : Int) > (0 : Int)))) : Option Bool).bind fun q17 => some (q17)) ((lex_Scan.f k (strOfNums l9)).bind fun r19 => (cond (r19.2.1 != (0 : Int)) (some true) (some (((r19.1.length : Nat) : Int) != ((r3.1.length : Nat) : Int))) : Option Bool).bind fun q25 => cond q25 (some (false)) (joinF (fun (_ : Unit) => some (true)) (fun J27 => law11_LexPlain.l0 k r3 r19 J27 (0 : Int))))) (fun J14 => law11_LexPlain.l1 k r3 J14 ([]) (0 : Int)))
set_option maxRecDepth 100000 in
theorem law11_LexPlain.ok {k : Nat} {a0 : ByteArray} {G : Frag} {r : Bool} (h : law11_LexPlain.f k a0 = some r) (hG : GlT G) : Ct Tryd.prog 4 #[.string a0] [] [G] (fun e l1 => e = .returned (.bool r) ∧ l1 = []) := by
 refine ct_enter (args := [.string a0]) Tryd.func4 rfl (Nat.le_of_ble_eq_true rfl) ?_
 intro A X hh_
 obtain ⟨hm_G, _⟩ := hh_
 unfold law11_LexPlain.f at h
 refine k_seq ?_
 refine k_region ?_
 refine kl_steps 1 [(0, .string a0)] (by kernel_rfl) ?_
 refine k_nil ?_
 refine k_then ?_
 refine k_seq ?_
 refine k_seq ?_
 refine k_region ?_
 obtain ⟨r1, hr1, h⟩ := bindSome h
 refine kl_callv (by kernel_rfl) (by kernel_rfl) (by kernel_rfl) (law11_fixed.okT hr1 hG) ⟨hm_G, trivial⟩ ?_
 refine kl_steps 1 [(0, .string a0), (12, .bool (!r1))] (by kernel_rfl) ?_
 refine k_nil ?_
 refine k_then ?_
 refine k_cond (t := !r1) (by kernel_rfl) (fun t2 => ?_) (fun t2 => ?_)
 ·have h := condT h t2
  refine k_seq ?_
  refine k_region ?_
  refine kl_steps 1 [(2, .bool false)] (by kernel_rfl) ?_
  refine k_nil ?_
  refine k_then ?_
  refine k_ret ?_
  refine k_then_ret ?_
  obtain rfl := Option.some.inj h
  refine k_done (v := .bool false) [] [] [] (by kernel_rfl) (by kernel_rfl) trivial ?_
  exact k_end ⟨rfl, rfl⟩
 ·have h := condF h t2
  refine k_skip ?_
  refine k_then ?_
  refine k_seq ?_
  refine k_region ?_
  refine kl_steps 1 [(14, .string a0)] (by kernel_rfl) ?_
  obtain ⟨r3, hr3, h⟩ := bindSome h
  refine kl_call (X) (by kernel_rfl) (by kernel_rfl) (by kernel_rfl) (lex_Scan.okT hr3 hG) rfl ⟨hm_G, trivial⟩ ?_
  rintro _ _ ⟨h4, A5, k6, o7, rfl, rfl⟩
  refine nx_ret1 ?_
  refine kl_steps 3 [(16, .slice A5 r3.1.length k6), (17, .agg #[.int .i64 r3.2.1, .int .i64 r3.2.2])] (by kernel_rfl) ?_
  refine kl_new (.cells #[.int .i64 (0 : Int), .int .i64 (0 : Int)] 27 (0, 0)) (fun b => .pointer (some ⟨b, 0, none⟩)) (by kernel_rfl) (by kernel_rfl) (fun _ => by kernel_rfl) fun b8 => ?_
  refine kl_steps 1 [(17, .agg #[.int .i64 r3.2.1, .int .i64 r3.2.2]), (4, .pointer (some ⟨b8, 0, none⟩)), (3, .slice A5 r3.1.length k6)] (by kernel_rfl) ?_
  refine kl_store (cs' := #[.int .i64 r3.2.1, .int .i64 r3.2.2]) [.st ⟨b8, 0, none⟩ (.int .i64 r3.2.1), .st ⟨b8, 1, none⟩ (.int .i64 r3.2.2)] (by kernel_rfl) (by kernel_rfl) (by kernel_rfl) ⟨rfl, rfl, trivial⟩ (by kernel_rfl) ?_
  refine k_nil ?_
  refine k_then ?_
  refine k_seq ?_
  refine k_region ?_
  refine kl_steps 1 [(4, .pointer (some ⟨b8, 0, none⟩)), (3, .slice A5 r3.1.length k6), (5, .slice none 0 0)] (by kernel_rfl) ?_
  refine k_nil ?_
  refine k_then ?_
  obtain ⟨J14, hJ14, h⟩ := joinSplit h
  refine k_cut (τ := (List Int) × Frag × (Option Addr) × Nat) (fun t => [(3, .slice A5 r3.1.length k6), (4, .pointer (some ⟨b8, 0, none⟩)), (5, .slice t.2.2.1 t.1.length t.2.2.2)]) (fun t => blk b8 (.cells #[.int .i64 r3.2.1, .int .i64 r3.2.2] 27 (0, 0)) :: h4 :: t.2.1 :: X) (fun t => J14 t.1 = some r ∧ OwnT (encI .u8) 5 1 t.2.1 (.slice t.2.2.1 t.1.length t.2.2.2) t.1) ?_ ?_
  ·rintro ⟨l9, h10, A11, k12⟩ ⟨h, o13⟩
   subst hJ14
   refine k_seq ?_
   obtain ⟨q15, hq15, h⟩ := bindSome h
   refine k_cut1 [(3, .slice A5 r3.1.length k6), (4, .pointer (some ⟨b8, 0, none⟩)), (5, .slice A11 l9.length k12), (49, .bool q15)] (blk b8 (.cells #[.int .i64 r3.2.1, .int .i64 r3.2.2] 27 (0, 0)) :: h4 :: h10 :: X) ?_ ?_
   ·clear hq15
    refine k_cond (t := q15) (by kernel_rfl) (fun t16 => ?_) (fun t16 => ?_)
    ·have h := condT h t16
     obtain ⟨q17, hq17, h⟩ := bindSome h
     refine k_cut1 [(2, .bool q17)] (X) ?_ ?_
     ·clear hq17
      refine k_ret ?_
      refine k_then_ret ?_
      obtain rfl := Option.some.inj h
      refine k_done (v := .bool q17) [] [] [] (by kernel_rfl) (by kernel_rfl) trivial ?_
      exact k_end ⟨rfl, rfl⟩
     ·have h := hq17
      clear hq17
      refine k_region ?_
      refine kl_steps 1 [(3, .slice A5 r3.1.length k6), (50, .pointer (some ⟨b8, 0, none⟩))] (by kernel_rfl) ?_
      refine kl_load (v := .int .i64 r3.2.1) [.val (.int .i64 r3.2.1)] [.ld ⟨b8, 0, none⟩ (.int .i64 r3.2.1)] (by kernel_rfl) (by kernel_rfl) (by kernel_rfl) ⟨⟨0, _, _, _, rfl, rfl, rfl⟩, trivial⟩ ?_
      refine K.drop ?_
      refine K.mv1 ?_
      refine K.drop ?_
      refine kl_steps 2 [(3, .slice A5 r3.1.length k6), (53, .bool (r3.2.1 != (0 : Int)))] (by kernel_rfl) ?_
      rcases Bool.eq_false_or_eq_true ((r3.2.1 != (0 : Int))) with t18 | t18
      ·have h := condT h t18
       refine K.weak (env' := [(3, .slice A5 r3.1.length k6), (53, .bool true)]) ?_ ⟨rfl, congrArg (fun b => some (Value.bool b)) t18, trivial⟩
       refine kl_steps 5 [(2, .bool true)] (by kernel_rfl) ?_
       refine k_nil ?_
       refine k_then ?_
       refine K.drop ?_
       exact k_meet1 ⟨congrArg (fun b => some (Value.bool b)) (Option.some.inj h), trivial⟩
      ·have h := condF h t18
       refine K.weak (env' := [(3, .slice A5 r3.1.length k6), (53, .bool false)]) ?_ ⟨rfl, congrArg (fun b => some (Value.bool b)) t18, trivial⟩
       refine kl_steps 5 [(2, .bool (decide (((r3.1.length : Nat) : Int) > (0 : Int))))] (by kernel_rfl) ?_
       refine k_nil ?_
       refine k_then ?_
       refine K.drop ?_
       exact k_meet1 ⟨congrArg (fun b => some (Value.bool b)) (Option.some.inj h), trivial⟩
    ·have h := condF h t16
     refine k_skip ?_
     refine k_then ?_
     refine k_seq ?_
     refine k_region ?_
     refine kl_steps 1 [(3, .slice A5 r3.1.length k6), (59, .slice A11 l9.length k12)] (by kernel_rfl) ?_
     refine kl_string (U := 5) (xs := l9) rfl (by kernel_rfl) (by kernel_rfl) (by kernel_rfl) (by kernel_rfl) (by kernel_rfl) (by kernel_rfl) (OwnT.rd o13) (.tail _ (.tail _ (.head _))) ?_
     refine K.drop ?_
     refine K.mv1 ?_
     refine K.drop ?_
     obtain ⟨r19, hr19, h⟩ := bindSome h
     refine kl_call (h4 :: X) (by kernel_rfl) (by kernel_rfl) (by kernel_rfl) (lex_Scan.okT hr19 hG) rfl ⟨(.tail _ hm_G), trivial⟩ ?_
     rintro _ _ ⟨h20, A21, k22, o23, rfl, rfl⟩
     refine nx_ret1 ?_
     refine kl_steps 3 [(3, .slice A5 r3.1.length k6), (62, .slice A21 r19.1.length k22), (63, .agg #[.int .i64 r19.2.1, .int .i64 r19.2.2])] (by kernel_rfl) ?_
     refine kl_new (.cells #[.int .i64 (0 : Int), .int .i64 (0 : Int)] 27 (0, 0)) (fun b => .pointer (some ⟨b, 0, none⟩)) (by kernel_rfl) (by kernel_rfl) (fun _ => by kernel_rfl) fun b24 => ?_
     refine kl_steps 1 [(3, .slice A5 r3.1.length k6), (63, .agg #[.int .i64 r19.2.1, .int .i64 r19.2.2]), (9, .pointer (some ⟨b24, 0, none⟩)), (8, .slice A21 r19.1.length k22)] (by kernel_rfl) ?_
     refine kl_store (cs' := #[.int .i64 r19.2.1, .int .i64 r19.2.2]) [.st ⟨b24, 0, none⟩ (.int .i64 r19.2.1), .st ⟨b24, 1, none⟩ (.int .i64 r19.2.2)] (by kernel_rfl) (by kernel_rfl) (by kernel_rfl) ⟨rfl, rfl, trivial⟩ (by kernel_rfl) ?_
     refine k_nil ?_
     refine k_then ?_
     refine k_seq ?_
     obtain ⟨q25, hq25, h⟩ := bindSome h
     refine k_cut1 [(3, .slice A5 r3.1.length k6), (8, .slice A21 r19.1.length k22), (73, .bool q25)] (h20 :: h4 :: X) ?_ ?_
     ·clear hq25
      refine k_cond (t := q25) (by kernel_rfl) (fun t26 => ?_) (fun t26 => ?_)
      ·have h := condT h t26
       refine k_seq ?_
       refine k_region ?_
       refine kl_steps 1 [(2, .bool false)] (by kernel_rfl) ?_
       refine k_nil ?_
       refine k_then ?_
       refine k_ret ?_
       refine k_then_ret ?_
       obtain rfl := Option.some.inj h
       refine k_done (v := .bool false) [] [] [] (by kernel_rfl) (by kernel_rfl) trivial ?_
       refine K.drop ?_
       refine K.drop ?_
       exact k_end ⟨rfl, rfl⟩
      ·have h := condF h t26
       refine k_skip ?_
       refine k_then ?_
       obtain ⟨J27, hJ27, h⟩ := joinSplit h
       refine k_cut (τ := Unit) (fun t => []) (fun t => X) (fun t => J27 () = some r) ?_ ?_
       ·rintro ⟨⟩ h
        subst hJ27
        refine k_seq ?_
        refine k_region ?_
        refine kl_steps 1 [(2, .bool true)] (by kernel_rfl) ?_
        refine k_nil ?_
        refine k_then ?_
        refine k_ret ?_
        obtain rfl := Option.some.inj h
        refine k_done (v := .bool true) [] [] [] (by kernel_rfl) (by kernel_rfl) trivial ?_
        exact k_end ⟨rfl, rfl⟩
       ·skip
        refine k_seq ?_
        refine k_region ?_
        refine kl_steps 1 [(3, .slice A5 r3.1.length k6), (8, .slice A21 r19.1.length k22), (10, .int .i64 (0 : Int))] (by kernel_rfl) ?_
        refine k_nil ?_
        refine k_then ?_
        refine k_block ?_
        refine k_loop (τ := Int) (fun t => [(3, .slice A5 r3.1.length k6), (8, .slice A21 r19.1.length k22), (10, .int .i64 t)]) (fun t => h20 :: h4 :: X) (fun m t => law11_LexPlain.l0 m r3 r19 J27 t = some r) k (0 : Int) h ⟨rfl, rfl, rfl, trivial⟩ rfl ?_
        clear h
        rintro m29 x28 h
        cases m29 with
        | zero => simp [law11_LexPlain.l0] at h
        | succ m29 =>
         simp only [law11_LexPlain.l0] at h
         refine k_seq ?_
         refine k_seq ?_
         refine k_region ?_
         refine kl_steps 4 [(3, .slice A5 r3.1.length k6), (8, .slice A21 r19.1.length k22), (10, .int .i64 x28), (77, .bool (decide (x28 < ((r19.1.length : Nat) : Int))))] (by kernel_rfl) ?_
         refine k_nil ?_
         refine k_then ?_
         refine k_cond (t := decide (x28 < ((r19.1.length : Nat) : Int))) (by kernel_rfl) (fun t30 => ?_) (fun t30 => ?_)
         ·have h := condT h t30
          refine k_skip ?_
          refine k_then ?_
          refine k_seq ?_
          refine k_block ?_
          obtain ⟨q31, hq31, h⟩ := bindSome h
          refine k_cut1 [(3, .slice A5 r3.1.length k6), (8, .slice A21 r19.1.length k22), (10, .int .i64 x28), (116, .bool q31)] (h20 :: h4 :: X) ?_ ?_
          ·clear hq31
           refine k_cond (t := q31) (by kernel_rfl) (fun t32 => ?_) (fun t32 => ?_)
           ·have h := condT h t32
            refine k_seq ?_
            refine k_region ?_
            refine kl_steps 1 [(2, .bool false)] (by kernel_rfl) ?_
            refine k_nil ?_
            refine k_then ?_
            refine k_ret ?_
            refine k_blk_ret ?_
            refine k_then_ret ?_
            refine k_then_ret ?_
            refine k_blk_ret ?_
            refine k_then_ret ?_
            obtain rfl := Option.some.inj h
            refine k_done (v := .bool false) [] [] [] (by kernel_rfl) (by kernel_rfl) trivial ?_
            refine K.drop ?_
            refine K.drop ?_
            exact k_end ⟨rfl, rfl⟩
           ·have h := condF h t32
            refine k_skip ?_
            refine k_blk ?_
            refine k_then ?_
            refine k_region ?_
            refine kl_steps 3 [(3, .slice A5 r3.1.length k6), (8, .slice A21 r19.1.length k22), (10, .int .i64 (IntKind.i64.wrap (x28 + (1 : Int))))] (by kernel_rfl) ?_
            refine k_nil ?_
            refine k_then ?_
            exact k_again m29 (IntKind.i64.wrap (x28 + (1 : Int))) (Nat.lt_succ_self _) h ⟨rfl, rfl, rfl, trivial⟩ rfl
          ·have h := hq31
           clear hq31
           refine k_region_plan [(0, 0), (1, 0), (2, 0), (3, 0), (4, 3), (5, 0), (6, 0), (7, 0), (8, 0), (9, 3), (10, 0), (11, 0), (12, 0), (13, 0), (14, 0), (15, 0), (16, 3), (17, 0), (18, 0), (19, 0), (20, 0), (21, 3), (22, 0), (23, 0), (24, 0), (25, 0), (26, 0), (27, 0), (28, 0), (29, 3), (30, 0), (31, 0), (32, 0), (33, 0), (34, 3)] (fun w => OnAll [h20, h4] w) (by kernel_rfl) (by kernel_rfl) (fun _ _ d _ _ h => by cases d <;> exact h) (fun w h_ => ⟨h_.sat.on _ (.head _), h_.sat.on _ (.tail _ (.head _)), trivial⟩) ?_
           simp only [planOps, List.filterMap_cons, List.filterMap_nil, List.getElem?_toArray, List.getElem?_cons_zero, List.getElem?_cons_succ, Option.map_some, List.drop_succ_cons, List.drop_zero, List.length_cons, List.length_nil]
           refine kp_steps 2 [(3, .slice A5 r3.1.length k6), (8, .slice A21 r19.1.length k22), (10, .int .i64 x28), (80, .slice A21 r19.1.length k22), (81, .int .i64 x28)] (by kernel_rfl) (by kernel_rfl) ?_
           obtain ⟨x33, hx33, h⟩ := bindSome h
           refine kp_elemP (T := 31) (kd := .i64) e31_ok rfl (by kernel_rfl) (by kernel_rfl) (by kernel_rfl) (by kernel_rfl) (by kernel_rfl) (by kernel_rfl) hx33 (OwnT.rd o23) fun p34 e35 y36 => ?_
           have e35 : Elem _ p34 [.int .i64 x33.1, .string x33.2.1, .int .i64 x33.2.2.1, .int .i64 x33.2.2.2] := e35
           refine kp_efieldP (off := 0) rfl (by kernel_rfl) (by kernel_rfl) (by kernel_rfl) (by kernel_rfl) e35 y36 fun p37 e38 y39 => ?_
           have e38 : Elem _ p37 [.int .i64 x33.1, .string x33.2.1, .int .i64 x33.2.2.1, .int .i64 x33.2.2.2] := e38
           refine kp_eload1 rfl (by kernel_rfl) (by kernel_rfl) (by kernel_rfl) (by kernel_rfl) e38 (fun w h_ => h_.mem _ (.head _)) ?_
           refine kp_steps 2 [(3, .slice A5 r3.1.length k6), (8, .slice A21 r19.1.length k22), (10, .int .i64 x28), (84, .int .i64 x33.1), (85, .slice A5 r3.1.length k6), (86, .int .i64 x28)] (by kernel_rfl) (by kernel_rfl) ?_
           obtain ⟨x40, hx40, h⟩ := bindSome h
           refine kp_elemP (T := 31) (kd := .i64) e31_ok rfl (by kernel_rfl) (by kernel_rfl) (by kernel_rfl) (by kernel_rfl) (by kernel_rfl) (by kernel_rfl) hx40 (OwnT.rd o7) fun p41 e42 y43 => ?_
           have e42 : Elem _ p41 [.int .i64 x40.1, .string x40.2.1, .int .i64 x40.2.2.1, .int .i64 x40.2.2.2] := e42
           refine kp_efieldP (off := 0) rfl (by kernel_rfl) (by kernel_rfl) (by kernel_rfl) (by kernel_rfl) e42 y43 fun p44 e45 y46 => ?_
           have e45 : Elem _ p44 [.int .i64 x40.1, .string x40.2.1, .int .i64 x40.2.2.1, .int .i64 x40.2.2.2] := e45
           refine kp_eload1 rfl (by kernel_rfl) (by kernel_rfl) (by kernel_rfl) (by kernel_rfl) e45 (fun w h_ => h_.mem _ (.tail _ (.head _))) ?_
           refine kp_steps 2 [(3, .slice A5 r3.1.length k6), (8, .slice A21 r19.1.length k22), (10, .int .i64 x28), (91, .bool (x33.1 != x40.1))] (by kernel_rfl) (by kernel_rfl) ?_
           rcases Bool.eq_false_or_eq_true ((x33.1 != x40.1)) with t47 | t47
           ·have h := condT h t47
            refine K.weak (env' := [(3, .slice A5 r3.1.length k6), (8, .slice A21 r19.1.length k22), (10, .int .i64 x28), (91, .bool true)]) ?_ ⟨rfl, rfl, rfl, congrArg (fun b => some (Value.bool b)) t47, trivial⟩
            refine kp_steps 4 [(3, .slice A5 r3.1.length k6), (8, .slice A21 r19.1.length k22), (10, .int .i64 x28), (91, .bool true), (95, undef)] (by kernel_rfl) (by kernel_rfl) ?_
            refine kp_skip3 (by kernel_rfl) (by kernel_rfl) ?_
            refine kp_steps 4 [(3, .slice A5 r3.1.length k6), (8, .slice A21 r19.1.length k22), (10, .int .i64 x28), (91, .bool true), (96, undef), (100, undef)] (by kernel_rfl) (by kernel_rfl) ?_
            refine kp_skip3 (by kernel_rfl) (by kernel_rfl) ?_
            refine kp_steps 7 [(3, .slice A5 r3.1.length k6), (8, .slice A21 r19.1.length k22), (10, .int .i64 x28), (104, .bool true), (108, undef)] (by kernel_rfl) (by kernel_rfl) ?_
            refine kp_skip3 (by kernel_rfl) (by kernel_rfl) ?_
            refine kp_steps 4 [(3, .slice A5 r3.1.length k6), (8, .slice A21 r19.1.length k22), (10, .int .i64 x28), (104, .bool true), (109, undef), (113, undef)] (by kernel_rfl) (by kernel_rfl) ?_
            refine kp_skip3 (by kernel_rfl) (by kernel_rfl) ?_
            refine kp_done ?_
            refine kl_steps 2 [(3, .slice A5 r3.1.length k6), (8, .slice A21 r19.1.length k22), (10, .int .i64 x28), (116, .bool true)] (by kernel_rfl) ?_
            refine k_nil ?_
            refine k_then ?_
            exact k_meet1 ⟨rfl, rfl, rfl, congrArg (fun b => some (Value.bool b)) (Option.some.inj h), trivial⟩
           ·have h := condF h t47
            refine K.weak (env' := [(3, .slice A5 r3.1.length k6), (8, .slice A21 r19.1.length k22), (10, .int .i64 x28), (91, .bool false)]) ?_ ⟨rfl, rfl, rfl, congrArg (fun b => some (Value.bool b)) t47, trivial⟩
            refine kp_steps 2 [(3, .slice A5 r3.1.length k6), (8, .slice A21 r19.1.length k22), (10, .int .i64 x28), (91, .bool false), (92, .slice A21 r19.1.length k22), (93, .int .i64 x28)] (by kernel_rfl) (by kernel_rfl) ?_
            obtain ⟨x48, hx48, h⟩ := bindSome h
            refine kp_elemP (T := 31) (kd := .i64) e31_ok rfl (by kernel_rfl) (by kernel_rfl) (by kernel_rfl) (by kernel_rfl) (by kernel_rfl) (by kernel_rfl) hx48 (OwnT.rd o23) fun p49 e50 y51 => ?_
            have e50 : Elem _ p49 [.int .i64 x48.1, .string x48.2.1, .int .i64 x48.2.2.1, .int .i64 x48.2.2.2] := e50
            refine kp_efieldP (off := 1) rfl (by kernel_rfl) (by kernel_rfl) (by kernel_rfl) (by kernel_rfl) e50 y51 fun p52 e53 y54 => ?_
            have e53 : Elem _ p52 [.string x48.2.1, .int .i64 x48.2.2.1, .int .i64 x48.2.2.2] := e53
            refine kp_eload1 rfl (by kernel_rfl) (by kernel_rfl) (by kernel_rfl) (by kernel_rfl) e53 (fun w h_ => h_.mem _ (.head _)) ?_
            refine kp_steps 2 [(3, .slice A5 r3.1.length k6), (8, .slice A21 r19.1.length k22), (10, .int .i64 x28), (91, .bool false), (96, .string x48.2.1), (97, .slice A5 r3.1.length k6), (98, .int .i64 x28)] (by kernel_rfl) (by kernel_rfl) ?_
            obtain ⟨x55, hx55, h⟩ := bindSome h
            refine kp_elemP (T := 31) (kd := .i64) e31_ok rfl (by kernel_rfl) (by kernel_rfl) (by kernel_rfl) (by kernel_rfl) (by kernel_rfl) (by kernel_rfl) hx55 (OwnT.rd o7) fun p56 e57 y58 => ?_
            have e57 : Elem _ p56 [.int .i64 x55.1, .string x55.2.1, .int .i64 x55.2.2.1, .int .i64 x55.2.2.2] := e57
            refine kp_efieldP (off := 1) rfl (by kernel_rfl) (by kernel_rfl) (by kernel_rfl) (by kernel_rfl) e57 y58 fun p59 e60 y61 => ?_
            have e60 : Elem _ p59 [.string x55.2.1, .int .i64 x55.2.2.1, .int .i64 x55.2.2.2] := e60
            refine kp_eload1 rfl (by kernel_rfl) (by kernel_rfl) (by kernel_rfl) (by kernel_rfl) e60 (fun w h_ => h_.mem _ (.tail _ (.head _))) ?_
            refine kp_steps 3 [(3, .slice A5 r3.1.length k6), (8, .slice A21 r19.1.length k22), (10, .int .i64 x28), (104, .bool (!(x48.2.1.toList == x55.2.1.toList)))] (by kernel_rfl) (by kernel_rfl) ?_
            rcases Bool.eq_false_or_eq_true (!(x48.2.1.toList == x55.2.1.toList)) with t62 | t62
            ·have h := condT h t62
             refine K.weak (env' := [(3, .slice A5 r3.1.length k6), (8, .slice A21 r19.1.length k22), (10, .int .i64 x28), (104, .bool true)]) ?_ ⟨rfl, rfl, rfl, congrArg (fun b => some (Value.bool b)) t62, trivial⟩
             refine kp_steps 4 [(3, .slice A5 r3.1.length k6), (8, .slice A21 r19.1.length k22), (10, .int .i64 x28), (104, .bool true), (108, undef)] (by kernel_rfl) (by kernel_rfl) ?_
             refine kp_skip3 (by kernel_rfl) (by kernel_rfl) ?_
             refine kp_steps 4 [(3, .slice A5 r3.1.length k6), (8, .slice A21 r19.1.length k22), (10, .int .i64 x28), (104, .bool true), (109, undef), (113, undef)] (by kernel_rfl) (by kernel_rfl) ?_
             refine kp_skip3 (by kernel_rfl) (by kernel_rfl) ?_
             refine kp_done ?_
             refine kl_steps 2 [(3, .slice A5 r3.1.length k6), (8, .slice A21 r19.1.length k22), (10, .int .i64 x28), (116, .bool true)] (by kernel_rfl) ?_
             refine k_nil ?_
             refine k_then ?_
             exact k_meet1 ⟨rfl, rfl, rfl, congrArg (fun b => some (Value.bool b)) (Option.some.inj h), trivial⟩
            ·have h := condF h t62
             refine K.weak (env' := [(3, .slice A5 r3.1.length k6), (8, .slice A21 r19.1.length k22), (10, .int .i64 x28), (104, .bool false)]) ?_ ⟨rfl, rfl, rfl, congrArg (fun b => some (Value.bool b)) t62, trivial⟩
             refine kp_steps 2 [(3, .slice A5 r3.1.length k6), (8, .slice A21 r19.1.length k22), (10, .int .i64 x28), (104, .bool false), (105, .slice A21 r19.1.length k22), (106, .int .i64 x28)] (by kernel_rfl) (by kernel_rfl) ?_
             obtain ⟨x63, hx63, h⟩ := bindSome h
             refine kp_elemP (T := 31) (kd := .i64) e31_ok rfl (by kernel_rfl) (by kernel_rfl) (by kernel_rfl) (by kernel_rfl) (by kernel_rfl) (by kernel_rfl) hx63 (OwnT.rd o23) fun p64 e65 y66 => ?_
             have e65 : Elem _ p64 [.int .i64 x63.1, .string x63.2.1, .int .i64 x63.2.2.1, .int .i64 x63.2.2.2] := e65
             refine kp_efieldP (off := 2) rfl (by kernel_rfl) (by kernel_rfl) (by kernel_rfl) (by kernel_rfl) e65 y66 fun p67 e68 y69 => ?_
             have e68 : Elem _ p67 [.int .i64 x63.2.2.1, .int .i64 x63.2.2.2] := e68
             refine kp_eload1 rfl (by kernel_rfl) (by kernel_rfl) (by kernel_rfl) (by kernel_rfl) e68 (fun w h_ => h_.mem _ (.head _)) ?_
             refine kp_steps 2 [(3, .slice A5 r3.1.length k6), (8, .slice A21 r19.1.length k22), (10, .int .i64 x28), (104, .bool false), (109, .int .i64 x63.2.2.1), (110, .slice A5 r3.1.length k6), (111, .int .i64 x28)] (by kernel_rfl) (by kernel_rfl) ?_
             obtain ⟨x70, hx70, h⟩ := bindSome h
             refine kp_elemP (T := 31) (kd := .i64) e31_ok rfl (by kernel_rfl) (by kernel_rfl) (by kernel_rfl) (by kernel_rfl) (by kernel_rfl) (by kernel_rfl) hx70 (OwnT.rd o7) fun p71 e72 y73 => ?_
             have e72 : Elem _ p71 [.int .i64 x70.1, .string x70.2.1, .int .i64 x70.2.2.1, .int .i64 x70.2.2.2] := e72
             refine kp_efieldP (off := 2) rfl (by kernel_rfl) (by kernel_rfl) (by kernel_rfl) (by kernel_rfl) e72 y73 fun p74 e75 y76 => ?_
             have e75 : Elem _ p74 [.int .i64 x70.2.2.1, .int .i64 x70.2.2.2] := e75
             refine kp_eload1 rfl (by kernel_rfl) (by kernel_rfl) (by kernel_rfl) (by kernel_rfl) e75 (fun w h_ => h_.mem _ (.tail _ (.head _))) ?_
             refine kp_done ?_
             refine kl_steps 2 [(3, .slice A5 r3.1.length k6), (8, .slice A21 r19.1.length k22), (10, .int .i64 x28), (116, .bool (x63.2.2.1 != x70.2.2.1))] (by kernel_rfl) ?_
             refine k_nil ?_
             refine k_then ?_
             exact k_meet1 ⟨rfl, rfl, rfl, congrArg (fun b => some (Value.bool b)) (Option.some.inj h), trivial⟩
         ·have h := condF h t30
          refine k_exit ?_
          refine k_then_exit ?_
          refine k_then_exit ?_
          refine k_here ?_
          refine k_then ?_
          refine K.drop ?_
          refine K.drop ?_
          exact k_meet () h trivial rfl
     ·have h := hq25
      clear hq25
      refine k_region ?_
      refine kl_steps 1 [(3, .slice A5 r3.1.length k6), (8, .slice A21 r19.1.length k22), (64, .pointer (some ⟨b24, 0, none⟩))] (by kernel_rfl) ?_
      refine kl_load (v := .int .i64 r19.2.1) [.val (.int .i64 r19.2.1)] [.ld ⟨b24, 0, none⟩ (.int .i64 r19.2.1)] (by kernel_rfl) (by kernel_rfl) (by kernel_rfl) ⟨⟨0, _, _, _, rfl, rfl, rfl⟩, trivial⟩ ?_
      refine K.drop ?_
      refine kl_steps 2 [(3, .slice A5 r3.1.length k6), (8, .slice A21 r19.1.length k22), (67, .bool (r19.2.1 != (0 : Int)))] (by kernel_rfl) ?_
      rcases Bool.eq_false_or_eq_true ((r19.2.1 != (0 : Int))) with t77 | t77
      ·have h := condT h t77
       refine K.weak (env' := [(3, .slice A5 r3.1.length k6), (8, .slice A21 r19.1.length k22), (67, .bool true)]) ?_ ⟨rfl, rfl, congrArg (fun b => some (Value.bool b)) t77, trivial⟩
       refine kl_steps 6 [(3, .slice A5 r3.1.length k6), (8, .slice A21 r19.1.length k22), (73, .bool true)] (by kernel_rfl) ?_
       refine k_nil ?_
       refine k_then ?_
       exact k_meet1 ⟨rfl, rfl, congrArg (fun b => some (Value.bool b)) (Option.some.inj h), trivial⟩
      ·have h := condF h t77
       refine K.weak (env' := [(3, .slice A5 r3.1.length k6), (8, .slice A21 r19.1.length k22), (67, .bool false)]) ?_ ⟨rfl, rfl, congrArg (fun b => some (Value.bool b)) t77, trivial⟩
       refine kl_steps 6 [(3, .slice A5 r3.1.length k6), (8, .slice A21 r19.1.length k22), (73, .bool (((r19.1.length : Nat) : Int) != ((r3.1.length : Nat) : Int)))] (by kernel_rfl) ?_
       refine k_nil ?_
       refine k_then ?_
       exact k_meet1 ⟨rfl, rfl, congrArg (fun b => some (Value.bool b)) (Option.some.inj h), trivial⟩
   ·have h := hq15
    clear hq15
    refine k_region ?_
    refine kl_steps 1 [(3, .slice A5 r3.1.length k6), (4, .pointer (some ⟨b8, 0, none⟩)), (5, .slice A11 l9.length k12), (42, .pointer (some ⟨b8, 0, none⟩))] (by kernel_rfl) ?_
    refine kl_load (v := .int .i64 r3.2.1) [.val (.int .i64 r3.2.1)] [.ld ⟨b8, 0, none⟩ (.int .i64 r3.2.1)] (by kernel_rfl) (by kernel_rfl) (by kernel_rfl) ⟨⟨0, _, _, _, rfl, rfl, rfl⟩, trivial⟩ ?_
    refine kl_steps 2 [(3, .slice A5 r3.1.length k6), (4, .pointer (some ⟨b8, 0, none⟩)), (5, .slice A11 l9.length k12), (45, .bool (r3.2.1 != (0 : Int)))] (by kernel_rfl) ?_
    rcases Bool.eq_false_or_eq_true ((r3.2.1 != (0 : Int))) with t78 | t78
    ·have h := condT h t78
     refine K.weak (env' := [(3, .slice A5 r3.1.length k6), (4, .pointer (some ⟨b8, 0, none⟩)), (5, .slice A11 l9.length k12), (45, .bool true)]) ?_ ⟨rfl, rfl, rfl, congrArg (fun b => some (Value.bool b)) t78, trivial⟩
     refine kl_steps 4 [(3, .slice A5 r3.1.length k6), (4, .pointer (some ⟨b8, 0, none⟩)), (5, .slice A11 l9.length k12), (49, .bool true)] (by kernel_rfl) ?_
     refine k_nil ?_
     refine k_then ?_
     exact k_meet1 ⟨rfl, rfl, rfl, congrArg (fun b => some (Value.bool b)) (Option.some.inj h), trivial⟩
    ·have h := condF h t78
     refine K.weak (env' := [(3, .slice A5 r3.1.length k6), (4, .pointer (some ⟨b8, 0, none⟩)), (5, .slice A11 l9.length k12), (45, .bool false)]) ?_ ⟨rfl, rfl, rfl, congrArg (fun b => some (Value.bool b)) t78, trivial⟩
     refine kl_steps 4 [(3, .slice A5 r3.1.length k6), (4, .pointer (some ⟨b8, 0, none⟩)), (5, .slice A11 l9.length k12), (49, .bool (decide (((l9.length : Nat) : Int) > (20000 : Int))))] (by kernel_rfl) ?_
     refine k_nil ?_
     refine k_then ?_
     exact k_meet1 ⟨rfl, rfl, rfl, congrArg (fun b => some (Value.bool b)) (Option.some.inj h), trivial⟩
  ·skip
   refine k_seq ?_
   refine k_region ?_
   refine kl_steps 1 [(4, .pointer (some ⟨b8, 0, none⟩)), (3, .slice A5 r3.1.length k6), (5, .slice none 0 0), (6, .int .i64 (0 : Int))] (by kernel_rfl) ?_
   refine k_nil ?_
   refine k_then ?_
   refine k_block ?_
   refine k_none ?_
   refine K.mv2 ?_
   refine K.mv2 ?_
   refine k_loop (τ := (List Int) × Int × Frag × (Option Addr) × Nat) (fun t => [(3, .slice A5 r3.1.length k6), (4, .pointer (some ⟨b8, 0, none⟩)), (5, .slice t.2.2.2.1 t.1.length t.2.2.2.2), (6, .int .i64 t.2.1)]) (fun t => blk b8 (.cells #[.int .i64 r3.2.1, .int .i64 r3.2.2] 27 (0, 0)) :: h4 :: t.2.2.1 :: X) (fun m t => law11_LexPlain.l1 m r3 J14 t.1 t.2.1 = some r ∧ OwnT (encI .u8) 5 1 t.2.2.1 (.slice t.2.2.2.1 t.1.length t.2.2.2.2) t.1) k ([], (0 : Int), none_, none, 0) ⟨h, (OwnT.nil (encI .u8) 5 1 none_)⟩ ⟨rfl, rfl, rfl, rfl, trivial⟩ rfl ?_
   clear h
   rintro m85 ⟨l79, x84, h80, A81, k82⟩ ⟨h, o83⟩
   cases m85 with
   | zero => simp [law11_LexPlain.l1] at h
   | succ m85 =>
    simp only [law11_LexPlain.l1] at h
    refine k_seq ?_
    refine k_seq ?_
    refine k_region ?_
    refine kl_steps 4 [(3, .slice A5 r3.1.length k6), (4, .pointer (some ⟨b8, 0, none⟩)), (5, .slice A81 l79.length k82), (6, .int .i64 x84), (21, .bool (decide (x84 < ((r3.1.length : Nat) : Int))))] (by kernel_rfl) ?_
    refine k_nil ?_
    refine k_then ?_
    refine k_cond (t := decide (x84 < ((r3.1.length : Nat) : Int))) (by kernel_rfl) (fun t86 => ?_) (fun t86 => ?_)
    ·have h := condT h t86
     refine k_skip ?_
     refine k_then ?_
     refine k_seq ?_
     refine k_block ?_
     refine k_seq ?_
     refine k_region ?_
     refine kl_steps 2 [(3, .slice A5 r3.1.length k6), (4, .pointer (some ⟨b8, 0, none⟩)), (5, .slice A81 l79.length k82), (6, .int .i64 x84), (24, .slice A5 r3.1.length k6), (25, .int .i64 x84)] (by kernel_rfl) ?_
     obtain ⟨x87, hx87, h⟩ := bindSome h
     refine kl_elemP (T := 31) (kd := .i64) e31_ok rfl (by kernel_rfl) (by kernel_rfl) (by kernel_rfl) (by kernel_rfl) (by kernel_rfl) (by kernel_rfl) hx87 (OwnT.rd o7) fun p88 e89 y90 => ?_
     have e89 : Elem _ p88 [.int .i64 x87.1, .string x87.2.1, .int .i64 x87.2.2.1, .int .i64 x87.2.2.2] := e89
     refine kl_efieldP (off := 1) rfl (by kernel_rfl) (by kernel_rfl) (by kernel_rfl) (by kernel_rfl) e89 y90 fun p91 e92 y93 => ?_
     have e92 : Elem _ p91 [.string x87.2.1, .int .i64 x87.2.2.1, .int .i64 x87.2.2.2] := e92
     refine kl_eload1 rfl (by kernel_rfl) (by kernel_rfl) (by kernel_rfl) (by kernel_rfl) e92 (.tail _ (.head _)) ?_
     refine kl_steps 1 [(3, .slice A5 r3.1.length k6), (4, .pointer (some ⟨b8, 0, none⟩)), (5, .slice A81 l79.length k82), (6, .int .i64 x84), (7, .string x87.2.1)] (by kernel_rfl) ?_
     refine k_nil ?_
     refine k_then ?_
     obtain ⟨J95, hJ95, h⟩ := joinSplit h
     refine k_cut (τ := ByteArray) (fun t => [(3, .slice A5 r3.1.length k6), (4, .pointer (some ⟨b8, 0, none⟩)), (5, .slice A81 l79.length k82), (6, .int .i64 x84), (7, .string t)]) (fun t => blk b8 (.cells #[.int .i64 r3.2.1, .int .i64 r3.2.2] 27 (0, 0)) :: h4 :: h80 :: X) (fun t => J95 t = some r) ?_ ?_
     ·rintro x94 h
      subst hJ95
      refine k_region ?_
      refine kl_steps 2 [(3, .slice A5 r3.1.length k6), (4, .pointer (some ⟨b8, 0, none⟩)), (5, .slice A81 l79.length k82), (6, .int .i64 x84), (37, .slice A81 l79.length k82), (38, .string x94)] (by kernel_rfl) ?_
      refine K.mv2 ?_
      obtain ⟨l96, hl96, h⟩ := bindSome h
      refine kl_apd (ys := (bsI x94)) (encI_ok .u8) rfl ety33 (by kernel_rfl) (by kernel_rfl) (by kernel_rfl) (by kernel_rfl) (by kernel_rfl) hl96 o83 (fun w_ _ => src_strT x94 w_) fun h97 A98 k99 o100 => ?_
      refine kl_new (.cells #[.int .u8 (32 : Int)] 5 (0, 0)) (fun b => .slice (some ⟨b, 0, none⟩) 1 1) (by kernel_rfl) (by kernel_rfl) (fun _ => by kernel_rfl) fun b101 => ?_
      refine K.mv1 ?_
      obtain ⟨l102, hl102, h⟩ := bindSome h
      refine kl_apd (ys := [(32 : Int)]) (encI_ok .u8) rfl ety33 (by kernel_rfl) (by kernel_rfl) (by kernel_rfl) (by kernel_rfl) (by kernel_rfl) hl102 o100 (src_blk (n := 1) (encI_ok .u8) [(32 : Int)] (by kernel_rfl) rfl (by decide) 1 rfl) fun h103 A104 k105 o106 => ?_
      refine K.mv1 ?_
      refine K.drop ?_
      refine kl_steps 1 [(3, .slice A5 r3.1.length k6), (4, .pointer (some ⟨b8, 0, none⟩)), (5, .slice A104 l102.length k105), (6, .int .i64 x84)] (by kernel_rfl) ?_
      refine k_nil ?_
      refine k_blk ?_
      refine k_then ?_
      refine k_region ?_
      refine kl_steps 3 [(3, .slice A5 r3.1.length k6), (4, .pointer (some ⟨b8, 0, none⟩)), (5, .slice A104 l102.length k105), (6, .int .i64 (IntKind.i64.wrap (x84 + (1 : Int))))] (by kernel_rfl) ?_
      refine k_nil ?_
      refine k_then ?_
      refine K.mv2 ?_
      refine K.mv2 ?_
      exact k_again m85 (l102, IntKind.i64.wrap (x84 + (1 : Int)), h103, A104, k105) (Nat.lt_succ_self _) ⟨h, o106⟩ ⟨rfl, rfl, rfl, rfl, trivial⟩ rfl
     ·skip
      refine k_seq ?_
      refine k_region ?_
      refine kl_steps 2 [(3, .slice A5 r3.1.length k6), (4, .pointer (some ⟨b8, 0, none⟩)), (5, .slice A81 l79.length k82), (6, .int .i64 x84), (7, .string x87.2.1), (29, .slice A5 r3.1.length k6), (30, .int .i64 x84)] (by kernel_rfl) ?_
      obtain ⟨x107, hx107, h⟩ := bindSome h
      refine kl_elemP (T := 31) (kd := .i64) e31_ok rfl (by kernel_rfl) (by kernel_rfl) (by kernel_rfl) (by kernel_rfl) (by kernel_rfl) (by kernel_rfl) hx107 (OwnT.rd o7) fun p108 e109 y110 => ?_
      have e109 : Elem _ p108 [.int .i64 x107.1, .string x107.2.1, .int .i64 x107.2.2.1, .int .i64 x107.2.2.2] := e109
      refine kl_efieldP (off := 0) rfl (by kernel_rfl) (by kernel_rfl) (by kernel_rfl) (by kernel_rfl) e109 y110 fun p111 e112 y113 => ?_
      have e112 : Elem _ p111 [.int .i64 x107.1, .string x107.2.1, .int .i64 x107.2.2.1, .int .i64 x107.2.2.2] := e112
      refine kl_eload1 rfl (by kernel_rfl) (by kernel_rfl) (by kernel_rfl) (by kernel_rfl) e112 (.tail _ (.head _)) ?_
      refine kl_steps 1 [(3, .slice A5 r3.1.length k6), (4, .pointer (some ⟨b8, 0, none⟩)), (5, .slice A81 l79.length k82), (6, .int .i64 x84), (7, .string x87.2.1), (34, .bool (x107.1 == (4 : Int)))] (by kernel_rfl) ?_
      refine k_nil ?_
      refine k_then ?_
      refine k_cond (t := (x107.1 == (4 : Int))) (by kernel_rfl) (fun t114 => ?_) (fun t114 => ?_)
      ·have h := condT h t114
       refine k_region ?_
       refine kl_steps 1 [(3, .slice A5 r3.1.length k6), (4, .pointer (some ⟨b8, 0, none⟩)), (5, .slice A81 l79.length k82), (6, .int .i64 x84), (7, .string x87.2.1), (35, .string x87.2.1)] (by kernel_rfl) ?_
       obtain ⟨r115, hr115, h⟩ := bindSome h
       refine kl_callv (by kernel_rfl) (by kernel_rfl) (by kernel_rfl) (lex_Quote.ok hr115 hG) ⟨(.tail _ (.tail _ (.tail _ hm_G))), trivial⟩ ?_
       refine kl_steps 1 [(3, .slice A5 r3.1.length k6), (4, .pointer (some ⟨b8, 0, none⟩)), (5, .slice A81 l79.length k82), (6, .int .i64 x84), (7, .string r115)] (by kernel_rfl) ?_
       refine k_nil ?_
       refine k_then ?_
       exact k_meet r115 h ⟨rfl, rfl, rfl, rfl, rfl, trivial⟩ rfl
      ·have h := condF h t114
       refine k_skip ?_
       refine k_then ?_
       exact k_meet x87.2.1 h ⟨rfl, rfl, rfl, rfl, rfl, trivial⟩ rfl
    ·have h := condF h t86
     refine k_exit ?_
     refine k_then_exit ?_
     refine k_then_exit ?_
     refine k_here ?_
     refine k_then ?_
     exact k_meet (l79, h80, A81, k82) ⟨h, o83⟩ ⟨rfl, rfl, rfl, trivial⟩ rfl
end Go.Proofs.YtoaplbeojagjcaaDoor
namespace Go.Proofs.YtoaplbeojagjcaaDoor
namespace Lx
theorem scanG_succ (f : Nat) (l : Bs) (at_ : Nat) (acc : List Tok) : scanG (f + 1) l at_ acc =
  match stepF (l.drop (runL blankR l)) with
  | .done => .inr (acc ++ [⟨6, [], 0, at_ + runL blankR l⟩])
  | .skip n => scanG f ((l.drop (runL blankR l)).drop n) (at_ + runL blankR l + n) acc
  | .tok kind text n len => scanG f ((l.drop (runL blankR l)).drop len) (at_ + runL blankR l + len) (acc ++ [⟨kind, text, n, at_ + runL blankR l⟩])
  | .bad c r => .inl (c, (at_ + runL blankR l + r : Nat)) := rfl
theorem decL_low (b : UInt8) (t : Bs) (h : b.toNat < 128) : decL (b :: t) = (b.toNat, 1) := by
 unfold decL
 simp only [List.getD_cons_zero]
 rw [if_pos h]
end Lx
end Go.Proofs.YtoaplbeojagjcaaDoor
namespace Go.Proofs.YtoaplbeojagjcaaDoor
namespace Lx
theorem stepF_take (l : Bs) : (∀ n, stepF l = .skip n → 1 ≤ n ∧ n ≤ l.length) ∧ (∀ k t n len, stepF l = .tok k t n len → 1 ≤ len ∧ len ≤ l.length) :=
 ⟨fun n h => stepF_skip l n h, fun k t n len h => stepF_tok l k t n len h⟩
theorem scanG_fuel : ∀ (f g : Nat) (l : Bs) (at_ : Nat) (acc : List Tok), l.length < f → l.length < g → scanG f l at_ acc = scanG g l at_ acc
 | 0, _, l, _, _, h, _ => by omega
 | _, 0, l, _, _, _, h => by omega
 | f + 1, g + 1, l, at_, acc, h, h' => by
  rw [scanG_succ, scanG_succ]
  have hd : (l.drop (runL blankR l)).length ≤ l.length := by rw [List.length_drop]; omega
  cases hst : stepF (l.drop (runL blankR l)) with
  | done => rfl
  | bad c r => rfl
  | skip n =>
   have := (stepF_take _).1 n hst
   exact scanG_fuel f g _ _ _ (by rw [List.length_drop]; omega) (by rw [List.length_drop]; omega)
  | tok k t n len =>
   have := (stepF_take _).2 k t n len hst
   exact scanG_fuel f g _ _ _ (by rw [List.length_drop]; omega) (by rw [List.length_drop]; omega)
def scanL (l : Bs) (at_ : Nat) (acc : List Tok) : (Int × Int) ⊕ List Tok := scanG (l.length + 1) l at_ acc
theorem scanL_step (l : Bs) (at_ : Nat) (acc : List Tok) : scanL l at_ acc =
  match stepF (l.drop (runL blankR l)) with
  | .done => .inr (acc ++ [⟨6, [], 0, at_ + runL blankR l⟩])
  | .skip n => scanL ((l.drop (runL blankR l)).drop n) (at_ + runL blankR l + n) acc
  | .tok kind text n len => scanL ((l.drop (runL blankR l)).drop len) (at_ + runL blankR l + len) (acc ++ [⟨kind, text, n, at_ + runL blankR l⟩])
  | .bad c r => .inl (c, (at_ + runL blankR l + r : Nat)) := by
 unfold scanL
 rw [scanG_succ]
 have hd : (l.drop (runL blankR l)).length ≤ l.length := by rw [List.length_drop]; omega
 cases hst : stepF (l.drop (runL blankR l)) with
 | done => rfl
 | bad c r => rfl
 | skip n =>
  have := (stepF_take _).1 n hst
  exact scanG_fuel _ _ _ _ _ (by rw [List.length_drop]; omega) (by omega)
 | tok k t n len =>
  have := (stepF_take _).2 k t n len hst
  exact scanG_fuel _ _ _ _ _ (by rw [List.length_drop]; omega) (by omega)
theorem cont_low (x : UInt8) (h : x.toNat < 128) : (x.toNat / 64 == 2) = false := by rw [beq_eq_false_iff_ne]; omega
theorem decL_append : ∀ (l r : Bs), l ≠ [] → (∀ x t, r = x :: t → x.toNat < 128) → decL (l ++ r) = decL l
 | l, [], _, _ => by rw [List.append_nil]
 | [], _, h, _ => absurd rfl h
 | [a], x :: r, _, h => by have := cont_low x (h x r rfl); simp [decL, this]
 | [a, b], x :: r, _, h => by have := cont_low x (h x r rfl); simp [decL, this]
 | [a, b, c], x :: r, _, h => by have := cont_low x (h x r rfl); simp [decL, this]
 | a :: b :: c :: d :: l, x :: r, _, h => by simp [decL]
theorem drop_app (l r : Bs) (n : Nat) (h : n ≤ l.length) : (l ++ r).drop n = l.drop n ++ r := List.drop_append_of_le_length h
theorem runL_append (p : Nat → Bool) (r : Bs) (hr : ∀ x t, r = x :: t → x.toNat < 128) : ∀ (n : Nat) (l : Bs), l.length ≤ n → (runL p l < l.length ∨ runL p r = 0) → runL p (l ++ r) = runL p l
 | 0, l, h, hp => by
  have : l = [] := List.eq_nil_of_length_eq_zero (by omega)
  subst this
  rcases hp with hp | hp
  ·simp at hp
  ·rw [List.nil_append, hp]; rfl
 | n + 1, l, h, hp => by
  by_cases hl : l = []
  ·subst hl
   rcases hp with hp | hp
   ·simp at hp
   ·rw [List.nil_append, hp]; rfl
  ·have hw := decL_width l
   have hw3 := hw.2.2 hl
   rw [runL_step p (l ++ r) (by simp [hl]), decL_append l r hl hr, drop_app _ _ _ hw3]
   rw [runL_step p l hl] at hp ⊢
   by_cases hq : p (decL l).1 = true
   ·rw [if_pos hq] at hp ⊢
    rw [if_pos hq]
    rw [runL_append p r hr n _ (by rw [List.length_drop]; omega) (by rw [List.length_drop]; rcases hp with hp | hp; exact .inl (by omega); exact .inr hp)]
   ·rw [if_neg hq, if_neg hq]
theorem pre_append (s l r : Bs) (hs : s.length ≤ 2) (hl : l ≠ []) (hr : ∀ x t, r = x :: t → s[1]? ≠ some x) : s.isPrefixOf (l ++ r) = s.isPrefixOf l := by
 obtain ⟨c, l, rfl⟩ : ∃ c l', l = c :: l' := by cases l with | nil => exact absurd rfl hl | cons c l' => exact ⟨c, l', rfl⟩
 match s, hs with
 | [], _ => simp
 | [a], _ => simp [List.isPrefixOf]
 | [a, b], _ =>
  cases l with
  | cons d l => simp [List.isPrefixOf]
  | nil =>
   cases r with
   | nil => rfl
   | cons x t =>
    have := hr x t rfl
    have hb : (b == x) = false := by
     rw [beq_eq_false_iff_ne]
     rintro rfl
     exact this rfl
    simp [List.isPrefixOf, hb]
def Gap (r : Bs) : Prop := ∃ x t, r = x :: t ∧ (x = 32 ∨ x = 10 ∨ x = 41)
theorem Gap.low {r : Bs} (h : Gap r) : ∀ x t, r = x :: t → x.toNat < 128 := by
 obtain ⟨x, t, rfl, hx⟩ := h
 intro y u e
 cases e
 rcases hx with rfl | rfl | rfl <;> decide
theorem sign_second : ∀ s ∈ signList, s.length ≤ 2 ∧ s[1]? ≠ some 32 ∧ s[1]? ≠ some 10 ∧ s[1]? ≠ some 41 := by decide
theorem find_congr {α : Type} (p q : α → Bool) : ∀ (l : List α), (∀ x ∈ l, p x = q x) → l.find? p = l.find? q
 | [], _ => rfl
 | a :: l, h => by
  rw [List.find?_cons, List.find?_cons, h a (by simp), find_congr p q l (fun x hx => h x (by simp [hx]))]
theorem signF_append (l r : Bs) (hl : l ≠ []) (hr : Gap r) : signF (l ++ r) = signF l := by
 unfold signF
 refine find_congr _ _ _ fun s hs => ?_
 obtain ⟨h1, h2, h3, h4⟩ := sign_second s hs
 refine pre_append s l r h1 hl fun x t e => ?_
 obtain ⟨y, u, e2, hy⟩ := hr
 rw [e] at e2
 cases e2
 rcases hy with rfl | rfl | rfl
 ·exact h2
 ·exact h3
 ·exact h4
theorem hexD_gap (r : Bs) (h : Gap r) : ∀ m n k, hexG m r n k = (n, k) := by
 obtain ⟨x, t, rfl, hx⟩ := h
 intro m n k
 cases m with
 | zero => rfl
 | succ m =>
  have : hexD x = none := by rcases hx with rfl | rfl | rfl <;> decide
  simp [hexG, this]
theorem hexG_append (r : Bs) (hr : Gap r) : ∀ (m : Nat) (t : Bs) (n k : Nat), hexG m (t ++ r) n k = hexG m t n k
 | 0, t, n, k => rfl
 | m + 1, [], n, k => by rw [List.nil_append, hexD_gap r hr]; rfl
 | m + 1, b :: t, n, k => by
  simp only [List.cons_append, hexG]
  split
  ·rfl
  ·exact hexG_append r hr m t _ _
theorem decG_append (r : Bs) (hr : Gap r) : ∀ (m : Nat) (t : Bs) (n k : Nat), decG m (t ++ r) n k = decG m t n k
 | 0, t, n, k => rfl
 | m + 1, [], n, k => by
  obtain ⟨x, t, rfl, hx⟩ := hr
  have : ¬ (48 ≤ x.toNat ∧ x.toNat ≤ 57) := by rcases hx with rfl | rfl | rfl <;> decide
  simp only [List.nil_append, decG, if_neg this]
 | m + 1, b :: t, n, k => by
  simp only [List.cons_append, decG]
  split
  ·exact decG_append r hr m t _ _
  ·rfl
def uF (t : Bs) : Esc :=
 if (hexG 8 t 0 0).2 = 0 ∨ Utf8.valid (hexG 8 t 0 0).1 = false ∨ (t.drop (hexG 8 t 0 0).2).head? ≠ some 125 then .unfit
 else .ok (bs (Utf8.encode (hexG 8 t 0 0).1)) (4 + (hexG 8 t 0 0).2)
theorem escF_eq (c : UInt8) (t : Bs) : escF (c :: t) =
  if plainB c ≠ 0 then .ok [plainB c] 2
  else if c = 120 then
   if (hexG 2 t 0 0).2 < 2 then .unfit else .ok [UInt8.ofNat (hexG 2 t 0 0).1] 4
  else if c = 117 ∧ t.head? = some 123 then uF t.tail
  else if (decG 3 (c :: t) 0 0).2 = 0 ∨ (decG 3 (c :: t) 0 0).1 > 255 then .unfit
   else .ok [UInt8.ofNat (decG 3 (c :: t) 0 0).1] (1 + (decG 3 (c :: t) 0 0).2) := rfl
theorem escF_u (t : Bs) : escF (117 :: 123 :: t) = uF t := by
 rw [escF_eq, if_neg (by decide), if_neg (by decide), if_pos ⟨rfl, rfl⟩]
 rfl
theorem uF_append (t r e : Bs) (n : Nat) (hr : Gap r) (h : uF t = .ok e n) : uF (t ++ r) = .ok e n := by
 unfold uF at h ⊢
 rw [hexG_append r hr]
 split at h
 ·cases h
 ·rename_i h4
  split
  ·rename_i h5
   exfalso
   refine h4 ?_
   rcases h5 with h5 | h5 | h5
   ·exact .inl h5
   ·exact .inr (.inl h5)
   ·refine .inr (.inr fun h6 => h5 ?_)
    have hlen := hexG_len 8 t 0 0
    rw [drop_app _ _ _ (by omega)]
    cases hd : t.drop (hexG 8 t 0 0).2 with
    | nil => rw [hd] at h6; simp at h6
    | cons y u => rw [hd] at h6; exact h6
  ·exact h
theorem escF_append (l r e : Bs) (n : Nat) (hr : Gap r) (h : escF l = .ok e n) : escF (l ++ r) = .ok e n := by
 cases l with
 | nil => cases h
 | cons c t =>
  rw [List.cons_append]
  by_cases h3 : c = 117 ∧ t.head? = some 123
  ·obtain ⟨rfl, h3⟩ := h3
   cases t with
   | nil => simp at h3
   | cons d t =>
    simp only [List.head?_cons, Option.some.injEq] at h3
    subst h3
    rw [escF_u] at h
    rw [List.cons_append, escF_u]
    exact uF_append t r e n hr h
  have h3' : ¬ (c = 117 ∧ (t ++ r).head? = some 123) := by
   rintro ⟨hc, hh⟩
   cases t with
   | nil =>
    obtain ⟨x, u, rfl, hx⟩ := hr
    rw [List.nil_append, List.head?_cons] at hh
    cases hh
    rcases hx with hx | hx | hx <;> exact absurd hx (by decide)
   | cons d t => exact h3 ⟨hc, hh⟩
  rw [escF_eq] at h ⊢
  by_cases h1 : plainB c ≠ 0
  ·rw [if_pos h1] at h ⊢; exact h
  rw [if_neg h1] at h ⊢
  by_cases h2 : c = 120
  ·rw [if_pos h2] at h ⊢
   rw [hexG_append r hr]
   exact h
  rw [if_neg h2] at h ⊢
  rw [if_neg h3] at h
  rw [if_neg h3', show c :: (t ++ r) = (c :: t) ++ r from rfl, decG_append r hr]
  exact h
theorem textG_append (q : UInt8) (r : Bs) (hr : Gap r) : ∀ (f g : Nat) (l acc : Bs) (i : Nat) (v : Bs) (k : Nat), f ≤ g → textG q f l acc i = .ok v k → textG q g (l ++ r) acc i = .ok v k
 | 0, _, l, acc, i, v, k, _, h => by cases h
 | f + 1, 0, _, _, _, _, _, hf, _ => by omega
 | f + 1, g + 1, [], acc, i, v, k, _, h => by cases h
 | f + 1, g + 1, b :: t, acc, i, v, k, hf, h => by
  rw [List.cons_append]
  simp only [textG] at h ⊢
  by_cases h1 : b = 10
  ·rw [if_pos h1] at h; cases h
  rw [if_neg h1] at h ⊢
  by_cases h2 : b = q
  ·rw [if_pos h2] at h ⊢; exact h
  rw [if_neg h2] at h ⊢
  by_cases h3 : b = 92
  ·rw [if_pos h3] at h ⊢
   cases he : escF t with
   | ended => rw [he] at h; cases h
   | unfit => rw [he] at h; cases h
   | ok e n =>
    rw [he] at h
    rw [escF_append t r e n hr he]
    simp only at h ⊢
    have hroom := escF_room t e n he
    rw [show b :: (t ++ r) = (b :: t) ++ r from rfl, drop_app _ _ _ (by simp only [List.length_cons]; omega)]
    exact textG_append q r hr f g _ _ _ v k (by omega) h
  ·rw [if_neg h3] at h ⊢
   exact textG_append q r hr f g _ _ _ v k (by omega) h
theorem gap_run (r : Bs) (hr : Gap r) : runL partR r = 0 := by
 obtain ⟨x, t, rfl, hx⟩ := hr
 rw [runL_step _ _ (by simp), decL_low x t (by rcases hx with rfl | rfl | rfl <;> decide)]
 rcases hx with rfl | rfl | rfl <;> rfl
theorem stepF_append (l r : Bs) (hl : l ≠ []) (hr : Gap r) (k : Int) (t : Bs) (n : Int) (len : Nat) (h : stepF l = .tok k t n len) : stepF (l ++ r) = .tok k t n len := by
 have hd := decL_append l r hl hr.low
 have hrun := runL_append partR r hr.low l.length l (Nat.le_refl _) (.inr (gap_run r hr))
 have hle := runL_le' partR l
 have htk : (l ++ r).take (runL partR l) = l.take (runL partR l) := List.take_append_of_le_length hle
 have hpre : [45, 45].isPrefixOf (l ++ r) = [45, 45].isPrefixOf l := pre_append [45, 45] l r (by simp) hl fun x t e => by
  obtain ⟨y, u, e2, hy⟩ := hr
  rw [e] at e2
  cases e2
  rcases hy with rfl | rfl | rfl <;> decide
 unfold stepF at h ⊢
 dsimp only at h ⊢
 rw [if_neg hl] at h
 rw [if_neg (by simp [hl])]
 simp only [hpre, hd, hrun, htk]
 by_cases h1 : [45, 45].isPrefixOf l = true
 ·rw [if_pos h1] at h; cases h
 rw [if_neg h1] at h ⊢
 by_cases h2 : letterR (decL l).1 = true
 ·rw [if_pos h2] at h ⊢; exact h
 rw [if_neg h2] at h ⊢
 by_cases h3 : digitR (decL l).1 = true
 ·rw [if_pos h3] at h ⊢; exact h
 rw [if_neg h3] at h ⊢
 by_cases h4 : (decL l).1 = 34 ∨ (decL l).1 = 39
 ·rw [if_pos h4] at h ⊢
  cases ht : textG (UInt8.ofNat (decL l).1) l.length l.tail [] 1 with
  | bad c r' => rw [ht] at h; cases h
  | ok v k' =>
   rw [ht] at h
   have htl : (l ++ r).tail = l.tail ++ r := by cases l with | nil => exact absurd rfl hl | cons => rfl
   rw [htl, textG_append _ r hr l.length (l ++ r).length l.tail [] 1 v k' (by rw [List.length_append]; omega) ht]
   exact h
 ·rw [if_neg h4] at h ⊢
  rw [signF_append l r hl hr]
  exact h
end Lx
end Go.Proofs.YtoaplbeojagjcaaDoor
namespace Go.Proofs.YtoaplbeojagjcaaDoor
namespace Lx
def blankB (b : UInt8) : Bool := b == 32 || b == 9 || b == 10 || b == 13
theorem blank_low {b : UInt8} (h : blankB b = true) : b.toNat < 128 ∧ blankR b.toNat = true := by
 simp only [blankB, Bool.or_eq_true, beq_iff_eq] at h
 rcases h with ((rfl | rfl) | rfl) | rfl <;> decide
theorem run_blanks (x : Bs) : ∀ bl : Bs, (∀ b ∈ bl, blankB b = true) → runL blankR (bl ++ x) = bl.length + runL blankR x
 | [], _ => by simp
 | b :: bl, h => by
  have hb := blank_low (h b (by simp))
  rw [List.cons_append, runL_step _ _ (by simp), decL_low b _ hb.1]
  simp only [hb.2, if_true, List.drop_succ_cons, List.drop_zero]
  rw [run_blanks x bl (fun y hy => h y (by simp [hy]))]
  simp only [List.length_cons]; omega
theorem decL_bytes (l : Bs) (b : UInt8) (hb : b ∈ l.take (decL l).2) (hlow : b.toNat < 128) : (decL l).1 = b.toNat ∧ (decL l).2 = 1 := by
 obtain ⟨i, hi⟩ := List.mem_iff_getElem?.1 hb
 rw [List.getElem?_take] at hi
 split at hi
 case isFalse => exact absurd hi (by simp)
 rename_i hlt
 have hg : l.getD i 0 = b := by rw [List.getD_eq_getElem?_getD, hi]; rfl
 have hg2 : (l.getD i 0).toNat = b.toNat := by rw [hg]
 clear hb hi hg
 unfold decL at hlt ⊢
 dsimp only at hlt ⊢
 have hi4 : i = 0 ∨ i = 1 ∨ i = 2 ∨ 3 ≤ i := by omega
 by_cases h0 : (l.getD 0 0).toNat < 128
 ·rw [if_pos h0] at hlt ⊢
  have : i = 0 := by simpa using hlt
  subst this
  exact ⟨hg2, rfl⟩
 ·rw [if_neg h0] at hlt
  have hne : i ≠ 0 := by rintro rfl; omega
  exfalso
  split at hlt
  ·rename_i h1
   simp only [Bool.and_eq_true, beq_iff_eq, decide_eq_true_eq] at h1
   split at hlt <;> dsimp only at hlt
   ·rcases hi4 with rfl | rfl | rfl | hi4 <;> omega
   ·omega
  ·split at hlt
   ·rename_i h1
    simp only [Bool.and_eq_true, beq_iff_eq, decide_eq_true_eq] at h1
    split at hlt <;> dsimp only at hlt
    ·rcases hi4 with rfl | rfl | rfl | hi4 <;> omega
    ·omega
   ·split at hlt
    ·rename_i h1
     simp only [Bool.and_eq_true, beq_iff_eq, decide_eq_true_eq] at h1
     split at hlt <;> dsimp only at hlt
     ·have hi5 : i = 1 ∨ i = 2 ∨ i = 3 := by omega
      rcases hi5 with rfl | rfl | rfl <;> omega
     ·omega
    ·dsimp only at hlt; omega
theorem scanL_blanks (x : Bs) (at_ : Nat) (acc : List Tok) (bl : Bs) (h : ∀ b ∈ bl, blankB b = true) : scanL (bl ++ x) at_ acc = scanL x (at_ + bl.length) acc := by
 rw [scanL_step (bl ++ x), scanL_step x, run_blanks x bl h]
 have e : (bl ++ x).drop (bl.length + runL blankR x) = x.drop (runL blankR x) := by
  rw [← List.drop_drop, List.drop_left']
  rfl
 rw [e, Nat.add_assoc]
def Closed' (a : Bs) : Prop := ∀ i, [45, 45].isPrefixOf (a.drop i) = true → 10 ∈ a.drop i
theorem Closed'.drop {a : Bs} (h : Closed' a) (k : Nat) : Closed' (a.drop k) := fun i hi => by
 rw [List.drop_drop] at hi ⊢
 exact h _ hi
theorem bad_ne (l : Bs) (c : Int) (r : Nat) (h : stepF l = .bad c r) : c ≠ 0 := by
 have ht : ∀ q f (l acc : Bs) i c r, textG q f l acc i = .bad c r → c ≠ 0 := by
  intro q f
  induction f with
  | zero => intro l acc i c r h; cases h; decide
  | succ f ih =>
   intro l acc i c r h
   cases l with
   | nil => cases h; decide
   | cons b t =>
    simp only [textG] at h
    split at h
    ·cases h; decide
    split at h
    ·split at h
     ·cases h; decide
     ·cases h
    split at h
    ·split at h
     ·cases h; decide
     ·cases h; decide
     ·exact ih _ _ _ _ _ h
    ·exact ih _ _ _ _ _ h
 unfold stepF at h
 by_cases h0 : l = []
 ·rw [if_pos h0] at h; cases h
 rw [if_neg h0] at h
 by_cases h1 : [45, 45].isPrefixOf l = true
 ·rw [if_pos h1] at h; cases h
 rw [if_neg h1] at h
 by_cases h2 : letterR (decL l).1 = true
 ·rw [if_pos h2] at h
  dsimp only at h
  split at h
  ·cases h; decide
  ·cases h
 rw [if_neg h2] at h
 by_cases h3 : digitR (decL l).1 = true
 ·rw [if_pos h3] at h
  dsimp only at h
  split at h
  ·rename_i hp
   cases h
   exact hp
  ·cases h
 rw [if_neg h3] at h
 split at h
 ·split at h
  ·rename_i c' r' hx
   cases h
   exact ht _ _ _ _ _ _ _ hx
  ·cases h
 ·split at h
  ·cases h; decide
  ·cases h
theorem scan_ne : ∀ (n : Nat) (l : Bs) (at_ : Nat) (acc : List Tok) (c p : Int), l.length ≤ n → scanL l at_ acc = .inl (c, p) → c ≠ 0 := by
 intro n
 induction n with
 | zero =>
  intro l at_ acc c p hn h
  have : l = [] := List.eq_nil_of_length_eq_zero (by omega)
  subst this
  rw [scanL_step] at h
  have e0 : stepF (([] : Bs).drop (runL blankR [])) = .done := rfl
  rw [e0] at h
  cases h
 | succ n ih =>
  intro l at_ acc c p hn h
  rw [scanL_step] at h
  have hk := runL_le' blankR l
  cases hst : stepF (l.drop (runL blankR l)) with
  | done => rw [hst] at h; cases h
  | bad c' r =>
   rw [hst] at h
   simp only [Sum.inl.injEq, Prod.mk.injEq] at h
   rw [← h.1]
   exact bad_ne _ _ _ hst
  | skip q =>
   have := (stepF_take _).1 q hst
   rw [List.length_drop] at this
   rw [hst] at h
   exact ih _ _ _ _ _ (by rw [List.length_drop, List.length_drop]; omega) h
  | tok kd tx x len =>
   have := (stepF_take _).2 _ _ _ _ hst
   rw [List.length_drop] at this
   rw [hst] at h
   exact ih _ _ _ _ _ (by rw [List.length_drop, List.length_drop]; omega) h
theorem scanF_small (l : Bs) (h : l.length ≤ 20000) : scanF l = scanL l 0 [] := by
 unfold scanF scanL
 rw [if_neg (by omega)]
end Lx
end Go.Proofs.YtoaplbeojagjcaaDoor
namespace Go.Proofs.YtoaplbeojagjcaaDoor
open Go Go.RowKit Lx
end Go.Proofs.YtoaplbeojagjcaaDoor
namespace Go.Proofs.YtoaplbeojagjcaaDoor
open Go Go.RowKit Lx
def Evt {α : Type} (g : Nat → Option α) (r : α) : Prop := ∃ K, ∀ k, K ≤ k → g k = some r
theorem Evt.bind {α β : Type} {g : Nat → Option α} {f : Nat → α → Option β} {a : α} {r : β} (h1 : Evt g a) (h2 : Evt (fun k => f k a) r) : Evt (fun k => (g k).bind (f k)) r := by
 obtain ⟨K1, h1⟩ := h1
 obtain ⟨K2, h2⟩ := h2
 exact ⟨max K1 K2, fun k hk => by show (g k).bind (f k) = some r; rw [h1 k (by omega)]; exact h2 k (by omega)⟩
theorem wi (x : Int) (h0 : -9223372036854775808 ≤ x) (h1 : x ≤ 9223372036854775807) : IntKind.i64.wrap x = x := by unfold IntKind.wrap; simp [IntKind.bits, IntKind.signed]; omega
theorem wb (c : UInt8) : IntKind.i64.wrap (c.toNat : Int) = c.toNat := wi _ (by omega) (by have := c.toNat_lt; omega)
theorem cond_dec {α : Type} (p : Prop) [Decidable p] (a b : α) : cond (decide p) a b = if p then a else b := Bool.cond_decide p a b
theorem sIdx_nat (s : ByteArray) (i : Nat) : sIdx s (i : Int) = (bs s)[i]? := by
 unfold sIdx
 rw [if_pos (by omega), Int.toNat_natCast]
 simp only [bs]
 rcases Nat.lt_or_ge i s.size with h | h
 ·rw [getElem?_pos s i h, List.getElem?_eq_getElem (by simpa using h)]
  rfl
 ·rw [getElem?_neg s i (by omega), List.getElem?_eq_none (by simpa using h)]
theorem sIdx_head (s : ByteArray) (i : Nat) : sIdx s (i : Int) = ((bs s).drop i).head? := by rw [sIdx_nat, List.head?_drop]
end Go.Proofs.YtoaplbeojagjcaaDoor
namespace Go.Proofs.YtoaplbeojagjcaaDoor
open Go Go.RowKit Lx
theorem sSub_str (s : ByteArray) (a b : Nat) (h1 : a ≤ b) (h2 : b ≤ s.size) : sSub s (a : Int) (b : Int) = some (str (((bs s).drop a).take (b - a))) := by
 unfold sSub
 rw [cond_dec, if_pos ⟨by omega, by omega, by omega⟩]
 congr 1
 apply bs_inj
 rw [bs_str, bs_extract]
 simp
theorem beq_byte (c d : UInt8) : ((c.toNat : Int) == (d.toNat : Int)) = (c == d) := by
 rw [Bool.eq_iff_iff, beq_iff_eq, beq_iff_eq, ← UInt8.toNat_inj]
 omega
def bI (b : Bs) : List Int := b.map fun x => (x.toNat : Int)
theorem strOf_bI (b : Bs) : strOfNums (bI b) = str b := by
 unfold strOfNums bI str
 congr 2
 rw [List.map_map]
 conv => rhs; rw [← List.map_id b]
 apply List.map_congr_left
 intro x _
 simp
theorem bsI_bI (s : ByteArray) : bsI s = bI (bs s) := rfl
theorem dT {p : Prop} [Decidable p] (h : p) : decide p = true := decide_eq_true h
theorem dF {p : Prop} [Decidable p] (h : ¬ p) : decide p = false := decide_eq_false h
theorem bq (c d : UInt8) : ((c.toNat : Int) == (d.toNat : Int)) = decide (c = d) := by
 rw [beq_byte, Bool.eq_iff_iff, beq_iff_eq, decide_eq_true_eq]
theorem drop_s (s : ByteArray) (i : Nat) (h : i < s.size) : (bs s).drop i = s[i] :: (bs s).drop (i + 1) := drop_at s i h
theorem sIdx_at (s : ByteArray) (i : Nat) (h : i < s.size) : sIdx s (i : Int) = some s[i] := by rw [sIdx_head, drop_s s i h]; rfl
theorem apd_ok {α : Type} (b : Nat) (l ys : List α) (h : (l.length + ys.length) * b ≤ 140737488355328) : apd b l ys = some (l ++ ys) := by
 unfold apd
 rw [dT h]
 rfl
theorem bI_append (a b : Bs) : bI (a ++ b) = bI a ++ bI b := by simp [bI]
theorem bI_length (a : Bs) : (bI a).length = a.length := by simp [bI]
end Go.Proofs.YtoaplbeojagjcaaDoor
namespace Go.Proofs.YtoaplbeojagjcaaDoor
open Go Go.RowKit Lx
def hexB (n : Nat) : UInt8 := if n < 10 then UInt8.ofNat (48 + n) else UInt8.ofNat (87 + n)
def qOut : Bs → Bs
 | [] => []
 | c :: t =>
  if c = 92 ∨ c = 34 then [92, c] else if c = 10 then [92, 110] else if c = 13 then [92, 114]
  else if c.toNat < 32 ∨ c = 127 then [92, UInt8.ofNat (48 + c.toNat / 100), UInt8.ofNat (48 + c.toNat / 10 % 10), UInt8.ofNat (48 + c.toNat % 10)]
  else if (decL (c :: t)).1 = 65533 ∧ (decL (c :: t)).2 = 1 then [92, 120, hexB (c.toNat / 16), hexB (c.toNat % 16)]
  else (c :: t).take (decL (c :: t)).2
theorem qOut_cons (c : UInt8) (t : Bs) : qOut (c :: t) = if c = 92 ∨ c = 34 then [92, c] else if c = 10 then [92, 110] else if c = 13 then [92, 114]
  else if c.toNat < 32 ∨ c = 127 then [92, UInt8.ofNat (48 + c.toNat / 100), UInt8.ofNat (48 + c.toNat / 10 % 10), UInt8.ofNat (48 + c.toNat % 10)]
  else if (decL (c :: t)).1 = 65533 ∧ (decL (c :: t)).2 = 1 then [92, 120, hexB (c.toNat / 16), hexB (c.toNat % 16)]
  else (c :: t).take (decL (c :: t)).2 := rfl
def quoteG : Nat → Bs → Bs
 | 0, _ => []
 | f + 1, l => if l = [] then [] else qOut l ++ quoteG f (l.drop (decL l).2)
def quoteF (l : Bs) : Bs := 34 :: (quoteG l.length l ++ [34])
theorem qOut_len (l : Bs) : (qOut l).length ≤ 4 * (decL l).2 := by
 have hw := decL_width l
 cases l with
 | nil => simp [qOut]
 | cons c t =>
  rw [qOut_cons]
  repeat' split
  all_goals first | (simp only [List.length_cons, List.length_nil]; omega) | (rw [List.length_take]; omega)
theorem quoteG_len : ∀ (f : Nat) (l : Bs), (quoteG f l).length ≤ 4 * l.length
 | 0, _ => by simp [quoteG]
 | f + 1, l => by
  unfold quoteG
  by_cases h : l = []
  ·rw [if_pos h]; simp
  ·rw [if_neg h, List.length_append]
   have h1 := qOut_len l
   have h2 := quoteG_len f (l.drop (decL l).2)
   have hw := decL_width l
   have := hw.2.2 h
   rw [List.length_drop] at h2
   omega
def runesG : Nat → Bs → Nat → List (Int × Int × Int)
 | 0, _, _ => []
 | f + 1, l, at_ => if l = [] then [] else ((at_ : Int), ((decL l).2 : Int), ((decL l).1 : Int)) :: runesG f (l.drop (decL l).2) (at_ + (decL l).2)
theorem idxMid {α : Type} (pre : List α) (x : α) (t : List α) : lIdx (pre ++ x :: t) (pre.length : Int) = some x := by
 unfold lIdx
 rw [if_pos (by omega)]
 simp
theorem wbyte (m : Nat) (a : Bs) (c : UInt8) (h : a.length ≤ 100000000) : strings_Builder_WriteByte.f m (bI a) (c.toNat : Int) = some (bI (a ++ [c])) := by
 unfold strings_Builder_WriteByte.f strings_Builder_copyCheck.f
 simp only [Option.bind_some]
 rw [apd_ok _ _ _ (by rw [bI_length]; simp; omega), bI_append]
 rfl
theorem wstr (m : Nat) (a : Bs) (s : ByteArray) (h : a.length ≤ 100000000) (hs : s.size ≤ 100000000) : strings_Builder_WriteString.f m (bI a) s = some ((s.size : Int), bI (a ++ bs s)) := by
 unfold strings_Builder_WriteString.f strings_Builder_copyCheck.f
 simp only [Option.bind_some]
 rw [bsI_bI, apd_ok _ _ _ (by rw [bI_length, bI_length, bs_length]; omega), bI_append]
 rfl
theorem decDigits_three {i : Nat} (h1 : 100 ≤ i) (h2 : i < 1000) : Lib.decDigits i = [UInt8.ofNat (48 + i / 100), UInt8.ofNat (48 + i / 10 % 10), UInt8.ofNat (48 + i % 10)] := by
 rw [Lib.decDigits, dif_neg (by omega), Lib.decDigits_two (by omega) (by omega), show i / 10 / 10 = i / 100 by omega]
 rfl
theorem dec_word (m : Nat) (c : UInt8) : words_Format.f m (IntKind.i64.wrap (c.toNat : Int)) = some (str (Lib.decDigits c.toNat)) := by
 unfold words_Format.f strconv_Itoa.f
 have := c.toNat_lt
 rw [wb, dT (by omega)]
 simp only [cond_true, Option.bind_some]
 unfold Lib.itoa
 rw [if_neg (by omega)]
 rfl
theorem sCat_str (a b : Bs) (h : a.length + b.length ≤ 1000000000) : sCat (str a) (str b) = some (str (a ++ b)) := by
 unfold sCat
 rw [dT (by rw [str_size, str_size]; omega)]
 have : str a ++ str b = str (a ++ b) := bs_inj (by rw [bs_str]; simp [bs, str])
 rw [this]
 rfl
theorem rep0 (m : Nat) (k : Nat) (hk : k ≤ 3) : strings_Repeat.f m (⟨#[48]⟩ : ByteArray) (k : Int) = some (str (List.replicate k 48)) := by
 unfold strings_Repeat.f
 rw [dT (by refine ⟨by omega, by omega, ?_⟩; show 1 ≤ 1000; omega)]
 simp only [cond_true, Int.toNat_natCast]
 have : ∀ k, k ≤ 3 → Lib.repeatL [48] k = List.replicate k 48 := by
  intro k hk
  match k, hk with
  | 0, _ => rfl
  | 1, _ => rfl
  | 2, _ => rfl
  | 3, _ => rfl
 show some (str (Lib.repeatL [48] k)) = _
 rw [this k hk]
theorem dec_pad (m : Nat) (c : UInt8) (hc : c.toNat < 1000) : ((strings_Repeat.f m (⟨#[48]⟩ : ByteArray) (IntKind.i64.wrap ((3 : Int) - ((str (Lib.decDigits c.toNat)).size : Int)))).bind fun r89 => (sCat (⟨#[92]⟩ : ByteArray) r89).bind fun s90 : ByteArray => sCat s90 (str (Lib.decDigits c.toNat))) =
  some (str [92, UInt8.ofNat (48 + c.toNat / 100), UInt8.ofNat (48 + c.toNat / 10 % 10), UInt8.ofNat (48 + c.toNat % 10)]) := by
 have key : ∀ (l : Bs) (k : Nat), l.length + k = 3 → ((strings_Repeat.f m (⟨#[48]⟩ : ByteArray) (IntKind.i64.wrap ((3 : Int) - ((str l).size : Int)))).bind fun r89 => (sCat (⟨#[92]⟩ : ByteArray) r89).bind fun s90 : ByteArray => sCat s90 (str l)) = some (str (92 :: (List.replicate k 48 ++ l))) := by
  intro l k hl
  rw [str_size, wi _ (by omega) (by omega), show (3 : Int) - (l.length : Int) = (k : Int) by omega, rep0 m k (by omega)]
  simp only [Option.bind_some]
  rw [show (⟨#[92]⟩ : ByteArray) = str [92] from rfl, sCat_str _ _ (by simp; omega)]
  simp only [Option.bind_some]
  rw [sCat_str _ _ (by simp; omega)]
  simp
 rcases Nat.lt_or_ge c.toNat 10 with h | h
 ·rw [Lib.decDigits_one h, key _ 2 rfl, show c.toNat / 100 = 0 by omega, show c.toNat / 10 % 10 = 0 by omega, show c.toNat % 10 = c.toNat by omega]
  rfl
 rcases Nat.lt_or_ge c.toNat 100 with h' | h'
 ·rw [Lib.decDigits_two (by omega) h', key _ 1 rfl, show c.toNat / 100 = 0 by omega, show c.toNat / 10 % 10 = c.toNat / 10 by omega]
  rfl
 ·rw [decDigits_three h' hc, key _ 0 rfl]
  rfl
def hexW (c : UInt8) : Option ByteArray :=
 (sIdx (⟨#[48, 49, 50, 51, 52, 53, 54, 55, 56, 57, 97, 98, 99, 100, 101, 102]⟩ : ByteArray) (Int.fdiv (c.toNat : Int) 16)).bind fun c101 : UInt8 => (sCat (⟨#[92, 120]⟩ : ByteArray) (Utf8.encode (c101.toNat : Int))).bind fun s102 : ByteArray =>
  (sIdx (⟨#[48, 49, 50, 51, 52, 53, 54, 55, 56, 57, 97, 98, 99, 100, 101, 102]⟩ : ByteArray) (IntKind.u8.wrap ((BitVec.ofInt 8 (c.toNat : Int) &&& BitVec.ofInt 8 (15 : Int)).toNat : Int))).bind fun c103 : UInt8 => sCat s102 (Utf8.encode (c103.toNat : Int))
set_option maxRecDepth 100000 in
theorem hexW_fin : ∀ n : Fin 256, (hexW (UInt8.ofNat n.val)).map bs = some [92, 120, hexB (n.val / 16), hexB (n.val % 16)] := by decide +kernel
theorem hexW_eq (c : UInt8) : hexW c = some (str [92, 120, hexB (c.toNat / 16), hexB (c.toNat % 16)]) := by
 have h := hexW_fin ⟨c.toNat, c.toNat_lt⟩
 have e : UInt8.ofNat c.toNat = c := UInt8.ofNat_toNat
 simp only [e] at h
 cases hx : hexW c with
 | none => rw [hx] at h; cases h
 | some s =>
  rw [hx] at h
  simp only [Option.map_some, Option.some.injEq] at h
  rw [← h, str_bs]
theorem hex_bind {α : Type} (c : UInt8) (F : ByteArray → Option α) : ((sIdx (⟨#[48, 49, 50, 51, 52, 53, 54, 55, 56, 57, 97, 98, 99, 100, 101, 102]⟩ : ByteArray) (Int.fdiv (c.toNat : Int) 16)).bind fun c101 : UInt8 => (sCat (⟨#[92, 120]⟩ : ByteArray) (Utf8.encode (c101.toNat : Int))).bind fun s102 : ByteArray =>
  (sIdx (⟨#[48, 49, 50, 51, 52, 53, 54, 55, 56, 57, 97, 98, 99, 100, 101, 102]⟩ : ByteArray) (IntKind.u8.wrap ((BitVec.ofInt 8 (c.toNat : Int) &&& BitVec.ofInt 8 (15 : Int)).toNat : Int))).bind fun c103 : UInt8 => (sCat s102 (Utf8.encode (c103.toNat : Int))).bind F) = F (str [92, 120, hexB (c.toNat / 16), hexB (c.toNat % 16)]) := by
 have hp := hexW_eq c
 unfold hexW at hp
 obtain ⟨c101, g1, hp⟩ := Option.bind_eq_some_iff.1 hp
 obtain ⟨s102, g2, hp⟩ := Option.bind_eq_some_iff.1 hp
 obtain ⟨c103, g3, hp⟩ := Option.bind_eq_some_iff.1 hp
 rw [g1, Option.bind_some, g2, Option.bind_some, g3, Option.bind_some, hp]
 rfl
section
variable (s : ByteArray) (hs : s.size ≤ 1048576)
include hs
theorem quote_loop (J : List Int → Option ByteArray) : ∀ (d at_ m : Nat) (pre : List (Int × Int × Int)) (acc : Bs), s.size - at_ ≤ d → at_ ≤ s.size → d < m → pre.length ≤ at_ → acc.length ≤ 1 + 4 * at_ →
  lex_Quote.l0 m s J (pre ++ runesG d ((bs s).drop at_) at_) (pre.length : Int) (bI acc) = J (bI (acc ++ quoteG d ((bs s).drop at_)))
 | d, at_, m, pre, acc, hd, ha, hm, hp, hacc => by
  obtain ⟨m, rfl⟩ : ∃ m', m = m' + 1 := ⟨m - 1, by omega⟩
  rcases Nat.lt_or_ge at_ s.size with h | h
  rotate_left
  ·have e0 : (bs s).drop at_ = [] := List.drop_of_length_le (by rw [bs_length]; omega)
   have e1 : runesG d [] at_ = [] := by cases d <;> simp [runesG]
   have e2 : quoteG d [] = [] := by cases d <;> simp [quoteG]
   rw [e0, e1, e2, List.append_nil, List.append_nil, lex_Quote.l0]
   rw [dF (by omega)]
   rfl
  obtain ⟨d, rfl⟩ : ∃ d', d = d' + 1 := ⟨d - 1, by omega⟩
  have hl := drop_s s at_ h
  have hne : (bs s).drop at_ ≠ [] := by rw [hl]; simp
  have hw := decL_width ((bs s).drop at_)
  have hw3 := hw.2.2 hne
  rw [List.length_drop, bs_length] at hw3
  obtain ⟨c, hc⟩ : ∃ c, c = s[at_] := ⟨_, rfl⟩
  obtain ⟨t, ht⟩ : ∃ t, t = (bs s).drop (at_ + 1) := ⟨_, rfl⟩
  rw [← hc, ← ht] at hl
  obtain ⟨w, hww⟩ : ∃ w, w = (decL ((bs s).drop at_)).2 := ⟨_, rfl⟩
  obtain ⟨r, hrr⟩ : ∃ r, r = (decL ((bs s).drop at_)).1 := ⟨_, rfl⟩
  have eR : runesG (d + 1) ((bs s).drop at_) at_ = ((at_ : Int), (w : Int), (r : Int)) :: runesG d ((bs s).drop (at_ + w)) (at_ + w) := by
   rw [runesG, if_neg hne, ← hww, ← hrr, List.drop_drop]
  have eQ : quoteG (d + 1) ((bs s).drop at_) = qOut ((bs s).drop at_) ++ quoteG d ((bs s).drop (at_ + w)) := by
   rw [quoteG, if_neg hne, ← hww, List.drop_drop]
  have hql := qOut_len ((bs s).drop at_)
  rw [← hww] at hw hw3 hql
  have ih := quote_loop J d (at_ + w) m (pre ++ [((at_ : Int), (w : Int), (r : Int))]) (acc ++ qOut ((bs s).drop at_)) (by omega) (by omega) (by omega) (by simp; omega) (by rw [List.length_append]; omega)
  rw [eR, eQ, lex_Quote.l0, dT (by simp; omega)]
  simp only [cond_true]
  generalize hJ : (fun (l42 : List Int) => lex_Quote.l0 m s J (pre ++ ((at_ : Int), (w : Int), (r : Int)) :: runesG d ((bs s).drop (at_ + w)) (at_ + w)) (IntKind.i64.wrap ((pre.length : Int) + (1 : Int))) l42) = K
  have next : K (bI (acc ++ qOut ((bs s).drop at_))) = J (bI (acc ++ (qOut ((bs s).drop at_) ++ quoteG d ((bs s).drop (at_ + w))))) := by
   rw [← hJ]
   simp only
   rw [wi _ (by omega) (by omega)]
   rw [List.append_assoc, List.append_assoc, List.length_append] at ih
   exact ih
  unfold joinF
  rw [idxMid]
  simp only [Option.bind_some]
  rw [sIdx_at s at_ h, ← hc]
  simp only [Option.bind_some]
  rw [← next]
  clear next ih hJ
  have hlen : acc.length ≤ 100000000 := by omega
  have e92 : ((c.toNat : Int) == (92 : Int)) = decide (c = 92) := bq c 92
  have e34 : ((c.toNat : Int) == (34 : Int)) = decide (c = 34) := bq c 34
  have e10 : ((c.toNat : Int) == (10 : Int)) = decide (c = 10) := bq c 10
  have e13 : ((c.toNat : Int) == (13 : Int)) = decide (c = 13) := bq c 13
  have e127 : ((c.toNat : Int) == (127 : Int)) = decide (c = 127) := bq c 127
  rw [e92, e34, e10, e13, e127]
  have b92 : ∀ a : Bs, a.length ≤ 100000000 → strings_Builder_WriteByte.f m (bI a) (92 : Int) = some (bI (a ++ [92])) := fun a ha => wbyte m a 92 ha
  have q1 : (cond (decide (c = 92)) (some true) (some (decide (c = 34))) : Option Bool) = some (decide (c = 92 ∨ c = 34)) := by
   by_cases h1 : c = 92 <;> simp [h1]
  rw [q1]
  simp only [Option.bind_some]
  rw [hl]
  by_cases c1 : c = 92 ∨ c = 34
  ·rw [dT c1]
   simp only [cond_true]
   rw [b92 _ hlen]
   simp only [Option.bind_some]
   rw [wbyte m _ c (by simp; omega)]
   simp only [Option.bind_some]
   rw [qOut_cons, if_pos c1, List.append_assoc]
   rfl
  rw [dF c1]
  simp only [cond_false]
  by_cases c2 : c = 10
  ·rw [dT c2]
   simp only [cond_true]
   rw [wstr m _ _ hlen (by decide)]
   simp only [Option.bind_some]
   rw [qOut_cons, if_neg c1, if_pos c2]
   rfl
  rw [dF c2]
  simp only [cond_false]
  by_cases c3 : c = 13
  ·rw [dT c3]
   simp only [cond_true]
   rw [wstr m _ _ hlen (by decide)]
   simp only [Option.bind_some]
   rw [qOut_cons, if_neg c1, if_neg c2, if_pos c3]
   rfl
  rw [dF c3]
  simp only [cond_false]
  have q2 : (cond (decide ((c.toNat : Int) < 32)) (some true) (some (decide (c = 127))) : Option Bool) = some (decide (c.toNat < 32 ∨ c = 127)) := by
   by_cases h1 : c.toNat < 32
   ·rw [dT (p := (c.toNat : Int) < 32) (by omega), dT (p := c.toNat < 32 ∨ c = 127) (.inl h1)]; rfl
   ·rw [dF (p := (c.toNat : Int) < 32) (by omega)]
    simp [h1]
  rw [q2]
  simp only [Option.bind_some]
  by_cases c4 : c.toNat < 32 ∨ c = 127
  ·rw [dT c4]
   simp only [cond_true]
   rw [dec_word]
   simp only [Option.bind_some]
   have hp := dec_pad m c (by have := c.toNat_lt; omega)
   obtain ⟨r89, g1, hp⟩ := Option.bind_eq_some_iff.1 hp
   obtain ⟨s90, g2, hp⟩ := Option.bind_eq_some_iff.1 hp
   rw [g1]
   simp only [Option.bind_some]
   rw [g2]
   simp only [Option.bind_some]
   rw [hp]
   simp only [Option.bind_some]
   rw [wstr m _ _ hlen (by rw [str_size]; simp)]
   simp only [Option.bind_some]
   rw [qOut_cons, if_neg c1, if_neg c2, if_neg c3, if_pos c4, bs_str]
  rw [dF c4]
  simp only [cond_false]
  have q3 : (cond ((r : Int) == (65533 : Int)) (some ((w : Int) == (1 : Int))) (some false) : Option Bool) = some (decide (r = 65533 ∧ w = 1)) := by
   by_cases h1 : r = 65533
   ·rw [show ((r : Int) == (65533 : Int)) = true by rw [beq_iff_eq]; omega]
    simp only [cond_true, Option.some.injEq, h1, true_and]
    rw [Bool.eq_iff_iff, beq_iff_eq, decide_eq_true_eq]
    omega
   ·rw [show ((r : Int) == (65533 : Int)) = false by rw [beq_eq_false_iff_ne]; omega]
    simp [h1]
  rw [q3]
  simp only [Option.bind_some]
  rw [hl] at hww hrr
  by_cases c5 : r = 65533 ∧ w = 1
  ·rw [dT c5]
   simp only [cond_true]
   rw [hex_bind]
   rw [wstr m _ _ hlen (by rw [str_size]; simp)]
   simp only [Option.bind_some]
   rw [qOut_cons, if_neg c1, if_neg c2, if_neg c3, if_neg c4, if_pos (by rw [← hrr, ← hww]; exact c5), bs_str]
  ·rw [dF c5]
   simp only [cond_false]
   rw [wi _ (by omega) (by omega), show (at_ : Int) + (w : Int) = ((at_ + w : Nat) : Int) by omega, sSub_str s at_ (at_ + w) (by omega) (by omega)]
   simp only [Option.bind_some]
   rw [show at_ + w - at_ = w by omega]
   rw [wstr m _ _ hlen (by rw [str_size, List.length_take]; omega)]
   simp only [Option.bind_some]
   rw [qOut_cons, if_neg c1, if_neg c2, if_neg c3, if_neg c4, if_neg (by rw [← hrr, ← hww]; exact c5), bs_str, ← hww, hl]
 termination_by d => d
end
end Go.Proofs.YtoaplbeojagjcaaDoor
namespace Go.Proofs.YtoaplbeojagjcaaDoor
open Go Go.RowKit Lx
def eachJ (k : Nat) (s : ByteArray) : Int → Int → List (Int × Int × Int) → Option (List (Int × Int × Int)) :=
 fun x2 x3 l4 => cond (decide (x2 ≥ (0 : Int))) ((runes_List_1.f k x2 (IntKind.i64.wrap ((s.size : Int) - x2)) x3 l4).bind fun r11 => some (r11.2)) (some (l4))
section
variable (s : ByteArray) (hs : s.size ≤ 1048576)
include hs
theorem each_loop (k0 : Nat) : ∀ (d p m : Nat) (acc : List (Int × Int × Int)), s.size - p ≤ d + 1 → p < s.size → d + 1 < m → acc.length ≤ p →
  runes_each.l0 m s (eachJ k0 s) (p + (decL ((bs s).drop p)).2) (p : Int) (((decL ((bs s).drop p)).1 : Nat) : Int) acc = some (acc ++ runesG (d + 1) ((bs s).drop p) p)
 | d, p, m, acc, hd, hp, hm, hacc => by
  obtain ⟨m, rfl⟩ : ∃ m', m = m' + 1 := ⟨m - 1, by omega⟩
  have hl := drop_s s p hp
  have hne : (bs s).drop p ≠ [] := by rw [hl]; simp
  have hw := decL_width ((bs s).drop p)
  have hw3 := hw.2.2 hne
  rw [List.length_drop, bs_length] at hw3
  obtain ⟨w, hww⟩ : ∃ w, w = (decL ((bs s).drop p)).2 := ⟨_, rfl⟩
  obtain ⟨r, hrr⟩ : ∃ r, r = (decL ((bs s).drop p)).1 := ⟨_, rfl⟩
  have hr := decL_le ((bs s).drop p)
  have eR : runesG (d + 1) ((bs s).drop p) p = ((p : Int), (w : Int), (r : Int)) :: runesG d ((bs s).drop (p + w)) (p + w) := by
   rw [runesG, if_neg hne, ← hww, ← hrr, List.drop_drop]
  rw [← hww] at hw hw3
  rw [← hrr] at hr
  rw [eR, ← hww, ← hrr]
  have hone : ∀ k (w' : Int), w' = (w : Int) → runes_List_1.f k (p : Int) (IntKind.i64.wrap w') (r : Int) acc = some (true, acc ++ [((p : Int), (w : Int), (r : Int))]) := by
   rintro k _ rfl
   unfold runes_List_1.f
   rw [wi _ (by omega) (by omega), apd_ok _ _ _ (by simp; omega)]
   rfl
  rw [runes_each.l0]
  by_cases h : p + w < s.size
  ·rw [dT (p := p + w < ByteArray.size s) h]
   simp only [cond_true]
   unfold joinF
   rw [dT (p := (p : Int) ≥ (0 : Int)) (by omega)]
   simp only [cond_true]
   rw [hone _ _ (by omega)]
   simp only [Option.bind_some, Bool.not_true, cond_false]
   obtain ⟨d, rfl⟩ : ∃ d', d = d' + 1 := ⟨d - 1, by omega⟩
   have ih := each_loop k0 d (p + w) m (acc ++ [((p : Int), (w : Int), (r : Int))]) (by omega) h (by omega) (by simp; omega)
   have hr2 := decL_le ((bs s).drop (p + w))
   have e1 : rNx s (p + w) = p + w + (decL ((bs s).drop (p + w))).2 := by unfold rNx; rw [decode_eq]
   have e2 : IntKind.i64.wrap (rAt s (p + w)) = (((decL ((bs s).drop (p + w))).1 : Nat) : Int) := by unfold rAt; rw [decode_eq]; exact wi _ (by omega) (by omega)
   rw [e1, e2, ih, List.append_assoc]
   rfl
  ·rw [dF (p := p + w < ByteArray.size s) h]
   simp only [cond_false]
   unfold eachJ
   rw [dT (p := (p : Int) ≥ (0 : Int)) (by omega)]
   simp only [cond_true]
   rw [hone _ _ (by omega)]
   have e0 : (bs s).drop (p + w) = [] := List.drop_of_length_le (by rw [bs_length]; omega)
   have e1 : runesG d [] (p + w) = [] := by cases d <;> simp [runesG]
   rw [e0, e1]
   rfl
 termination_by d => d
theorem runes_eq (k : Nat) (hk : 1048600 ≤ k) : runes_List.f k s = some (runesG s.size (bs s) 0) := by
 have he : runes_each.f k s [] = some (runesG s.size (bs s) 0) := by
  show runes_each.l0 k s (eachJ k s) 0 (-1 : Int) (0 : Int) [] = _
  obtain ⟨k, rfl⟩ : ∃ m', k = m' + 1 := ⟨k - 1, by omega⟩
  rw [runes_each.l0]
  by_cases h : 0 < s.size
  ·rw [dT (p := 0 < ByteArray.size s) h]
   simp only [cond_true]
   unfold joinF
   rw [dF (p := (-1 : Int) ≥ (0 : Int)) (by omega)]
   simp only [cond_false]
   obtain ⟨n, hn⟩ : ∃ n, s.size = n + 1 := ⟨s.size - 1, by omega⟩
   have ih := each_loop s hs (k + 1) n 0 k [] (by omega) h (by omega) (Nat.zero_le _)
   have hr2 := decL_le ((bs s).drop 0)
   have e1 : rNx s 0 = 0 + (decL ((bs s).drop 0)).2 := by unfold rNx; rw [decode_eq]
   have e2 : IntKind.i64.wrap (rAt s 0) = (((decL ((bs s).drop 0)).1 : Nat) : Int) := by unfold rAt; rw [decode_eq]; exact wi _ (by omega) (by omega)
   rw [e1, e2, hn]
   refine ih.trans ?_
   rw [List.nil_append, List.drop_zero]
  ·rw [dF (p := 0 < ByteArray.size s) h]
   simp only [cond_false]
   unfold eachJ
   rw [dF (p := (-1 : Int) ≥ (0 : Int)) (by omega)]
   have h0 : s.size = 0 := by omega
   have hb : bs s = [] := List.eq_nil_of_length_eq_zero (by rw [bs_length]; exact h0)
   rw [h0]
   rfl
 unfold runes_List.f
 rw [he]
 rfl
end
theorem allByte_bI (l : Bs) : allByte (bI l) = true := by
 unfold allByte bI
 rw [List.all_map, List.all_eq_true]
 intro x _
 have := x.toNat_lt
 simp only [Function.comp_apply, decide_eq_true_eq]
 omega
theorem pquote_eq (s : ByteArray) (hs : s.size ≤ 1048576) (k : Nat) (hk : 1048600 ≤ k) : lex_Quote.f k s = some (str (quoteF (bs s))) := by
 have hq := quoteG_len s.size (bs s)
 rw [bs_length] at hq
 unfold lex_Quote.f
 have w0 : ∀ a : Bs, a.length ≤ 100000000 → strings_Builder_WriteByte.f k (bI a) (34 : Int) = some (bI (a ++ [34])) := fun a ha => wbyte k a 34 ha
 have h0 := w0 [] (by simp)
 rw [show (bI [] : List Int) = [] from rfl] at h0
 rw [h0]
 simp only [Option.bind_some]
 unfold joinF
 rw [runes_eq s hs k hk]
 simp only [Option.bind_some]
 have hl := quote_loop s hs (fun (l11 : List Int) => (strings_Builder_WriteByte.f k l11 (34 : Int)).bind fun r17 => (strings_Builder_String.f k r17).bind fun r24 => some (r24)) s.size 0 k [] [34] (by omega) (by omega) (by omega) (by simp) (by simp)
 rw [List.drop_zero, List.nil_append] at hl
 refine hl.trans ?_
 rw [w0 _ (by simp; omega)]
 simp only [Option.bind_some]
 unfold strings_Builder_String.f
 rw [allByte_bI]
 simp only [cond_true, Option.bind_some]
 rw [strOf_bI]
 unfold quoteF
 rw [bs_length]
 rfl
end Go.Proofs.YtoaplbeojagjcaaDoor
namespace Go.Proofs.YtoaplbeojagjcaaDoor
open Go Go.RowKit Lx
theorem o8 (x : Nat) (hx : x < 256) : (UInt8.ofNat x).toNat = x := by rw [UInt8.toNat_ofNat']; omega
theorem text_plain (q : UInt8) : ∀ (x y acc : Bs) (i f : Nat), (∀ b ∈ x, b ≠ 10 ∧ b ≠ q ∧ b ≠ 92) → textG q (x.length + f) (x ++ y) acc i = textG q f y (acc ++ x) (i + x.length)
 | [], y, acc, i, f, _ => by simp
 | b :: x, y, acc, i, f, h => by
  obtain ⟨h1, h2, h3⟩ := h b (List.mem_cons_self ..)
  rw [List.length_cons, show x.length + 1 + f = (x.length + f) + 1 by omega, List.cons_append, textG, if_neg h1, if_neg h2, if_neg h3, text_plain q x y _ _ f fun b' hb => h b' (List.mem_cons_of_mem _ hb)]
  rw [List.append_assoc, show i + 1 + x.length = i + (x.length + 1) by omega]
  rfl
theorem text_esc (q : UInt8) (hq : q ≠ 92) (e y v acc : Bs) (i f : Nat) (he : escF (e ++ y) = .ok v (e.length + 1)) : textG q (f + 1) (92 :: (e ++ y)) acc i = textG q f y (acc ++ v) (i + (e.length + 1)) := by
 rw [textG, if_neg (by decide), if_neg (fun h => hq h.symm), if_pos rfl, he]
 simp only
 rw [show (92 :: (e ++ y)).drop (e.length + 1) = y by rw [List.drop_succ_cons, List.drop_left]]
theorem plain_dig : ∀ a : Fin 10, plainB (UInt8.ofNat (48 + a.val)) = 0 ∧ UInt8.ofNat (48 + a.val) ≠ 120 ∧ UInt8.ofNat (48 + a.val) ≠ 117 := by decide +kernel
theorem escDec (a b e : Nat) (ha : a < 10) (hb : b < 10) (he : e < 10) (hn : 100 * a + 10 * b + e < 256) (y : Bs) : escF ([UInt8.ofNat (48 + a), UInt8.ofNat (48 + b), UInt8.ofNat (48 + e)] ++ y) = .ok [UInt8.ofNat (100 * a + 10 * b + e)] 4 := by
 obtain ⟨h1, h2, h3⟩ := plain_dig ⟨a, ha⟩
 simp only at h1 h2 h3
 have hd : ∀ (m : Nat) (n k x : Nat) (t : Bs), x < 10 → decG (m + 1) (UInt8.ofNat (48 + x) :: t) n k = decG m t (10 * n + x) (k + 1) := by
  intro m n k x t hx
  rw [decG, if_pos (by rw [o8 _ (by omega)]; omega), o8 _ (by omega), show 48 + x - 48 = x by omega]
 have e0 : decG 3 ([UInt8.ofNat (48 + a), UInt8.ofNat (48 + b), UInt8.ofNat (48 + e)] ++ y) 0 0 = (100 * a + 10 * b + e, 3) := by
  rw [List.cons_append, List.cons_append, List.cons_append, List.nil_append, hd 2 _ _ a _ ha, hd 1 _ _ b _ hb, hd 0 _ _ e _ he, decG]
  rw [show 10 * (10 * (10 * 0 + a) + b) + e = 100 * a + 10 * b + e by omega]
 rw [List.cons_append] at e0 ⊢
 rw [escF, if_neg (by rw [h1]; decide), if_neg h2, if_neg (fun h => h3 h.1), if_neg (by rw [e0]; simp; omega), e0]
 rfl
theorem hexD_fin : ∀ n : Fin 16, hexD (hexB n.val) = some n.val := by decide +kernel
theorem escHex (a b : Nat) (ha : a < 16) (hb : b < 16) (y : Bs) : escF ([120, hexB a, hexB b] ++ y) = .ok [UInt8.ofNat (16 * a + b)] 4 := by
 have e0 : hexG 2 ([hexB a, hexB b] ++ y) 0 0 = (16 * a + b, 2) := by
  rw [List.cons_append, List.cons_append, List.nil_append, hexG, hexD_fin ⟨a, ha⟩]
  simp only
  rw [hexG, hexD_fin ⟨b, hb⟩]
  simp only
  rw [hexG, show 16 * (16 * 0 + a) + b = 16 * a + b by omega]
 rw [List.cons_append, escF, if_neg (by decide), if_pos rfl]
 show (if (hexG 2 ([hexB a, hexB b] ++ y) 0 0).2 < 2 then Esc.unfit else .ok [UInt8.ofNat (hexG 2 ([hexB a, hexB b] ++ y) 0 0).1] 4) = _
 rw [e0, if_neg (by simp)]
theorem qOut_text (c : UInt8) (t y acc : Bs) (i f : Nat) (hf : (qOut (c :: t)).length ≤ f) : ∃ f', f ≤ f' + (qOut (c :: t)).length ∧
  textG 34 f (qOut (c :: t) ++ y) acc i = textG 34 f' y (acc ++ (c :: t).take (decL (c :: t)).2) (i + (qOut (c :: t)).length) := by
 have hc8 := c.toNat_lt
 have low : c.toNat < 128 → (c :: t).take (decL (c :: t)).2 = [c] := fun h => by rw [decL_low c t h]; rfl
 rw [qOut_cons] at hf ⊢
 by_cases c1 : c = 92 ∨ c = 34
 ·rw [if_pos c1] at hf ⊢
  simp only [List.length_cons, List.length_nil] at hf ⊢
  obtain ⟨f, rfl⟩ : ∃ g, f = g + 1 := ⟨f - 1, by omega⟩
  refine ⟨f, by omega, ?_⟩
  rw [low (by rcases c1 with rfl | rfl <;> decide)]
  exact text_esc 34 (by decide) [c] y [c] acc i f (by rcases c1 with rfl | rfl <;> rfl)
 rw [if_neg c1] at hf ⊢
 by_cases c2 : c = 10
 ·rw [if_pos c2] at hf ⊢
  simp only [List.length_cons, List.length_nil] at hf ⊢
  obtain ⟨f, rfl⟩ : ∃ g, f = g + 1 := ⟨f - 1, by omega⟩
  refine ⟨f, by omega, ?_⟩
  rw [low (by subst c2; decide)]
  exact text_esc 34 (by decide) [110] y [c] acc i f (by subst c2; rfl)
 rw [if_neg c2] at hf ⊢
 by_cases c3 : c = 13
 ·rw [if_pos c3] at hf ⊢
  simp only [List.length_cons, List.length_nil] at hf ⊢
  obtain ⟨f, rfl⟩ : ∃ g, f = g + 1 := ⟨f - 1, by omega⟩
  refine ⟨f, by omega, ?_⟩
  rw [low (by subst c3; decide)]
  exact text_esc 34 (by decide) [114] y [c] acc i f (by subst c3; rfl)
 rw [if_neg c3] at hf ⊢
 by_cases c4 : c.toNat < 32 ∨ c = 127
 ·rw [if_pos c4] at hf ⊢
  simp only [List.length_cons, List.length_nil] at hf ⊢
  obtain ⟨f, rfl⟩ : ∃ g, f = g + 1 := ⟨f - 1, by omega⟩
  refine ⟨f, by omega, ?_⟩
  have hlow : c.toNat < 128 := by
   rcases c4 with h | h
   ·omega
   ·rw [h]; decide
  rw [low hlow]
  have hx := escDec (c.toNat / 100) (c.toNat / 10 % 10) (c.toNat % 10) (by omega) (by omega) (by omega) (by omega) y
  rw [show 100 * (c.toNat / 100) + 10 * (c.toNat / 10 % 10) + c.toNat % 10 = c.toNat by omega, UInt8.ofNat_toNat] at hx
  exact text_esc 34 (by decide) [_, _, _] y [c] acc i f hx
 rw [if_neg c4] at hf ⊢
 by_cases c5 : (decL (c :: t)).1 = 65533 ∧ (decL (c :: t)).2 = 1
 ·rw [if_pos c5] at hf ⊢
  simp only [List.length_cons, List.length_nil] at hf ⊢
  obtain ⟨f, rfl⟩ : ∃ g, f = g + 1 := ⟨f - 1, by omega⟩
  refine ⟨f, by omega, ?_⟩
  rw [c5.2]
  have hx := escHex (c.toNat / 16) (c.toNat % 16) (by omega) (by omega) y
  rw [show 16 * (c.toNat / 16) + c.toNat % 16 = c.toNat by omega, UInt8.ofNat_toNat] at hx
  exact text_esc 34 (by decide) [120, _, _] y [c] acc i f hx
 ·rw [if_neg c5] at hf ⊢
  refine ⟨f - ((c :: t).take (decL (c :: t)).2).length, by omega, ?_⟩
  have := text_plain 34 ((c :: t).take (decL (c :: t)).2) y acc i (f - ((c :: t).take (decL (c :: t)).2).length) (fun b hb => ?_)
  ·rw [← this]
   congr 1
   omega
  ·by_cases hlow : b.toNat < 128
   ·obtain ⟨h1, h2⟩ := decL_bytes (c :: t) b hb hlow
    rw [h2] at hb
    have hbc : b = c := by simpa using hb
    subst hbc
    exact ⟨c2, fun h => c1 (.inr h), fun h => c1 (.inl h)⟩
   ·refine ⟨?_, ?_, ?_⟩ <;> (rintro rfl; exact hlow (by decide))
theorem text_quote : ∀ (d : Nat) (l acc r : Bs) (i f : Nat), l.length ≤ d → (quoteG d l).length + 1 ≤ f →
  textG 34 f (quoteG d l ++ 34 :: r) acc i = if (acc ++ l).length > 10000 then .bad 14 0 else .ok (acc ++ l) (i + (quoteG d l).length + 1)
 | d, [], acc, r, i, f, _, hf => by
  have e : quoteG d [] = [] := by cases d <;> simp [quoteG]
  rw [e] at hf ⊢
  obtain ⟨f, rfl⟩ : ∃ g, f = g + 1 := ⟨f - 1, by omega⟩
  rw [List.nil_append, textG, if_neg (by decide), if_pos rfl, List.append_nil]
  rfl
 | 0, c :: t, _, _, _, _, h, _ => by simp at h
 | d + 1, c :: t, acc, r, i, f, hd, hf => by
  have hw := decL_width (c :: t)
  have hw3 := hw.2.2 (by simp)
  have e : quoteG (d + 1) (c :: t) = qOut (c :: t) ++ quoteG d ((c :: t).drop (decL (c :: t)).2) := by rw [quoteG, if_neg (by simp)]
  rw [e] at hf ⊢
  rw [List.length_append] at hf
  obtain ⟨f', h1, h2⟩ := qOut_text c t (quoteG d ((c :: t).drop (decL (c :: t)).2) ++ 34 :: r) acc i f (by omega)
  rw [List.append_assoc, h2, text_quote d _ _ r _ f' (by rw [List.length_drop]; omega) (by omega)]
  have e2 : (qOut (c :: t) ++ quoteG d ((c :: t).drop (decL (c :: t)).2)).length = (qOut (c :: t)).length + (quoteG d ((c :: t).drop (decL (c :: t)).2)).length := List.length_append
  rw [List.append_assoc, List.take_append_drop, e2, show i + (qOut (c :: t)).length + (quoteG d ((c :: t).drop (decL (c :: t)).2)).length + 1 = i + ((qOut (c :: t)).length + (quoteG d ((c :: t).drop (decL (c :: t)).2)).length) + 1 by omega]
theorem quoteF_len (l : Bs) : (quoteF l).length = (quoteG l.length l).length + 2 := by simp [quoteF]
theorem step_quote (l r : Bs) (h : l.length ≤ 10000) : stepF (quoteF l ++ r) = .tok 4 l 0 (quoteF l).length ∧ runL blankR (quoteF l ++ r) = 0 := by
 have e : quoteF l ++ r = 34 :: (quoteG l.length l ++ 34 :: r) := by simp [quoteF]
 have ht := text_quote l.length l [] r 1 (quoteF l ++ r).length (Nat.le_refl _) (by rw [List.length_append, quoteF_len]; omega)
 rw [List.nil_append, if_neg (by omega)] at ht
 constructor
 ·rw [quoteF_len]
  rw [e] at ht ⊢
  unfold stepF
  rw [if_neg (by simp), if_neg (by simp [List.isPrefixOf]), decL_low 34 _ (by decide)]
  rw [if_neg (by decide), if_neg (by decide), if_pos (.inl rfl)]
  show (match textG 34 _ (quoteG l.length l ++ 34 :: r) [] 1 with | .bad c r => Step.bad c r | .ok v k => .tok 4 v 0 k) = _
  rw [ht]
  simp only
  congr 1
  omega
 ·rw [e, runL_step _ _ (by simp), decL_low 34 _ (by decide)]
  rfl
end Go.Proofs.YtoaplbeojagjcaaDoor
namespace Go.Proofs.YtoaplbeojagjcaaDoor
namespace Lx
theorem scan_count : ∀ (n : Nat) (l : Bs) (at_ : Nat) (acc t : List Tok), l.length ≤ n → scanL l at_ acc = .inr t → acc.length + 1 ≤ t.length ∧ t.length ≤ acc.length + l.length + 1 ∧ (∀ x ∈ t, x ∈ acc ∨ (at_ ≤ x.at_ ∧ x.at_ ≤ at_ + l.length)) := by
 intro n
 induction n with
 | zero =>
  intro l at_ acc t hn h
  have : l = [] := List.eq_nil_of_length_eq_zero (by omega)
  subst this
  rw [scanL_step] at h
  have e0 : stepF (([] : Bs).drop (runL blankR [])) = .done := rfl
  rw [e0] at h
  simp only [Sum.inr.injEq] at h
  subst h
  refine ⟨by simp, by simp, fun x hx => ?_⟩
  rcases List.mem_append.1 hx with hx | hx
  ·exact .inl hx
  ·simp only [List.mem_singleton] at hx
   subst hx
   exact .inr ⟨by simp, by simp [runL_nil]⟩
 | succ n ih =>
  intro l at_ acc t hn h
  rw [scanL_step] at h
  have hk := runL_le' blankR l
  cases hst : stepF (l.drop (runL blankR l)) with
  | done =>
   rw [hst] at h
   simp only [Sum.inr.injEq] at h
   subst h
   refine ⟨by simp, by simp, fun x hx => ?_⟩
   rcases List.mem_append.1 hx with hx | hx
   ·exact .inl hx
   ·simp only [List.mem_singleton] at hx
    subst hx
    exact .inr ⟨by simp, by simp; omega⟩
  | bad c' r => rw [hst] at h; cases h
  | skip q =>
   have := (stepF_take _).1 q hst
   rw [List.length_drop] at this
   rw [hst] at h
   obtain ⟨h1, h2, h3⟩ := ih _ _ _ _ (by rw [List.length_drop, List.length_drop]; omega) h
   rw [List.length_drop, List.length_drop] at h2 h3
   refine ⟨h1, by omega, fun x hx => ?_⟩
   rcases h3 x hx with h4 | h4
   ·exact .inl h4
   ·exact .inr ⟨by omega, by omega⟩
  | tok kd tx x len =>
   have := (stepF_take _).2 _ _ _ _ hst
   rw [List.length_drop] at this
   rw [hst] at h
   obtain ⟨h1, h2, h3⟩ := ih _ _ _ _ (by rw [List.length_drop, List.length_drop]; omega) h
   rw [List.length_drop, List.length_drop] at h2 h3
   rw [List.length_append, List.length_singleton] at h1 h2
   refine ⟨by omega, by omega, fun y hy => ?_⟩
   rcases h3 y hy with h4 | h4
   ·rcases List.mem_append.1 h4 with h4 | h4
    ·exact .inl h4
    ·simp only [List.mem_singleton] at h4
     subst h4
     exact .inr ⟨by simp, by simp; omega⟩
   ·exact .inr ⟨by omega, by omega⟩
end Lx
end Go.Proofs.YtoaplbeojagjcaaDoor
namespace Go.Proofs.YtoaplbeojagjcaaDoor
open Go Go.RowKit Lx
def rend (x : Tok) : Bs := if x.kind = 4 then quoteF x.text else x.text
def Fine (x : Tok) : Prop := ∀ r, Gap r → stepF (rend x ++ r) = .tok x.kind x.text x.n (rend x).length ∧ runL blankR (rend x ++ r) = 0
theorem textG_small (q : UInt8) : ∀ (f : Nat) (l acc : Bs) (i : Nat) (v : Bs) (k : Nat), textG q f l acc i = .ok v k → v.length ≤ 10000
 | 0, _, _, _, _, _, h => by cases h
 | f + 1, [], _, _, _, _, h => by cases h
 | f + 1, b :: t, acc, i, v, k, h => by
  rw [textG] at h
  by_cases h1 : b = 10
  ·rw [if_pos h1] at h; cases h
  rw [if_neg h1] at h
  by_cases h2 : b = q
  ·rw [if_pos h2] at h
   split at h
   ·cases h
   ·cases h; omega
  rw [if_neg h2] at h
  by_cases h3 : b = 92
  ·rw [if_pos h3] at h
   split at h
   ·cases h
   ·cases h
   ·exact textG_small q f _ _ _ v k h
  ·rw [if_neg h3] at h
   exact textG_small q f _ _ _ v k h
theorem decL_cutK : ∀ (l : Bs) (n : Nat), (decL l).2 ≤ n → decL (l.take n) = decL l
 | [], n, _ => by rw [List.take_nil]
 | a :: t, 0, h => by have := (decL_width (a :: t)).1; omega
 | [a], n + 1, _ => by rw [List.take_succ_cons, List.take_nil]
 | a :: b :: t, 1, h => by
  have h1 : (decL (a :: b :: t)).2 ≤ 1 := h
  revert h1
  simp only [List.take_succ_cons, List.take_zero]
  unfold decL
  dsimp only
  intro h1
  simp only [List.getD_cons_zero, List.getD_cons_succ, List.length_cons, List.length_nil, show ¬ (1 < 0 + 1) by omega, show ¬ (2 < 0 + 1) by omega, show ¬ (3 < 0 + 1) by omega, show 1 < t.length + 1 + 1 by omega, decide_true, decide_false, Bool.true_and, Bool.false_and, Bool.and_false, Bool.false_eq_true, if_false] at h1 ⊢
  by_cases h0 : a.toNat < 128
  ·rw [if_pos h0, if_pos h0]
  ·rw [if_neg h0] at h1 ⊢; rw [if_neg h0]
   revert h1; (repeat' split) <;> intro h1 <;> first | rfl | exact absurd h1 (by simp)
 | [a, b], n + 2, _ => by simp
 | a :: b :: c :: t, 2, h => by
  have h1 : (decL (a :: b :: c :: t)).2 ≤ 2 := h
  revert h1
  simp only [List.take_succ_cons, List.take_zero]
  unfold decL
  dsimp only
  intro h1
  simp only [List.getD_cons_zero, List.getD_cons_succ, List.length_cons, List.length_nil, show (1 < 0 + 1 + 1) by omega, show ¬ (2 < 0 + 1 + 1) by omega, show ¬ (3 < 0 + 1 + 1) by omega, show 1 < t.length + 1 + 1 + 1 by omega, decide_true, decide_false, Bool.true_and, Bool.false_and, Bool.and_false, Bool.false_eq_true, if_false] at h1 ⊢
  by_cases h0 : a.toNat < 128
  ·rw [if_pos h0, if_pos h0]
  ·rw [if_neg h0] at h1 ⊢; rw [if_neg h0]
   by_cases q1 : (a.toNat / 32 == 6 && b.toNat / 64 == 2) = true
   ·rw [if_pos q1, if_pos q1]
   ·rw [if_neg q1] at h1 ⊢; rw [if_neg q1]
    revert h1; (repeat' split) <;> intro h1 <;> first | rfl | exact absurd h1 (by simp)
 | [a, b, c], n + 3, _ => by simp
 | a :: b :: c :: d :: t, 3, h => by
  have h1 : (decL (a :: b :: c :: d :: t)).2 ≤ 3 := h
  revert h1
  simp only [List.take_succ_cons, List.take_zero]
  unfold decL
  dsimp only
  intro h1
  simp only [List.getD_cons_zero, List.getD_cons_succ, List.length_cons, List.length_nil, show (1 < 0 + 1 + 1 + 1) by omega, show (2 < 0 + 1 + 1 + 1) by omega, show ¬ (3 < 0 + 1 + 1 + 1) by omega, show 1 < t.length + 1 + 1 + 1 + 1 by omega, show 2 < t.length + 1 + 1 + 1 + 1 by omega, decide_true, decide_false, Bool.true_and, Bool.false_and, Bool.and_false, Bool.false_eq_true, if_false] at h1 ⊢
  by_cases h0 : a.toNat < 128
  ·rw [if_pos h0, if_pos h0]
  ·rw [if_neg h0] at h1 ⊢; rw [if_neg h0]
   by_cases q1 : (a.toNat / 32 == 6 && b.toNat / 64 == 2) = true
   ·rw [if_pos q1, if_pos q1]
   ·rw [if_neg q1] at h1 ⊢; rw [if_neg q1]
    by_cases q2 : (a.toNat / 16 == 14 && b.toNat / 64 == 2 && c.toNat / 64 == 2) = true
    ·rw [if_pos q2, if_pos q2]
    ·rw [if_neg q2] at h1 ⊢; rw [if_neg q2]
     revert h1; (repeat' split) <;> intro h1 <;> first | rfl | exact absurd h1 (by simp)
 | a :: b :: c :: d :: t, n + 4, _ => by simp [decL]
theorem decL_take (l : Bs) (n : Nat) (_ : 1 ≤ n) (h : (decL l).2 ≤ n) : decL (l.take n) = decL l := decL_cutK l n h
theorem run_take (p : Nat → Bool) : ∀ (k : Nat) (l : Bs), l.length ≤ k → runL p (l.take (runL p l)) = runL p l
 | k, [], _ => rfl
 | 0, a :: t, h => by simp at h
 | k + 1, a :: t, h => by
  have hw := decL_width (a :: t)
  have hs := runL_step p (a :: t) (by simp)
  cases hp : p (decL (a :: t)).1 with
  | false =>
   rw [hp] at hs
   rw [hs]
   rfl
  | true =>
   rw [hp, if_pos rfl] at hs
   obtain ⟨w, hww⟩ : ∃ w, w = (decL (a :: t)).2 := ⟨_, rfl⟩
   rw [← hww] at hs hw
   obtain ⟨m, hm⟩ : ∃ m, m = runL p ((a :: t).drop w) := ⟨_, rfl⟩
   rw [← hm] at hs
   rw [hs]
   have hd := decL_take (a :: t) (w + m) (by omega) (by omega)
   have hne : (a :: t).take (w + m) ≠ [] := by
    obtain ⟨x, hx⟩ : ∃ x, w + m = x + 1 := ⟨w + m - 1, by omega⟩
    rw [hx]; simp
   rw [runL_step p _ hne, hd, hp, if_pos rfl, ← hww]
   have e : ((a :: t).take (w + m)).drop w = ((a :: t).drop w).take m := by rw [List.drop_take]; congr 1; omega
   rw [e, hm, run_take p k _ (by rw [List.length_drop]; simp only [List.length_cons] at h ⊢; omega)]
theorem blank_is {r : Nat} (h : blankR r = true) : r = 32 ∨ r = 9 ∨ r = 10 ∨ r = 13 := by
 unfold blankR at h
 simp only [Bool.or_eq_true, beq_iff_eq] at h
 omega
theorem decL_asciiK {l : Bs} (hl : l ≠ []) (h : (decL l).1 < 128) : ∃ b t, l = b :: t ∧ b.toNat = (decL l).1 ∧ (decL l).2 = 1 := by
 cases l with
 | nil => exact absurd rfl hl
 | cons b t =>
  refine ⟨b, t, rfl, ?_⟩
  by_cases hb : b.toNat < 128
  ·rw [decL_low b t hb]; exact ⟨rfl, rfl⟩
  ·exfalso
   simp only [decL, List.getD_cons_zero] at h
   rw [if_neg (by omega)] at h
   (repeat' split at h) <;> simp_all <;> omega
theorem tok_noblank {l : Bs} {k : Int} {t : Bs} {n : Int} {len : Nat} (h : stepF l = .tok k t n len) : runL blankR l = 0 := by
 have hl : l ≠ [] := by rintro rfl; simp [stepF] at h
 rw [runL_step _ _ hl]
 cases hb : blankR (decL l).1 with
 | false => rfl
 | true =>
  exfalso
  have hr := blank_is hb
  obtain ⟨b, t', rfl, hbv, _⟩ := decL_asciiK hl (by omega)
  have key : ∀ b : UInt8, b = 32 ∨ b = 9 ∨ b = 10 ∨ b = 13 → ∀ t', stepF (b :: t') = .bad 4 0 := by
   intro b hb t'
   have hlow : b.toNat < 128 := by rcases hb with rfl | rfl | rfl | rfl <;> decide
   unfold stepF
   rw [decL_low b t' hlow]
   rcases hb with rfl | rfl | rfl | rfl <;> rfl
  have hb4 : b = 32 ∨ b = 9 ∨ b = 10 ∨ b = 13 := by
   rw [← hbv] at hr
   rcases hr with h | h | h | h
   ·exact .inl (UInt8.toNat_inj.1 h)
   ·exact .inr (.inl (UInt8.toNat_inj.1 h))
   ·exact .inr (.inr (.inl (UInt8.toNat_inj.1 h)))
   ·exact .inr (.inr (.inr (UInt8.toNat_inj.1 h)))
  rw [key b hb4] at h
  cases h
theorem sign_step : ∀ s ∈ signList, stepF s = .tok 5 s 0 s.length := by
 intro s hs
 simp only [signList, List.mem_cons, List.mem_nil_iff, or_false] at hs
 rcases hs with rfl | rfl | rfl | rfl | rfl | rfl | rfl | rfl | rfl | rfl | rfl | rfl | rfl | rfl | rfl | rfl | rfl | rfl | rfl | rfl | rfl | rfl | rfl <;> kernel_rfl
theorem step_take {l : Bs} {k : Int} {t : Bs} {n : Int} {len : Nat} (h : stepF l = .tok k t n len) (hk : k ≠ 4) : t ≠ [] ∧ t.length = len ∧ stepF t = .tok k t n len := by
 have hl : l ≠ [] := by rintro rfl; simp [stepF] at h
 have hlen := (stepF_take l).2 _ _ _ _ h
 have h0 := h
 unfold stepF at h
 rw [if_neg hl] at h
 have no45 : ∀ m, 1 ≤ m → (decL l).2 ≤ m → (decL l).1 ≠ 45 → ¬ [45, 45].isPrefixOf (l.take m) = true := by
  intro m h1 h2 h3 hp
  have hd := decL_take l m h1 h2
  cases hq : l.take m with
  | nil => rw [hq] at hp; cases hp
  | cons a q =>
   rw [hq] at hp hd
   simp only [List.isPrefixOf, Bool.and_eq_true, beq_iff_eq] at hp
   rw [← hp.1, decL_low 45 q (by decide)] at hd
   exact h3 (by rw [← hd]; rfl)
 have ntake : ∀ m, 1 ≤ m → l.take m ≠ [] := by
  intro m hm e
  have := congrArg List.length e
  rw [List.length_take, List.length_nil] at this
  have := List.length_pos_iff.2 hl
  omega
 by_cases c1 : [45, 45].isPrefixOf l = true
 ·rw [if_pos c1] at h; cases h
 rw [if_neg c1] at h
 have hw := decL_width l
 by_cases c2 : letterR (decL l).1 = true
 ·rw [if_pos c2] at h
  have hp : partR (decL l).1 = true := by unfold partR; rw [c2]; rfl
  have hrun := runL_step partR l hl
  rw [hp, if_pos rfl] at hrun
  have ht := run_take partR l.length l (Nat.le_refl _)
  have hle := runL_le' partR l
  obtain ⟨m, hm⟩ : ∃ m, m = runL partR l := ⟨_, rfl⟩
  rw [← hm] at h hrun ht hle
  have hd := decL_take l m (by omega) (by omega)
  by_cases c3 : m > 40
  ·rw [if_pos c3] at h; cases h
  rw [if_neg c3] at h
  simp only [Step.tok.injEq] at h
  obtain ⟨h1, h2, h3, h4⟩ := h
  subst h2
  subst h4
  refine ⟨ntake m (by omega), by rw [List.length_take]; omega, ?_⟩
  have n45 : (decL l).1 ≠ 45 := fun e => by rw [e] at c2; exact absurd c2 (by decide)
  unfold stepF
  rw [if_neg (ntake m (by omega)), if_neg (no45 m (by omega) (by omega) n45), hd, if_pos c2, ht]
  simp only
  rw [if_neg c3, List.take_take, Nat.min_self, ← h1, ← h3]
 rw [if_neg c2] at h
 by_cases c3 : digitR (decL l).1 = true
 ·rw [if_pos c3] at h
  have hp : partR (decL l).1 = true := by unfold partR; rw [c3]; simp
  have hrun := runL_step partR l hl
  rw [hp, if_pos rfl] at hrun
  have ht := run_take partR l.length l (Nat.le_refl _)
  have hle := runL_le' partR l
  obtain ⟨m, hm⟩ : ∃ m, m = runL partR l := ⟨_, rfl⟩
  rw [← hm] at h hrun ht hle
  have hd := decL_take l m (by omega) (by omega)
  by_cases c4 : (parseF (l.take m)).2 ≠ 0
  ·rw [if_pos c4] at h; cases h
  rw [if_neg c4] at h
  simp only [Step.tok.injEq] at h
  obtain ⟨h1, h2, h3, h4⟩ := h
  subst h2
  subst h4
  refine ⟨ntake m (by omega), by rw [List.length_take]; omega, ?_⟩
  have n45 : (decL l).1 ≠ 45 := fun e => by rw [e] at c3; exact absurd c3 (by decide)
  unfold stepF
  rw [if_neg (ntake m (by omega)), if_neg (no45 m (by omega) (by omega) n45), hd, if_neg c2, if_pos c3, ht]
  simp only
  rw [List.take_take, Nat.min_self, if_neg c4, ← h1, ← h3]
 rw [if_neg c3] at h
 by_cases c4 : (decL l).1 = 34 ∨ (decL l).1 = 39
 ·rw [if_pos c4] at h
  split at h
  ·cases h
  ·simp only [Step.tok.injEq] at h
   exact absurd h.1.symm hk
 rw [if_neg c4] at h
 split at h
 ·cases h
 ·rename_i s hs
  simp only [Step.tok.injEq] at h
  obtain ⟨h1, h2, h3, h4⟩ := h
  subst h1
  subst h2
  subst h3
  have hin : s ∈ signList := List.mem_of_find?_eq_some hs
  refine ⟨?_, h4, by rw [← h4]; exact sign_step s hin⟩
  rintro rfl
  simp only [List.length_nil] at h4
  omega
theorem step_kind {l : Bs} {k : Int} {t : Bs} {n : Int} {len : Nat} (h : stepF l = .tok k t n len) : k ≠ 6 ∧ (k = 4 → t.length ≤ 10000 ∧ n = 0) := by
 unfold stepF at h
 by_cases c0 : l = []
 ·rw [if_pos c0] at h; cases h
 rw [if_neg c0] at h
 by_cases c1 : [45, 45].isPrefixOf l = true
 ·rw [if_pos c1] at h; cases h
 rw [if_neg c1] at h
 by_cases c2 : letterR (decL l).1 = true
 ·rw [if_pos c2] at h
  dsimp only at h
  by_cases c3 : runL partR l > 40
  ·rw [if_pos c3] at h; cases h
  rw [if_neg c3] at h
  simp only [Step.tok.injEq] at h
  rw [← h.1]
  by_cases c4 : isWordF (l.take (runL partR l)) = true
  ·rw [if_pos c4]; exact ⟨by decide, fun e => absurd e (by decide)⟩
  ·rw [if_neg c4]; exact ⟨by decide, fun e => absurd e (by decide)⟩
 rw [if_neg c2] at h
 by_cases c3 : digitR (decL l).1 = true
 ·rw [if_pos c3] at h
  dsimp only at h
  by_cases c4 : (parseF (l.take (runL partR l))).2 ≠ 0
  ·rw [if_pos c4] at h; cases h
  rw [if_neg c4] at h
  simp only [Step.tok.injEq] at h
  rw [← h.1]
  exact ⟨by decide, fun e => absurd e (by decide)⟩
 rw [if_neg c3] at h
 by_cases c4 : (decL l).1 = 34 ∨ (decL l).1 = 39
 ·rw [if_pos c4] at h
  cases ht : textG (UInt8.ofNat (decL l).1) l.length l.tail [] 1 with
  | bad c r => rw [ht] at h; cases h
  | ok v q =>
   rw [ht] at h
   simp only [Step.tok.injEq] at h
   rw [← h.1, ← h.2.1, ← h.2.2.1]
   exact ⟨by decide, fun _ => ⟨textG_small _ _ _ _ _ _ _ ht, rfl⟩⟩
 rw [if_neg c4] at h
 cases hs : signF l with
 | none => rw [hs] at h; cases h
 | some s =>
  rw [hs] at h
  simp only [Step.tok.injEq] at h
  rw [← h.1]
  exact ⟨by decide, fun e => absurd e (by decide)⟩
theorem fine_of {l : Bs} {k : Int} {t : Bs} {n : Int} {len : Nat} (h : stepF l = .tok k t n len) (a : Nat) : Fine ⟨k, t, n, a⟩ := by
 intro r hr
 unfold rend
 by_cases hk : k = 4
 ·obtain ⟨ht, hn⟩ := (step_kind h).2 hk
  rw [if_pos hk]
  obtain ⟨h1, h2⟩ := step_quote t r ht
  rw [hk, hn]
  exact ⟨h1, h2⟩
 ·rw [if_neg hk]
  obtain ⟨h1, h2, h3⟩ := step_take h hk
  have h4 := stepF_append t r h1 hr _ _ _ _ h3
  simp only [h2]
  exact ⟨h4, tok_noblank h4⟩
theorem step_len {l : Bs} {k : Int} {t : Bs} {n : Int} {len : Nat} (h : stepF l = .tok k t n len) : t.length ≤ l.length + 10000 := by
 by_cases hk : k = 4
 ·have := ((step_kind h).2 hk).1; omega
 ·have := (step_take h hk).2.1
  have := (stepF_take l).2 _ _ _ _ h
  omega
theorem scan_fine (N : Nat) : ∀ (n : Nat) (l : Bs) (at_ : Nat) (acc t : List Tok), n ≤ N → l.length ≤ n → (∀ x ∈ acc, Fine x ∧ x.kind ≠ 6 ∧ x.text.length ≤ N + 10000) → scanL l at_ acc = .inr t → ∃ T e, t = T ++ [⟨6, [], 0, e⟩] ∧ ∀ x ∈ T, Fine x ∧ x.kind ≠ 6 ∧ x.text.length ≤ N + 10000 := by
 intro n
 induction n with
 | zero =>
  intro l at_ acc t hN hn hacc h
  have : l = [] := List.eq_nil_of_length_eq_zero (by omega)
  subst this
  rw [scanL_step] at h
  have e0 : stepF (([] : Bs).drop (runL blankR [])) = .done := rfl
  rw [e0] at h
  cases h
  exact ⟨acc, _, rfl, hacc⟩
 | succ n ih =>
  intro l at_ acc t hN hn hacc h
  rw [scanL_step] at h
  have hlen := runL_le' blankR l
  cases hst : stepF (l.drop (runL blankR l)) with
  | done => rw [hst] at h; cases h; exact ⟨acc, _, rfl, hacc⟩
  | bad c r => rw [hst] at h; cases h
  | skip q =>
   rw [hst] at h
   have := (stepF_take _).1 q hst
   rw [List.length_drop] at this
   exact ih _ _ _ _ (by omega) (by rw [List.length_drop, List.length_drop]; omega) hacc h
  | tok kd tx v len =>
   rw [hst] at h
   have := (stepF_take _).2 _ _ _ _ hst
   rw [List.length_drop] at this
   refine ih _ _ _ _ (by omega) (by rw [List.length_drop, List.length_drop]; omega) (fun y hy => ?_) h
   rcases List.mem_append.1 hy with hy | hy
   ·exact hacc y hy
   ·obtain rfl := List.mem_singleton.1 hy
    exact ⟨fine_of hst _, (step_kind hst).1, by have := step_len hst; rw [List.length_drop] at this; simp only; omega⟩
def SmK : List Tok → List Tok → Prop
 | [], [] => True
 | x :: l, y :: m => (x.kind = y.kind ∧ x.text = y.text ∧ x.n = y.n) ∧ SmK l m
 | _, _ => False
theorem plain_scan : ∀ (T : List Tok) (at_ : Nat) (acc : List Tok), (∀ x ∈ T, Fine x) → ∃ T' e, scanL (T.flatMap (fun x => rend x ++ [32]) ++ [32]) at_ acc = .inr (acc ++ T' ++ [⟨6, [], 0, e⟩]) ∧ SmK T T'
 | [], at_, acc, _ => by
  refine ⟨[], at_ + 1, ?_, trivial⟩
  rw [List.flatMap_nil, List.nil_append, show ([32] : Bs) = [32] ++ [] from rfl, scanL_blanks [] at_ acc [32] (by decide)]
  rw [scanL_step]
  rw [show stepF (([] : Bs).drop (runL blankR [])) = .done from rfl]
  simp [runL_nil]
 | x :: T, at_, acc, h => by
  have hx := h x (List.mem_cons_self ..) (32 :: (T.flatMap (fun x => rend x ++ [32]) ++ [32])) ⟨32, _, rfl, .inl rfl⟩
  have e0 : (x :: T).flatMap (fun x => rend x ++ [32]) ++ [32] = rend x ++ 32 :: (T.flatMap (fun x => rend x ++ [32]) ++ [32]) := by simp
  obtain ⟨T', e, h1, h2⟩ := plain_scan T (at_ + (rend x).length + 1) (acc ++ [⟨x.kind, x.text, x.n, at_⟩]) fun y hy => h y (List.mem_cons_of_mem _ hy)
  refine ⟨⟨x.kind, x.text, x.n, at_⟩ :: T', e, ?_, ⟨rfl, rfl, rfl⟩, h2⟩
  rw [e0, scanL_step, hx.2, List.drop_zero, Nat.add_zero, hx.1]
  simp only
  rw [List.drop_left, show ∀ q : Bs, (32 : UInt8) :: q = [32] ++ q from fun _ => rfl, scanL_blanks _ _ _ [32] (by decide)]
  refine h1.trans ?_
  simp
end Go.Proofs.YtoaplbeojagjcaaDoor
namespace Go.Proofs.YtoaplbeojagjcaaDoor
open Go Go.RowKit Lx
theorem lIdx_natY {α : Type} {l : List α} {i : Nat} (h : i < l.length) : lIdx l (i : Int) = some l[i] := by
 unfold lIdx
 rw [if_pos (by omega), Int.toNat_natCast, List.getElem?_eq_getElem h]
theorem rend_len (x : Tok) (h : x.text.length ≤ 30000) : (rend x).length ≤ 120002 := by
 unfold rend
 split
 ·rw [quoteF_len]
  have := quoteG_len x.text.length x.text
  omega
 ·omega
theorem plain_loop (F : Nat) (hF : 1048600 ≤ F) (T : List Tok) (r : Int × Int) (J : List Int → Option Bool) (hT : T.length ≤ 30000) (ht : ∀ x ∈ T, x.text.length ≤ 30000) : ∀ (d i k : Nat) (acc : Bs), T.length - i ≤ d → i ≤ T.length → d + F < k → acc.length ≤ i * 120003 →
  law11_LexPlain.l1 k (T.map tokT, r) J (bI acc) (i : Int) = J (bI (acc ++ (T.drop i).flatMap fun x => rend x ++ [32]))
 := by
 intro d
 induction d with
 | zero =>
  intro i k acc hd hi hk ha
  obtain ⟨k, rfl⟩ : ∃ m, k = m + 1 := ⟨k - 1, by omega⟩
  simp only [law11_LexPlain.l1, List.length_map]
  rw [dF (p := (i : Int) < T.length) (by omega), List.drop_of_length_le (by omega)]
  simp
 | succ d ih =>
  intro i k acc hd hi hk ha
  obtain ⟨k, rfl⟩ : ∃ m, k = m + 1 := ⟨k - 1, by omega⟩
  simp only [law11_LexPlain.l1, List.length_map]
  rcases Nat.lt_or_ge i T.length with h | h
  ·have hx := ht T[i] (List.getElem_mem h)
   have hr := rend_len T[i] hx
   have key : ∀ z : ByteArray, bs z = rend T[i] → ((apd 1 (bI acc) (bsI z)).bind fun l96 => (apd 1 l96 [(32 : Int)]).bind fun l102 => law11_LexPlain.l1 k (T.map tokT, r) J l102 (IntKind.i64.wrap ((i : Int) + (1 : Int)))) = J (bI (acc ++ (T.drop i).flatMap fun x => rend x ++ [32])) := by
    intro z hz
    have hi2 : i * 120003 ≤ 30000 * 120003 := Nat.mul_le_mul_right _ (by omega)
    rw [bsI_bI, hz, apd_ok 1 _ _ (by rw [bI_length, bI_length]; omega)]
    simp only [Option.bind_some]
    rw [← bI_append, apd_ok 1 _ _ (by rw [bI_length, List.length_append]; simp only [List.length_cons, List.length_nil]; omega)]
    simp only [Option.bind_some]
    rw [show ([(32 : Int)]) = bI [32] from rfl, ← bI_append, wi ((i : Int) + 1) (by omega) (by omega), show (i : Int) + 1 = ((i + 1 : Nat) : Int) by omega]
    rw [ih (i + 1) k _ (by omega) (by omega) (by omega) (by rw [List.length_append, List.length_append]; simp only [List.length_cons, List.length_nil]; omega)]
    rw [List.drop_eq_getElem_cons h, List.flatMap_cons]
    simp only [List.append_assoc]
   rw [dT (p := (i : Int) < T.length) (by omega), lIdx_natY (l := T.map tokT) (by rw [List.length_map]; exact h)]
   simp only [cond_true, Option.bind_some, List.getElem_map]
   unfold joinF
   by_cases h4 : T[i].kind = 4
   ·rw [show ((tokT T[i]).1 == (4 : Int)) = true from beq_iff_eq.2 h4]
    simp only [cond_true]
    rw [show (tokT T[i]).2.1 = str T[i].text from rfl, pquote_eq (str T[i].text) (by rw [str_size]; omega) k (by omega)]
    simp only [Option.bind_some]
    refine key _ ?_
    rw [bs_str, bs_str]
    unfold rend
    rw [if_pos h4]
   ·rw [show ((tokT T[i]).1 == (4 : Int)) = false from beq_eq_false_iff_ne.2 h4]
    simp only [cond_false]
    refine key _ ?_
    rw [show (tokT T[i]).2.1 = str T[i].text from rfl, bs_str]
    unfold rend
    rw [if_neg h4]
  ·rw [dF (p := (i : Int) < T.length) (by omega), List.drop_of_length_le h]
   simp
theorem plain_loop0 (F : Nat) (hF : 1048600 ≤ F) (T : List Tok) (r : Int × Int) (J : List Int → Option Bool) (hT : T.length ≤ 30000) (ht : ∀ x ∈ T, x.text.length ≤ 30000) (k : Nat) (hk : T.length + F < k) :
  law11_LexPlain.l1 k (T.map tokT, r) J [] 0 = J (bI (T.flatMap fun x => rend x ++ [32])) := by
 have h := plain_loop F hF T r J hT ht T.length 0 k [] (Nat.le_of_eq (Nat.sub_zero _)) (Nat.zero_le _) hk (Nat.zero_le _)
 rw [List.drop_zero, List.nil_append, Int.ofNat_zero] at h
 exact h
theorem plain_cmp (c e : Int × Int) (J : Unit → Option Bool) (X Y : List (Int × ByteArray × Int × Int)) (hl : X.length = Y.length) (hn : X.length ≤ 1000000)
  (h : ∀ i (h1 : i < X.length) (h2 : i < Y.length), X[i].1 = Y[i].1 ∧ X[i].2.1 = Y[i].2.1 ∧ X[i].2.2.1 = Y[i].2.2.1) : ∀ (d i k : Nat), X.length - i ≤ d → i ≤ X.length → d < k → law11_LexPlain.l0 k (Y, c) (X, e) J (i : Int) = J ()
 | d, i, k, hd, hi, hk => by
  obtain ⟨k, rfl⟩ : ∃ m, k = m + 1 := ⟨k - 1, by omega⟩
  simp only [law11_LexPlain.l0]
  rcases Nat.lt_or_ge i X.length with h1 | h1
  ·obtain ⟨d, rfl⟩ : ∃ m, d = m + 1 := ⟨d - 1, by omega⟩
   obtain ⟨e1, e2, e3⟩ := h i h1 (by omega)
   rw [dT (p := (i : Int) < X.length) (by omega), lIdx_natY h1, lIdx_natY (l := Y) (by omega), wi ((i : Int) + 1) (by omega) (by omega), show (i : Int) + 1 = ((i + 1 : Nat) : Int) by omega]
   simp only [Option.bind_some, cond_true, e1, e2, e3, bne_self_eq_false, cond_false, beq_self_eq_true, Bool.not_true]
   exact plain_cmp c e J X Y hl hn h d (i + 1) k (by omega) (by omega) (by omega)
  ·rw [dF (p := (i : Int) < X.length) (by omega)]
   rfl
theorem plain_cmp0 (c e : Int × Int) (J : Unit → Option Bool) (X Y : List (Int × ByteArray × Int × Int)) (hl : X.length = Y.length) (hn : X.length ≤ 1000000)
  (h : ∀ i (h1 : i < X.length) (h2 : i < Y.length), X[i].1 = Y[i].1 ∧ X[i].2.1 = Y[i].2.1 ∧ X[i].2.2.1 = Y[i].2.2.1) (k : Nat) (hk : X.length < k) : law11_LexPlain.l0 k (Y, c) (X, e) J 0 = J () := by
 have h := plain_cmp c e J X Y hl hn h X.length 0 k (Nat.le_of_eq (Nat.sub_zero _)) (Nat.zero_le _) hk
 rw [Int.ofNat_zero] at h
 exact h
theorem smk_len : ∀ T T' : List Tok, SmK T T' → T.length = T'.length
 | [], [], _ => rfl
 | _ :: T, _ :: T', h => by simp only [List.length_cons]; rw [smk_len T T' h.2]
 | [], _ :: _, h => h.elim
 | _ :: _, [], h => h.elim
theorem smk_at : ∀ (T T' : List Tok), SmK T T' → ∀ i (h1 : i < T'.length) (h2 : i < T.length), T'[i].kind = T[i].kind ∧ T'[i].text = T[i].text ∧ T'[i].n = T[i].n
 | [], [], _, _, h1, _ => absurd h1 (Nat.not_lt_zero _)
 | x :: T, y :: T', h, 0, _, _ => ⟨h.1.1.symm, h.1.2.1.symm, h.1.2.2.symm⟩
 | x :: T, y :: T', h, i + 1, h1, h2 => smk_at T T' h.2 i (Nat.lt_of_succ_lt_succ h1) (Nat.lt_of_succ_lt_succ h2)
 | [], _ :: _, h, _, _, _ => h.elim
 | _ :: _, [], h, _, _, _ => h.elim
theorem smk_snoc : ∀ (T T' : List Tok) (x y : Tok), SmK T T' → (x.kind = y.kind ∧ x.text = y.text ∧ x.n = y.n) → SmK (T ++ [x]) (T' ++ [y])
 | [], [], x, y, _, h => ⟨h, trivial⟩
 | _ :: T, _ :: T', x, y, h, h' => ⟨h.1, smk_snoc T T' x y h.2 h'⟩
 | [], _ :: _, _, _, h, _ => h.elim
 | _ :: _, [], _, _, h, _ => h.elim
theorem scanF_neY (l : Bs) (c p : Int) (h : scanF l = .inl (c, p)) : c ≠ 0 := by
 unfold scanF at h
 split at h
 ·simp only [Sum.inl.injEq, Prod.mk.injEq] at h
  omega
 ·exact scan_ne l.length l 0 [] c p (Nat.le_refl _) h
theorem plain_true (s : ByteArray) (k : Nat) (hk : 1100000 ≤ k) : law11_LexPlain.f k s = some true := by
 unfold law11_LexPlain.f law11_fixed.f lex_Scan.f joinF
 simp only [Option.bind_some, Bool.not_true, cond_false]
 cases hs : scanF (bs s) with
 | inl x =>
  obtain ⟨c, p⟩ := x
  have hc := scanF_neY _ _ _ hs
  have hl : lexR s = ([], c, p) := by unfold lexR; rw [hs]
  have e0 : ((c : Int) != 0) = true := bne_iff_ne.2 hc
  rw [hl]
  obtain ⟨k, rfl⟩ : ∃ m, k = m + 1 := ⟨k - 1, by omega⟩
  simp only [law11_LexPlain.l1, List.length_nil]
  rw [dF (p := (0 : Int) < ((0 : Nat) : Int)) (by omega)]
  simp only [cond_false, e0, cond_true, Option.bind_some]
 | inr l =>
  have hbig : (bs s).length ≤ 20000 := by
   by_cases hbig : (bs s).length ≤ 20000
   ·exact hbig
   ·exfalso
    unfold scanF at hs
    rw [if_pos (by omega)] at hs
    cases hs
  have hs' := hs
  rw [scanF_small _ hbig] at hs'
  have hcount := (scan_count _ _ _ _ _ (Nat.le_refl _) hs').2.1
  obtain ⟨T, e, rfl, hT⟩ := scan_fine 20000 _ _ _ _ _ hbig (Nat.le_refl _) (fun x hx => by cases hx) hs'
  have hl : lexR s = ((T ++ [(⟨6, [], 0, e⟩ : Tok)]).map tokT, 0, 0) := by unfold lexR; rw [hs]
  simp only [List.length_nil, List.length_append, List.length_cons] at hcount
  rw [hl]
  rw [plain_loop0 1048600 (Nat.le_refl _) (T ++ [(⟨6, [], 0, e⟩ : Tok)]) _ _ (by simp only [List.length_append, List.length_cons, List.length_nil]; omega) (fun x hx => by
   rcases List.mem_append.1 hx with hx | hx
   ·exact (hT x hx).2.2
   ·obtain rfl := List.mem_singleton.1 hx; simp) k (by simp only [List.length_append, List.length_cons, List.length_nil]; omega)]
  rw [List.flatMap_append, bI_length, strOf_bI]
  rw [show ([(⟨6, [], 0, e⟩ : Tok)] : List Tok).flatMap (fun x => rend x ++ [32]) = [32] from by simp [rend]]
  obtain ⟨T', e', h1, h2⟩ := plain_scan T 0 [] (fun x hx => (hT x hx).1)
  rw [List.nil_append] at h1
  have e0 : ((0 : Int) != 0) = false := rfl
  generalize hB : T.flatMap (fun x => rend x ++ [32]) ++ [(32 : UInt8)] = B at h1 ⊢
  simp only [e0, cond_false, Option.bind_some]
  by_cases hb : B.length ≤ 20000
  ·rw [dF (p := ((B.length : Nat) : Int) > 20000) (by omega)]
   have hl2 : lexR (str B) = ((T' ++ [(⟨6, [], 0, e'⟩ : Tok)]).map tokT, 0, 0) := by
    unfold lexR; rw [bs_str, scanF_small _ hb, h1]
   rw [hl2]
   have hsm := smk_snoc T T' ⟨6, [], 0, e⟩ ⟨6, [], 0, e'⟩ h2 ⟨rfl, rfl, rfl⟩
   have hle := smk_len _ _ hsm
   have e2 : (((((T' ++ [(⟨6, [], 0, e'⟩ : Tok)]).map tokT).length : Nat) : Int) != ((((T ++ [(⟨6, [], 0, e⟩ : Tok)]).map tokT).length : Nat) : Int)) = false := by
    rw [List.length_map, List.length_map, hle]; exact bne_self_eq_false _
   simp only [cond_false, e0, e2, Option.bind_some]
   have hlen : (T ++ [(⟨6, [], 0, e⟩ : Tok)]).length ≤ 20001 := by simp only [List.length_append, List.length_cons, List.length_nil]; omega
   refine (plain_cmp0 _ _ _ _ _ (by rw [List.length_map, List.length_map, hle]) (by rw [List.length_map]; omega) (fun i h1 h2 => ?_) k (by rw [List.length_map, ← hle]; omega)).trans rfl
   have := smk_at _ _ hsm i (by rw [List.length_map] at h1; exact h1) (by rw [List.length_map] at h2; exact h2)
   rw [List.getElem_map, List.getElem_map]
   exact ⟨this.1, congrArg str this.2.1, this.2.2⟩
  ·rw [dT (p := ((B.length : Nat) : Int) > 20000) (by omega)]
   simp only [cond_true]
   rw [dT (p := (((((T ++ [(⟨6, [], 0, e⟩ : Tok)]).map tokT).length : Nat) : Int) > (0 : Int))) (by rw [List.length_map, List.length_append]; simp only [List.length_cons, List.length_nil]; omega)]
end Go.Proofs.YtoaplbeojagjcaaDoor
