import Derived.Test.YtmeopehknkfnbaaTab
import Derived.Test.YtmeopehknkfnbaaM
import Derived.Test.YtmeopehknkfnbaaIt
import Derived.Test.YtmeopehknkfnbaaW4
set_option linter.unusedVariables false
set_option maxRecDepth 100000
set_option maxHeartbeats 4000000
namespace Go.Proofs.Ytmeopehknkfnbaa
open Go.E Go.RowKit
attribute [local irreducible] Go.E.WO Go.E.WK
def census_Right_Q (r : Int × Int × Int × List Int × Int) : Value → List Ent → Prop := fun v L => ∃ (a0 : Option Addr) (q0 c0 : Nat), v = .tuple #[.agg #[.int .i64 r.1, .int .i64 r.2.1, .int .i64 r.2.2.1, .slice a0 q0 c0], .int .i64 r.2.2.2.2] ∧ OwnE 3 1 (I1 .i64) (.slice a0 q0 c0) r.2.2.2.1 L
theorem census_Right_walk {m : Mu} {p0_0 : Int} {p0_1 : Int} {p0_2 : Int} {p0_3 : List Int} {a_p0_3 : Option Addr} {q_p0_3 c_p0_3 : Nat} (h_p0_3 : SlR (FE (I1 .i64)) 1 m (.slice a_p0_3 q_p0_3 c_p0_3) p0_3) {r : Int × Int × Int × List Int × Int} (hm : census_Right p0_0 p0_1 p0_2 p0_3 = some r) :
    Go.E.Spec Try.prog 28 [.agg #[.int .i64 p0_0, .int .i64 p0_1, .int .i64 p0_2, .slice a_p0_3 q_p0_3 c_p0_3]] m (fun v _ L => census_Right_Q r v L) := by
  refine Spec_enter Try.func28 rfl rfl rfl (fun w0 => ?_)
  refine WK.sub (e' := [(0, .agg #[.int .i64 p0_0, .int .i64 p0_1, .int .i64 p0_2, .slice a_p0_3 q_p0_3 c_p0_3])]) ⟨rfl, trivial⟩ ?_
  obtain rfl := SlR.qlen h_p0_3
  refine WK.sub (e' := [(0, .agg #[.int .i64 p0_0, .int .i64 p0_1, .int .i64 p0_2, .slice a_p0_3 p0_3.length c_p0_3])]) ⟨rfl, trivial⟩ ?_
  unfold census_Right at hm
  refine WK_seq ?_
  refine WK_region ?_
  refine WO_box [.int .i64 p0_0, .int .i64 p0_1, .int .i64 p0_2, .slice a_p0_3 p0_3.length c_p0_3] rfl rfl trivial rfl rfl rfl (fun b2 => ?_)
  refine WO.cls (C' := St w0 m m [[⟨b2, 39, [.int .i64 p0_0, .int .i64 p0_1, .int .i64 p0_2, .slice a_p0_3 p0_3.length c_p0_3]⟩]]) (fun _ h => h) ?_
  refine WO_alloc tbok [.int .i64 0, .int .i64 0, .int .i64 0, .slice none 0 0] rfl rfl trivial rfl rfl rfl rfl (fun b3 => ?_)
  refine WO.cls (C' := St w0 m m [[⟨b2, 39, [.int .i64 p0_0, .int .i64 p0_1, .int .i64 p0_2, .slice a_p0_3 p0_3.length c_p0_3]⟩], [⟨b3, 39, [.int .i64 0, .int .i64 0, .int .i64 0, .slice none 0 0]⟩]]) (fun _ h => h) ?_
  refine WO_pure tbok 1 [(1, .pointer (some ⟨b2, 0, none⟩)), (2, .pointer (some ⟨b3, 0, none⟩)), (3, .int .i64 0)] rfl ⟨rfl, rfl, rfl, trivial⟩ ?_
  refine WO_end ?_
  refine WK_seq ?_
  refine WK_seq ?_
  refine WK_region ?_
  refine WO_loadB tbok 0 rfl rfl rfl rfl (fun _ h => h) rfl rfl ?_
  obtain ⟨y_1, hc4, hm⟩ := bind_some hm
  refine WO_call0 (.int .i64 y_1) rfl rfl trivial rfl rfl rfl rfl St_closed ⟨21, #[], #[], rfl, callable_21, fun w hw => ⟨_, hw.sat, census_Check_walk h_p0_3 hc4⟩⟩ ?_
  refine WO_pure tbok 1 [(1, .pointer (some ⟨b2, 0, none⟩)), (2, .pointer (some ⟨b3, 0, none⟩)), (3, .int .i64 0), (4, .int .i64 y_1)] rfl ⟨rfl, rfl, rfl, rfl, trivial⟩ ?_
  refine WO_end ?_
  refine WK_seq ?_
  refine WK_region ?_
  refine WO_pure tbok 2 [(1, .pointer (some ⟨b2, 0, none⟩)), (2, .pointer (some ⟨b3, 0, none⟩)), (3, .int .i64 0), (4, .int .i64 y_1), (13, .bool (y_1 != 0))] rfl ⟨rfl, rfl, rfl, rfl, rfl, trivial⟩ ?_
  refine WO_end ?_
  refine WK_cond (b := y_1 != 0) rfl (fun hb5 => ?_) (fun hb5 => ?_)
  · have hm := ifT hb5 hm
    refine WK_seq ?_
    refine WK_region ?_
    refine WO_pure tbok 2 [(1, .pointer (some ⟨b2, 0, none⟩)), (2, .pointer (some ⟨b3, 0, none⟩)), (3, .int .i64 0), (14, .agg #[.int .i64 0, .int .i64 0, .int .i64 0, .slice none 0 0]), (15, .int .i64 y_1)] rfl ⟨rfl, rfl, rfl, rfl, rfl, trivial⟩ ?_
    refine WO_storeB tbok 1 [.int .i64 0, .int .i64 0, .int .i64 0, .slice none 0 0] rfl rfl rfl rfl rfl rfl rfl ?_
    refine WO.cls (C' := St w0 m m [[⟨b2, 39, [.int .i64 p0_0, .int .i64 p0_1, .int .i64 p0_2, .slice a_p0_3 p0_3.length c_p0_3]⟩], [⟨b3, 39, [.int .i64 0, .int .i64 0, .int .i64 0, .slice none 0 0]⟩]]) (fun _ h => h) ?_
    refine WO_pure tbok 1 [(1, .pointer (some ⟨b2, 0, none⟩)), (2, .pointer (some ⟨b3, 0, none⟩)), (3, .int .i64 y_1)] rfl ⟨rfl, rfl, rfl, trivial⟩ ?_
    refine WO_end ?_
    cases hm
    exact WK_ret (ret_out (L := []) (RLc_cell tbok 1 rfl rfl rfl (RLc_tmp rfl RLc_nil)) (List.nil_sublist _) ⟨none, 0, 0, rfl, (OwnE.nil none)⟩)
  · have hm := ifF hb5 hm
    refine WK_skip ?_
    refine WK_seq ?_
    refine WK_region ?_
    refine WO_pure tbok 1 [(1, .pointer (some ⟨b2, 0, none⟩)), (2, .pointer (some ⟨b3, 0, none⟩)), (3, .int .i64 0), (16, .pointer (some ⟨b2, 3, none⟩))] rfl ⟨rfl, rfl, rfl, rfl, trivial⟩ ?_
    refine WO_loadB tbok 0 rfl rfl rfl rfl (fun _ h => h) rfl rfl ?_
    obtain ⟨y_2, hc6, hm⟩ := bind_some hm
    refine WO_call0 (.int .i64 y_2) rfl rfl trivial rfl rfl rfl rfl St_closed ⟨47, #[], #[], rfl, callable_47, fun w hw => ⟨_, hw.sat, slices_Max_sint_walk h_p0_3 hc6⟩⟩ ?_
    refine WO_pure tbok 1 [(1, .pointer (some ⟨b2, 0, none⟩)), (2, .pointer (some ⟨b3, 0, none⟩)), (3, .int .i64 0), (5, .int .i64 y_2)] rfl ⟨rfl, rfl, rfl, rfl, trivial⟩ ?_
    refine WO_end ?_
    refine WK_seq ?_
    refine WK_region ?_
    refine WO_pure tbok 1 [(1, .pointer (some ⟨b2, 0, none⟩)), (2, .pointer (some ⟨b3, 0, none⟩)), (3, .int .i64 0), (5, .int .i64 y_2), (19, .pointer (some ⟨b2, 0, none⟩))] rfl ⟨rfl, rfl, rfl, rfl, rfl, trivial⟩ ?_
    refine WO_loadB tbok 0 rfl rfl rfl rfl (fun _ h => h) rfl rfl ?_
    refine WO_pure tbok 1 [(1, .pointer (some ⟨b2, 0, none⟩)), (2, .pointer (some ⟨b3, 0, none⟩)), (3, .int .i64 0), (5, .int .i64 y_2), (20, .int .i64 p0_0), (21, .pointer (some ⟨b2, 1, none⟩))] rfl ⟨rfl, rfl, rfl, rfl, rfl, rfl, trivial⟩ ?_
    refine WO_loadB tbok 0 rfl rfl rfl rfl (fun _ h => h) rfl rfl ?_
    refine WO_pure tbok 1 [(1, .pointer (some ⟨b2, 0, none⟩)), (2, .pointer (some ⟨b3, 0, none⟩)), (3, .int .i64 0), (5, .int .i64 y_2), (20, .int .i64 p0_0), (22, .int .i64 p0_1), (23, .pointer (some ⟨b2, 2, none⟩))] rfl ⟨rfl, rfl, rfl, rfl, rfl, rfl, rfl, trivial⟩ ?_
    refine WO_loadB tbok 0 rfl rfl rfl rfl (fun _ h => h) rfl rfl ?_
    refine WO_pure tbok 1 [(1, .pointer (some ⟨b2, 0, none⟩)), (2, .pointer (some ⟨b3, 0, none⟩)), (3, .int .i64 0), (5, .int .i64 y_2), (25, .agg #[.int .i64 p0_0, .int .i64 p0_1, .int .i64 p0_2, .slice none 0 0])] rfl ⟨rfl, rfl, rfl, rfl, rfl, trivial⟩ ?_
    refine WO_alloc tbok [.int .i64 0, .int .i64 0, .int .i64 0, .slice none 0 0] rfl rfl trivial rfl rfl rfl rfl (fun b7 => ?_)
    refine WO.cls (C' := St w0 m m [[⟨b2, 39, [.int .i64 p0_0, .int .i64 p0_1, .int .i64 p0_2, .slice a_p0_3 p0_3.length c_p0_3]⟩], [⟨b3, 39, [.int .i64 0, .int .i64 0, .int .i64 0, .slice none 0 0]⟩], [⟨b7, 39, [.int .i64 0, .int .i64 0, .int .i64 0, .slice none 0 0]⟩]]) (fun _ h => h) ?_
    refine WO_storeB tbok 2 [.int .i64 p0_0, .int .i64 p0_1, .int .i64 p0_2, .slice none 0 0] rfl rfl rfl rfl rfl rfl rfl ?_
    refine WO.cls (C' := St w0 m m [[⟨b2, 39, [.int .i64 p0_0, .int .i64 p0_1, .int .i64 p0_2, .slice a_p0_3 p0_3.length c_p0_3]⟩], [⟨b3, 39, [.int .i64 0, .int .i64 0, .int .i64 0, .slice none 0 0]⟩], [⟨b7, 39, [.int .i64 p0_0, .int .i64 p0_1, .int .i64 p0_2, .slice none 0 0]⟩]]) (fun _ h => h) ?_
    refine WO_end ?_
    refine WK_seq ?_
    refine WK_seq ?_
    refine WK_region ?_
    refine WO_pure tbok 1 [(1, .pointer (some ⟨b2, 0, none⟩)), (2, .pointer (some ⟨b3, 0, none⟩)), (3, .int .i64 0), (5, .int .i64 y_2), (6, .pointer (some ⟨b7, 0, none⟩)), (26, .pointer (some ⟨b2, 0, none⟩))] rfl ⟨rfl, rfl, rfl, rfl, rfl, rfl, trivial⟩ ?_
    refine WO_loadB tbok 0 rfl rfl rfl rfl (fun _ h => h) rfl rfl ?_
    refine WO_pure tbok 1 [(1, .pointer (some ⟨b2, 0, none⟩)), (2, .pointer (some ⟨b3, 0, none⟩)), (3, .int .i64 0), (5, .int .i64 y_2), (6, .pointer (some ⟨b7, 0, none⟩)), (27, .int .i64 p0_0), (28, .pointer (some ⟨b2, 1, none⟩))] rfl ⟨rfl, rfl, rfl, rfl, rfl, rfl, rfl, trivial⟩ ?_
    refine WO_loadB tbok 0 rfl rfl rfl rfl (fun _ h => h) rfl rfl ?_
    refine WO_pure tbok 2 [(1, .pointer (some ⟨b2, 0, none⟩)), (2, .pointer (some ⟨b3, 0, none⟩)), (3, .int .i64 0), (5, .int .i64 y_2), (6, .pointer (some ⟨b7, 0, none⟩)), (30, .int .i64 (w64 (p0_0 * p0_1))), (31, .int .i64 0)] rfl ⟨rfl, rfl, rfl, rfl, rfl, rfl, rfl, trivial⟩ ?_
    refine WO_end ?_
    refine WK_pad ?_
    obtain ⟨x19, hx20, hm⟩ := bind_some hm
    refine WK_join (β := (List Int) × (Option Addr × Nat × Nat × List Ent)) (fun p => p.1 = x19 ∧ OwnE 3 1 (I1 .i64) (.slice p.2.1 p.2.2.1 p.2.2.2.1) p.1 p.2.2.2.2) (fun p => [(2, .pointer (some ⟨b3, 0, none⟩)), (3, .int .i64 0), (6, .pointer (some ⟨b7, 0, none⟩))]) (fun p => St w0 m m [[⟨b2, 39, [.int .i64 p0_0, .int .i64 p0_1, .int .i64 p0_2, .slice a_p0_3 p0_3.length c_p0_3]⟩], [⟨b3, 39, [.int .i64 0, .int .i64 0, .int .i64 0, .slice none 0 0]⟩], [⟨b7, 39, [.int .i64 p0_0, .int .i64 p0_1, .int .i64 p0_2, .slice p.2.1 p.2.2.1 p.2.2.2.1]⟩], p.2.2.2.2]) ?_ (fun hk21 => ?_)
    · rintro ⟨l_5, ⟨a16, q17, c18, L15⟩⟩ ⟨hq27, hL15⟩
      subst hq27
      have hqq : q17 = l_5.length := OwnE.qlen hL15
      subst hqq
      refine WK.sub (e' := [(2, .pointer (some ⟨b3, 0, none⟩)), (3, .int .i64 0), (6, .pointer (some ⟨b7, 0, none⟩))]) ⟨rfl, rfl, rfl, trivial⟩ (WK.cls (C' := St w0 m m [[⟨b2, 39, [.int .i64 p0_0, .int .i64 p0_1, .int .i64 p0_2, .slice a_p0_3 p0_3.length c_p0_3]⟩], [⟨b3, 39, [.int .i64 0, .int .i64 0, .int .i64 0, .slice none 0 0]⟩], [⟨b7, 39, [.int .i64 p0_0, .int .i64 p0_1, .int .i64 p0_2, .slice a16 ((l_5).length) c18]⟩], L15]) (fun _ h => h) ?_)
      refine WK_seq ?_
      refine WK_region ?_
      refine WO_loadB tbok 2 rfl rfl rfl rfl (fun _ h => h) rfl rfl ?_
      refine WO_storeB tbok 1 [.int .i64 p0_0, .int .i64 p0_1, .int .i64 p0_2, .slice a16 ((l_5).length) c18] rfl rfl rfl rfl rfl rfl rfl ?_
      refine WO.cls (C' := St w0 m m [[⟨b2, 39, [.int .i64 p0_0, .int .i64 p0_1, .int .i64 p0_2, .slice a_p0_3 p0_3.length c_p0_3]⟩], [⟨b3, 39, [.int .i64 p0_0, .int .i64 p0_1, .int .i64 p0_2, .slice a16 ((l_5).length) c18]⟩], [⟨b7, 39, [.int .i64 p0_0, .int .i64 p0_1, .int .i64 p0_2, .slice a16 ((l_5).length) c18]⟩], L15]) (fun _ h => h) ?_
      refine WO_pure tbok 1 [(2, .pointer (some ⟨b3, 0, none⟩)), (3, .int .i64 0)] rfl ⟨rfl, rfl, trivial⟩ ?_
      refine WO_end ?_
      cases hm
      exact WK_ret (ret_out (L := L15) (RLc_cell tbok 1 rfl rfl rfl (RLc_tmp rfl RLc_nil)) (seg_sub 3 rfl) ⟨a16, _, c18, rfl, hL15⟩)
    · refine WK_block ?_
      refine WK_loop (S := List Int × Int) (G := Option Addr × Nat × Nat × List Ent) (fun s => census_Right_s1 p0_0 p0_1 p0_2 p0_3 y_2 s.1 s.2) (fun s g => [(1, .pointer (some ⟨b2, 0, none⟩)), (2, .pointer (some ⟨b3, 0, none⟩)), (3, .int .i64 0), (5, .int .i64 y_2), (6, .pointer (some ⟨b7, 0, none⟩)), (30, .int .i64 (w64 (p0_0 * p0_1))), (31, .int .i64 s.2)]) (fun s g => St w0 m m [[⟨b2, 39, [.int .i64 p0_0, .int .i64 p0_1, .int .i64 p0_2, .slice a_p0_3 p0_3.length c_p0_3]⟩], [⟨b3, 39, [.int .i64 0, .int .i64 0, .int .i64 0, .slice none 0 0]⟩], [⟨b7, 39, [.int .i64 p0_0, .int .i64 p0_1, .int .i64 p0_2, .slice g.1 g.2.1 g.2.2.1]⟩], g.2.2.2]) (fun s g => OwnE 3 1 (I1 .i64) (.slice g.1 g.2.1 g.2.2.1) s.1 g.2.2.2) FUEL (([] : List Int), 0) (none, 0, 0, []) x19 hx20 (OwnE.nil (T := 3) (k := 1) (E := (I1 .i64)) none) ⟨rfl, rfl, rfl, rfl, rfl, rfl, rfl, trivial⟩ (fun _ h => h) ?_
      rintro ⟨l_3, s_4⟩ ⟨a11, q12, c13, L10⟩ o23 fl24 hm22 hL10 hn25 hd26
      have hm22 : census_Right_s1 p0_0 p0_1 p0_2 p0_3 y_2 l_3 s_4 = some o23 := hm22
      unfold census_Right_s1 at hm22
      have hqq : q12 = l_3.length := OwnE.qlen hL10
      subst hqq
      refine WK.sub (e' := [(1, .pointer (some ⟨b2, 0, none⟩)), (2, .pointer (some ⟨b3, 0, none⟩)), (3, .int .i64 0), (5, .int .i64 y_2), (6, .pointer (some ⟨b7, 0, none⟩)), (30, .int .i64 (w64 (p0_0 * p0_1))), (31, .int .i64 s_4)]) ⟨rfl, rfl, rfl, rfl, rfl, rfl, rfl, trivial⟩ (WK.cls (C' := St w0 m m [[⟨b2, 39, [.int .i64 p0_0, .int .i64 p0_1, .int .i64 p0_2, .slice a_p0_3 p0_3.length c_p0_3]⟩], [⟨b3, 39, [.int .i64 0, .int .i64 0, .int .i64 0, .slice none 0 0]⟩], [⟨b7, 39, [.int .i64 p0_0, .int .i64 p0_1, .int .i64 p0_2, .slice a11 ((l_3).length) c13]⟩], L10]) (fun _ h => h) ?_)
      refine WK_seq ?_
      refine WK_region ?_
      refine WO_pure tbok 1 [(1, .pointer (some ⟨b2, 0, none⟩)), (2, .pointer (some ⟨b3, 0, none⟩)), (3, .int .i64 0), (5, .int .i64 y_2), (6, .pointer (some ⟨b7, 0, none⟩)), (30, .int .i64 (w64 (p0_0 * p0_1))), (31, .int .i64 s_4), (32, .bool (decide (s_4 < (w64 (p0_0 * p0_1)))))] rfl ⟨rfl, rfl, rfl, rfl, rfl, rfl, rfl, rfl, trivial⟩ ?_
      refine WO_end ?_
      refine WK_seq ?_
      refine WK_cond (b := decide (s_4 < (w64 (p0_0 * p0_1)))) rfl (fun hb28 => ?_) (fun hb28 => ?_)
      · have hm22 := ifT hb28 hm22
        refine WK_skip ?_
        refine WK_seq ?_
        refine WK_block ?_
        refine WK_seq ?_
        refine WK_region ?_
        refine WO_pure tbok 2 [(1, .pointer (some ⟨b2, 0, none⟩)), (2, .pointer (some ⟨b3, 0, none⟩)), (3, .int .i64 0), (5, .int .i64 y_2), (6, .pointer (some ⟨b7, 0, none⟩)), (7, .int .i64 s_4), (30, .int .i64 (w64 (p0_0 * p0_1))), (31, .int .i64 s_4)] rfl ⟨rfl, rfl, rfl, rfl, rfl, rfl, rfl, rfl, trivial⟩ ?_
        refine WO_end ?_
        refine WK_seq ?_
        refine WK_region ?_
        refine WO_pure tbok 1 [(1, .pointer (some ⟨b2, 0, none⟩)), (2, .pointer (some ⟨b3, 0, none⟩)), (3, .int .i64 0), (5, .int .i64 y_2), (6, .pointer (some ⟨b7, 0, none⟩)), (7, .int .i64 s_4), (30, .int .i64 (w64 (p0_0 * p0_1))), (31, .int .i64 s_4), (34, .pointer (some ⟨b2, 2, none⟩))] rfl ⟨rfl, rfl, rfl, rfl, rfl, rfl, rfl, rfl, rfl, trivial⟩ ?_
        refine WO_loadB tbok 0 rfl rfl rfl rfl (fun _ h => h) rfl rfl ?_
        refine WO_pure tbok 1 [(1, .pointer (some ⟨b2, 0, none⟩)), (2, .pointer (some ⟨b3, 0, none⟩)), (3, .int .i64 0), (5, .int .i64 y_2), (6, .pointer (some ⟨b7, 0, none⟩)), (7, .int .i64 s_4), (30, .int .i64 (w64 (p0_0 * p0_1))), (31, .int .i64 s_4), (35, .int .i64 p0_2), (36, .int .i64 0)] rfl ⟨rfl, rfl, rfl, rfl, rfl, rfl, rfl, rfl, rfl, rfl, trivial⟩ ?_
        refine WO_end ?_
        obtain ⟨x39, hx40, hm22⟩ := bind_some hm22
        refine WK_join (β := (List Int) × (Option Addr × Nat × Nat × List Ent)) (fun p => p.1 = x39 ∧ OwnE 3 1 (I1 .i64) (.slice p.2.1 p.2.2.1 p.2.2.2.1) p.1 p.2.2.2.2) (fun p => [(1, .pointer (some ⟨b2, 0, none⟩)), (2, .pointer (some ⟨b3, 0, none⟩)), (3, .int .i64 0), (5, .int .i64 y_2), (6, .pointer (some ⟨b7, 0, none⟩)), (30, .int .i64 (w64 (p0_0 * p0_1))), (31, .int .i64 s_4)]) (fun p => St w0 m m [[⟨b2, 39, [.int .i64 p0_0, .int .i64 p0_1, .int .i64 p0_2, .slice a_p0_3 p0_3.length c_p0_3]⟩], [⟨b3, 39, [.int .i64 0, .int .i64 0, .int .i64 0, .slice none 0 0]⟩], [⟨b7, 39, [.int .i64 p0_0, .int .i64 p0_1, .int .i64 p0_2, .slice p.2.1 p.2.2.1 p.2.2.2.1]⟩], p.2.2.2.2]) ?_ (fun hk41 => ?_)
        · rintro ⟨l_8, ⟨a36, q37, c38, L35⟩⟩ ⟨hq47, hL35⟩
          subst hq47
          have hqq : q37 = l_8.length := OwnE.qlen hL35
          subst hqq
          refine WK.sub (e' := [(1, .pointer (some ⟨b2, 0, none⟩)), (2, .pointer (some ⟨b3, 0, none⟩)), (3, .int .i64 0), (5, .int .i64 y_2), (6, .pointer (some ⟨b7, 0, none⟩)), (30, .int .i64 (w64 (p0_0 * p0_1))), (31, .int .i64 s_4)]) ⟨rfl, rfl, rfl, rfl, rfl, rfl, rfl, trivial⟩ (WK.cls (C' := St w0 m m [[⟨b2, 39, [.int .i64 p0_0, .int .i64 p0_1, .int .i64 p0_2, .slice a_p0_3 p0_3.length c_p0_3]⟩], [⟨b3, 39, [.int .i64 0, .int .i64 0, .int .i64 0, .slice none 0 0]⟩], [⟨b7, 39, [.int .i64 p0_0, .int .i64 p0_1, .int .i64 p0_2, .slice a36 ((l_8).length) c38]⟩], L35]) (fun _ h => h) ?_)
          refine WK_blk ?_
          refine WK_region ?_
          refine WO_pure tbok 2 [(1, .pointer (some ⟨b2, 0, none⟩)), (2, .pointer (some ⟨b3, 0, none⟩)), (3, .int .i64 0), (5, .int .i64 y_2), (6, .pointer (some ⟨b7, 0, none⟩)), (30, .int .i64 (w64 (p0_0 * p0_1))), (31, .int .i64 (w64 (s_4 + 1)))] rfl ⟨rfl, rfl, rfl, rfl, rfl, rfl, rfl, trivial⟩ ?_
          refine WO_end ?_
          cases hm22
          refine WK.sub ?_ (WK.cls (fun _ h => h) (hn25 _ (a36, _, c38, L35) rfl hL35))
          exact ⟨rfl, rfl, rfl, rfl, rfl, rfl, rfl, trivial⟩
        · refine WK_block ?_
          refine WK_loop (S := List Int × Int) (G := Option Addr × Nat × Nat × List Ent) (fun s => census_Right_s2 p0_0 p0_2 p0_3 y_2 s_4 s.1 s.2) (fun s g => [(1, .pointer (some ⟨b2, 0, none⟩)), (2, .pointer (some ⟨b3, 0, none⟩)), (3, .int .i64 0), (5, .int .i64 y_2), (6, .pointer (some ⟨b7, 0, none⟩)), (7, .int .i64 s_4), (30, .int .i64 (w64 (p0_0 * p0_1))), (31, .int .i64 s_4), (35, .int .i64 p0_2), (36, .int .i64 s.2)]) (fun s g => St w0 m m [[⟨b2, 39, [.int .i64 p0_0, .int .i64 p0_1, .int .i64 p0_2, .slice a_p0_3 p0_3.length c_p0_3]⟩], [⟨b3, 39, [.int .i64 0, .int .i64 0, .int .i64 0, .slice none 0 0]⟩], [⟨b7, 39, [.int .i64 p0_0, .int .i64 p0_1, .int .i64 p0_2, .slice g.1 g.2.1 g.2.2.1]⟩], g.2.2.2]) (fun s g => OwnE 3 1 (I1 .i64) (.slice g.1 g.2.1 g.2.2.1) s.1 g.2.2.2) FUEL (l_3, 0) (a11, _, c13, L10) x39 hx40 hL10 ⟨rfl, rfl, rfl, rfl, rfl, rfl, rfl, rfl, rfl, rfl, trivial⟩ (fun _ h => h) ?_
          rintro ⟨l_6, s_7⟩ ⟨a31, q32, c33, L30⟩ o43 fl44 hm42 hL30 hn45 hd46
          have hm42 : census_Right_s2 p0_0 p0_2 p0_3 y_2 s_4 l_6 s_7 = some o43 := hm42
          unfold census_Right_s2 at hm42
          have hqq : q32 = l_6.length := OwnE.qlen hL30
          subst hqq
          refine WK.sub (e' := [(1, .pointer (some ⟨b2, 0, none⟩)), (2, .pointer (some ⟨b3, 0, none⟩)), (3, .int .i64 0), (5, .int .i64 y_2), (6, .pointer (some ⟨b7, 0, none⟩)), (7, .int .i64 s_4), (30, .int .i64 (w64 (p0_0 * p0_1))), (31, .int .i64 s_4), (35, .int .i64 p0_2), (36, .int .i64 s_7)]) ⟨rfl, rfl, rfl, rfl, rfl, rfl, rfl, rfl, rfl, rfl, trivial⟩ (WK.cls (C' := St w0 m m [[⟨b2, 39, [.int .i64 p0_0, .int .i64 p0_1, .int .i64 p0_2, .slice a_p0_3 p0_3.length c_p0_3]⟩], [⟨b3, 39, [.int .i64 0, .int .i64 0, .int .i64 0, .slice none 0 0]⟩], [⟨b7, 39, [.int .i64 p0_0, .int .i64 p0_1, .int .i64 p0_2, .slice a31 ((l_6).length) c33]⟩], L30]) (fun _ h => h) ?_)
          refine WK_seq ?_
          refine WK_region ?_
          refine WO_pure tbok 1 [(1, .pointer (some ⟨b2, 0, none⟩)), (2, .pointer (some ⟨b3, 0, none⟩)), (3, .int .i64 0), (5, .int .i64 y_2), (6, .pointer (some ⟨b7, 0, none⟩)), (7, .int .i64 s_4), (30, .int .i64 (w64 (p0_0 * p0_1))), (31, .int .i64 s_4), (35, .int .i64 p0_2), (36, .int .i64 s_7), (37, .bool (decide (s_7 < p0_2)))] rfl ⟨rfl, rfl, rfl, rfl, rfl, rfl, rfl, rfl, rfl, rfl, rfl, trivial⟩ ?_
          refine WO_end ?_
          refine WK_seq ?_
          refine WK_cond (b := decide (s_7 < p0_2)) rfl (fun hb48 => ?_) (fun hb48 => ?_)
          · have hm42 := ifT hb48 hm42
            refine WK_skip ?_
            refine WK_seq ?_
            refine WK_block ?_
            refine WK_seq ?_
            refine WK_region ?_
            refine WO_pure tbok 2 [(1, .pointer (some ⟨b2, 0, none⟩)), (2, .pointer (some ⟨b3, 0, none⟩)), (3, .int .i64 0), (5, .int .i64 y_2), (6, .pointer (some ⟨b7, 0, none⟩)), (7, .int .i64 s_4), (8, .int .i64 s_7), (30, .int .i64 (w64 (p0_0 * p0_1))), (31, .int .i64 s_4), (35, .int .i64 p0_2), (36, .int .i64 s_7)] rfl ⟨rfl, rfl, rfl, rfl, rfl, rfl, rfl, rfl, rfl, rfl, rfl, trivial⟩ ?_
            refine WO_end ?_
            refine WK_seq ?_
            refine WK_region ?_
            refine WO_pure tbok 2 [(1, .pointer (some ⟨b2, 0, none⟩)), (2, .pointer (some ⟨b3, 0, none⟩)), (3, .int .i64 0), (5, .int .i64 y_2), (6, .pointer (some ⟨b7, 0, none⟩)), (7, .int .i64 s_4), (8, .int .i64 s_7), (9, .int .i64 y_2), (30, .int .i64 (w64 (p0_0 * p0_1))), (31, .int .i64 s_4), (35, .int .i64 p0_2), (36, .int .i64 s_7)] rfl ⟨rfl, rfl, rfl, rfl, rfl, rfl, rfl, rfl, rfl, rfl, rfl, rfl, trivial⟩ ?_
            refine WO_end ?_
            refine WK_seq ?_
            refine WK_seq ?_
            refine WK_draw 9 [0, 1, 2, 3, 4, 5, 6, 7, 8] follows_ok (by kernel_rfl) St_closed ?_
            refine WO_pure tbok 2 [(1, .pointer (some ⟨b2, 0, none⟩)), (2, .pointer (some ⟨b3, 0, none⟩)), (3, .int .i64 0), (5, .int .i64 y_2), (6, .pointer (some ⟨b7, 0, none⟩)), (7, .int .i64 s_4), (8, .int .i64 s_7), (9, .int .i64 y_2), (30, .int .i64 (w64 (p0_0 * p0_1))), (31, .int .i64 s_4), (35, .int .i64 p0_2), (36, .int .i64 s_7), (40, .int .i64 s_4), (41, .pointer (some ⟨b2, 0, none⟩))] rfl ⟨rfl, rfl, rfl, rfl, rfl, rfl, rfl, rfl, rfl, rfl, rfl, rfl, rfl, rfl, trivial⟩ ?_
            refine WO_loadB tbok 0 rfl rfl rfl rfl (fun _ h => h) rfl rfl ?_
            obtain ⟨hc49, hm42⟩ := chk_some hm42
            refine WO_rem rfl rfl rfl rfl rfl hc49 ?_
            refine WO_pure tbok 3 [(1, .pointer (some ⟨b2, 0, none⟩)), (2, .pointer (some ⟨b3, 0, none⟩)), (3, .int .i64 0), (5, .int .i64 y_2), (6, .pointer (some ⟨b7, 0, none⟩)), (7, .int .i64 s_4), (8, .int .i64 s_7), (9, .int .i64 y_2), (30, .int .i64 (w64 (p0_0 * p0_1))), (31, .int .i64 s_4), (35, .int .i64 p0_2), (36, .int .i64 s_7), (45, .int .i64 (w64 ((Int.tmod s_4 p0_0) + s_7))), (46, .pointer (some ⟨b2, 0, none⟩))] rfl ⟨rfl, rfl, rfl, rfl, rfl, rfl, rfl, rfl, rfl, rfl, rfl, rfl, rfl, rfl, trivial⟩ ?_
            refine WO_loadB tbok 0 rfl rfl rfl rfl (fun _ h => h) rfl rfl ?_
            refine WO_pure tbok 1 [(1, .pointer (some ⟨b2, 0, none⟩)), (2, .pointer (some ⟨b3, 0, none⟩)), (3, .int .i64 0), (5, .int .i64 y_2), (6, .pointer (some ⟨b7, 0, none⟩)), (7, .int .i64 s_4), (8, .int .i64 s_7), (9, .int .i64 y_2), (30, .int .i64 (w64 (p0_0 * p0_1))), (31, .int .i64 s_4), (35, .int .i64 p0_2), (36, .int .i64 s_7), (48, .bool (decide ((w64 ((Int.tmod s_4 p0_0) + s_7)) < p0_0)))] rfl ⟨rfl, rfl, rfl, rfl, rfl, rfl, rfl, rfl, rfl, rfl, rfl, rfl, rfl, trivial⟩ ?_
            refine WO_tail ?_
            refine WO_end ?_
            obtain ⟨s_9, hx50, hm42⟩ := bind_some hm42
            refine WK_meet [(1, .pointer (some ⟨b2, 0, none⟩)), (2, .pointer (some ⟨b3, 0, none⟩)), (3, .int .i64 0), (5, .int .i64 y_2), (6, .pointer (some ⟨b7, 0, none⟩)), (7, .int .i64 s_4), (9, .int .i64 s_9), (30, .int .i64 (w64 (p0_0 * p0_1))), (31, .int .i64 s_4), (35, .int .i64 p0_2), (36, .int .i64 s_7)] (St w0 m m [[⟨b2, 39, [.int .i64 p0_0, .int .i64 p0_1, .int .i64 p0_2, .slice a_p0_3 p0_3.length c_p0_3]⟩], [⟨b3, 39, [.int .i64 0, .int .i64 0, .int .i64 0, .slice none 0 0]⟩], [⟨b7, 39, [.int .i64 p0_0, .int .i64 p0_1, .int .i64 p0_2, .slice a31 ((l_6).length) c33]⟩], L30]) ?_ (fun hk51 => ?_)
            · refine WK_region ?_
              refine WO_pure tbok 1 [(1, .pointer (some ⟨b2, 0, none⟩)), (2, .pointer (some ⟨b3, 0, none⟩)), (3, .int .i64 0), (5, .int .i64 y_2), (6, .pointer (some ⟨b7, 0, none⟩)), (7, .int .i64 s_4), (9, .int .i64 s_9), (30, .int .i64 (w64 (p0_0 * p0_1))), (31, .int .i64 s_4), (35, .int .i64 p0_2), (36, .int .i64 s_7), (61, .pointer (some ⟨b7, 3, none⟩))] rfl ⟨rfl, rfl, rfl, rfl, rfl, rfl, rfl, rfl, rfl, rfl, rfl, rfl, trivial⟩ ?_
              refine WO_loadB tbok 2 rfl rfl rfl rfl (fun _ h => h) rfl rfl ?_
              refine WO_pure tbok 1 [(1, .pointer (some ⟨b2, 0, none⟩)), (2, .pointer (some ⟨b3, 0, none⟩)), (3, .int .i64 0), (5, .int .i64 y_2), (6, .pointer (some ⟨b7, 0, none⟩)), (7, .int .i64 s_4), (30, .int .i64 (w64 (p0_0 * p0_1))), (31, .int .i64 s_4), (35, .int .i64 p0_2), (36, .int .i64 s_7), (62, .slice a31 ((l_6).length) c33), (63, .int .i64 s_9)] rfl ⟨rfl, rfl, rfl, rfl, rfl, rfl, rfl, rfl, rfl, rfl, rfl, rfl, trivial⟩ ?_
              refine WO_bslice (E := (I1 .i64)) tbok (fun _ => rfl) (by decide) [.int .i64 s_9] ([s_9] : List Int) rfl rfl trivial rfl rfl rfl rfl rfl rfl rfl rfl rfl rfl rfl rfl (fun b52 hb52 => ?_)
              refine WO.cls (C' := St w0 m m [[⟨b2, 39, [.int .i64 p0_0, .int .i64 p0_1, .int .i64 p0_2, .slice a_p0_3 p0_3.length c_p0_3]⟩], [⟨b3, 39, [.int .i64 0, .int .i64 0, .int .i64 0, .slice none 0 0]⟩], [⟨b7, 39, [.int .i64 p0_0, .int .i64 p0_1, .int .i64 p0_2, .slice a31 ((l_6).length) c33]⟩], L30, [⟨b52, 3, ([s_9] : List Int).flatMap (I1 .i64)⟩]]) (fun _ h => h) ?_
              obtain ⟨hc54, hm42⟩ := chk_some hm42
              refine WO_append (E := (I1 .i64)) tbok (fun _ => rfl) 3 ([s_9] : List Int) (fun _ _ => rfl) rfl rfl rfl rfl rfl rfl rfl rfl rfl rfl rfl rfl hL30 rfl (src_seg (j := 4) rfl) (ap_ok (by decide) hc54) (ap_max hc54) (fun a55 c56 L57 hL57 => ?_)
              refine WO.cls (C' := St w0 m m [[⟨b2, 39, [.int .i64 p0_0, .int .i64 p0_1, .int .i64 p0_2, .slice a_p0_3 p0_3.length c_p0_3]⟩], [⟨b3, 39, [.int .i64 0, .int .i64 0, .int .i64 0, .slice none 0 0]⟩], [⟨b7, 39, [.int .i64 p0_0, .int .i64 p0_1, .int .i64 p0_2, .slice a31 ((l_6).length) c33]⟩], L57, [⟨b52, 3, ([s_9] : List Int).flatMap (I1 .i64)⟩]]) (fun _ h => h) ?_
              refine WO_pure tbok 1 [(1, .pointer (some ⟨b2, 0, none⟩)), (2, .pointer (some ⟨b3, 0, none⟩)), (3, .int .i64 0), (5, .int .i64 y_2), (6, .pointer (some ⟨b7, 0, none⟩)), (7, .int .i64 s_4), (30, .int .i64 (w64 (p0_0 * p0_1))), (31, .int .i64 s_4), (35, .int .i64 p0_2), (36, .int .i64 s_7), (65, .slice a55 ((l_6 ++ ([s_9] : List Int)).length) c56), (66, .pointer (some ⟨b7, 3, none⟩))] rfl ⟨rfl, rfl, rfl, rfl, rfl, rfl, rfl, rfl, rfl, rfl, rfl, rfl, trivial⟩ ?_
              refine WO_storeB tbok 2 [.int .i64 p0_0, .int .i64 p0_1, .int .i64 p0_2, .slice a55 ((l_6 ++ ([s_9] : List Int)).length) c56] rfl rfl rfl rfl rfl rfl rfl ?_
              refine WO.cls (C' := St w0 m m [[⟨b2, 39, [.int .i64 p0_0, .int .i64 p0_1, .int .i64 p0_2, .slice a_p0_3 p0_3.length c_p0_3]⟩], [⟨b3, 39, [.int .i64 0, .int .i64 0, .int .i64 0, .slice none 0 0]⟩], [⟨b7, 39, [.int .i64 p0_0, .int .i64 p0_1, .int .i64 p0_2, .slice a55 ((l_6 ++ ([s_9] : List Int)).length) c56]⟩], L57, [⟨b52, 3, ([s_9] : List Int).flatMap (I1 .i64)⟩]]) (fun _ h => h) ?_
              refine WO_end ?_
              refine WK_blk ?_
              refine WK_region ?_
              refine WO_pure tbok 2 [(1, .pointer (some ⟨b2, 0, none⟩)), (2, .pointer (some ⟨b3, 0, none⟩)), (3, .int .i64 0), (5, .int .i64 y_2), (6, .pointer (some ⟨b7, 0, none⟩)), (7, .int .i64 s_4), (30, .int .i64 (w64 (p0_0 * p0_1))), (31, .int .i64 s_4), (35, .int .i64 p0_2), (36, .int .i64 (w64 (s_7 + 1)))] rfl ⟨rfl, rfl, rfl, rfl, rfl, rfl, rfl, rfl, rfl, rfl, trivial⟩ ?_
              refine WO_end ?_
              cases hm42
              refine WK.sub ?_ (WK.cls (fun _ h => St.take 4 h) (hn45 _ (a55, (l_6 ++ ([s_9] : List Int)).length, c56, L57) rfl hL57))
              exact ⟨rfl, rfl, rfl, rfl, rfl, rfl, rfl, rfl, rfl, rfl, trivial⟩
            · refine WK_cond (b := decide ((w64 ((Int.tmod s_4 p0_0) + s_7)) < p0_0)) rfl (fun hb59 => ?_) (fun hb59 => ?_)
              · have hx50 := ifT hb59 hx50
                refine WK_region ?_
                refine WO_pure tbok 1 [(1, .pointer (some ⟨b2, 0, none⟩)), (2, .pointer (some ⟨b3, 0, none⟩)), (3, .int .i64 0), (5, .int .i64 y_2), (6, .pointer (some ⟨b7, 0, none⟩)), (7, .int .i64 s_4), (8, .int .i64 s_7), (9, .int .i64 y_2), (30, .int .i64 (w64 (p0_0 * p0_1))), (31, .int .i64 s_4), (35, .int .i64 p0_2), (36, .int .i64 s_7), (49, .pointer (some ⟨b2, 3, none⟩))] rfl ⟨rfl, rfl, rfl, rfl, rfl, rfl, rfl, rfl, rfl, rfl, rfl, rfl, rfl, trivial⟩ ?_
                refine WO_loadB tbok 0 rfl rfl rfl rfl (fun _ h => h) rfl rfl ?_
                refine WO_pure tbok 4 [(1, .pointer (some ⟨b2, 0, none⟩)), (2, .pointer (some ⟨b3, 0, none⟩)), (3, .int .i64 0), (5, .int .i64 y_2), (6, .pointer (some ⟨b7, 0, none⟩)), (7, .int .i64 s_4), (8, .int .i64 s_7), (9, .int .i64 y_2), (30, .int .i64 (w64 (p0_0 * p0_1))), (31, .int .i64 s_4), (35, .int .i64 p0_2), (36, .int .i64 s_7), (50, .slice a_p0_3 p0_3.length c_p0_3), (53, .int .i64 (w64 (s_4 + s_7))), (54, .pointer (some ⟨b2, 2, none⟩))] rfl ⟨rfl, rfl, rfl, rfl, rfl, rfl, rfl, rfl, rfl, rfl, rfl, rfl, rfl, rfl, rfl, trivial⟩ ?_
                refine WO_loadB tbok 0 rfl rfl rfl rfl (fun _ h => h) rfl rfl ?_
                refine WO_pure tbok 3 [(1, .pointer (some ⟨b2, 0, none⟩)), (2, .pointer (some ⟨b3, 0, none⟩)), (3, .int .i64 0), (5, .int .i64 y_2), (6, .pointer (some ⟨b7, 0, none⟩)), (7, .int .i64 s_4), (9, .int .i64 y_2), (30, .int .i64 (w64 (p0_0 * p0_1))), (31, .int .i64 s_4), (35, .int .i64 p0_2), (36, .int .i64 s_7), (50, .slice a_p0_3 p0_3.length c_p0_3), (58, .int .i64 (w64 ((w64 ((w64 (s_4 + s_7)) * p0_2)) + s_7)))] rfl ⟨rfl, rfl, rfl, rfl, rfl, rfl, rfl, rfl, rfl, rfl, rfl, rfl, rfl, trivial⟩ ?_
                obtain ⟨v_10, hy60, hx50⟩ := bind_some hx50
                obtain ⟨hc61, hy60⟩ := ix_some hy60
                refine WO_index tbok rfl rfl rfl rfl rfl rfl rfl rfl (SlR.addr h_p0_3) hc61 ?_
                refine WO_loadE tbok rfl rfl rfl rfl (fun _ h => St.sat h) h_p0_3 hy60 rfl ?_
                refine WO_pure tbok 1 [(1, .pointer (some ⟨b2, 0, none⟩)), (2, .pointer (some ⟨b3, 0, none⟩)), (3, .int .i64 0), (5, .int .i64 y_2), (6, .pointer (some ⟨b7, 0, none⟩)), (7, .int .i64 s_4), (9, .int .i64 v_10), (30, .int .i64 (w64 (p0_0 * p0_1))), (31, .int .i64 s_4), (35, .int .i64 p0_2), (36, .int .i64 s_7)] rfl ⟨rfl, rfl, rfl, rfl, rfl, rfl, rfl, rfl, rfl, rfl, rfl, trivial⟩ ?_
                refine WO_end ?_
                cases hx50
                refine WK.sub ?_ (WK.cls (fun _ h => h) hk51)
                exact ⟨rfl, rfl, rfl, rfl, rfl, rfl, rfl, rfl, rfl, rfl, rfl, trivial⟩
              · have hx50 := ifF hb59 hx50
                refine WK_skip ?_
                cases hx50
                refine WK.sub ?_ (WK.cls (fun _ h => h) hk51)
                exact ⟨rfl, rfl, rfl, rfl, rfl, rfl, rfl, rfl, rfl, rfl, rfl, trivial⟩
          · have hm42 := ifF hb48 hm42
            refine WK_exit rfl ?_
            cases hm42
            refine WK.sub ?_ (WK.cls (fun _ h => h) (hk41 (l_6, (a31, _, c33, L30)) ⟨(hd46 _ rfl), hL30⟩))
            exact ⟨rfl, rfl, rfl, rfl, rfl, rfl, rfl, trivial⟩
      · have hm22 := ifF hb28 hm22
        refine WK_exit rfl ?_
        cases hm22
        refine WK.sub ?_ (WK.cls (fun _ h => h) (hk21 (l_3, (a11, _, c13, L10)) ⟨(hd26 _ rfl), hL10⟩))
        exact ⟨rfl, rfl, rfl, trivial⟩
theorem fiduciallaw44_valid_c1_walk {m : Mu} {p0 : Int}   {r : Bool} (hm : fiduciallaw44_valid_c1 p0 = some r) :
    Go.E.Spec Try.prog 48 [.int .i64 p0] m (fun v _ _ => v = .bool r) := by
  refine Spec_enter Try.func48 rfl rfl rfl (fun w0 => ?_)
  refine WK.sub (e' := [(0, .int .i64 p0)]) ⟨rfl, trivial⟩ ?_
  refine WK.sub (e' := [(0, .int .i64 p0)]) ⟨rfl, trivial⟩ ?_
  unfold fiduciallaw44_valid_c1 at hm
  refine WK_seq ?_
  refine WK_region ?_
  refine WO_pure tbok 1 [(0, .int .i64 p0), (2, .bool false)] rfl ⟨rfl, rfl, trivial⟩ ?_
  refine WO_end ?_
  refine WK_seq ?_
  refine WK_region ?_
  refine WO_pure tbok 3 [(0, .int .i64 p0), (2, .bool false), (5, .bool (decide (p0 < 0)))] rfl ⟨rfl, rfl, rfl, trivial⟩ ?_
  refine WO_split (d := 5) (b := decide (p0 < 0)) rfl (fun hb1 => ?_) (fun hb1 => ?_)
  · have hm := ifT hb1 hm
    refine WO_pure tbok 4 [(2, .bool true)] rfl ⟨rfl, trivial⟩ ?_
    refine WO_end ?_
    cases hm
    exact WK_ret (ret_out (L := []) (RLc_tmp rfl RLc_nil) (List.nil_sublist _) rfl)
  · have hm := ifF hb1 hm
    refine WO_pure tbok 4 [(2, .bool (decide (1048576 < p0)))] rfl ⟨rfl, trivial⟩ ?_
    refine WO_end ?_
    cases hm
    exact WK_ret (ret_out (L := []) (RLc_tmp rfl RLc_nil) (List.nil_sublist _) rfl)
theorem fiduciallaw44_valid_walk {m : Mu} {p0_0 : Int} {p0_1 : Int} {p0_2 : Int} {p0_3 : List Int} {a_p0_3 : Option Addr} {q_p0_3 c_p0_3 : Nat} (h_p0_3 : SlR (FE (I1 .i64)) 1 m (.slice a_p0_3 q_p0_3 c_p0_3) p0_3) {r : Bool} (hm : fiduciallaw44_valid p0_0 p0_1 p0_2 p0_3 = some r) :
    Go.E.Spec Try.prog 29 [.agg #[.int .i64 p0_0, .int .i64 p0_1, .int .i64 p0_2, .slice a_p0_3 q_p0_3 c_p0_3]] m (fun v _ _ => v = .bool r) := by
  refine Spec_enter Try.func29 rfl rfl rfl (fun w0 => ?_)
  refine WK.sub (e' := [(0, .agg #[.int .i64 p0_0, .int .i64 p0_1, .int .i64 p0_2, .slice a_p0_3 q_p0_3 c_p0_3])]) ⟨rfl, trivial⟩ ?_
  obtain rfl := SlR.qlen h_p0_3
  refine WK.sub (e' := [(0, .agg #[.int .i64 p0_0, .int .i64 p0_1, .int .i64 p0_2, .slice a_p0_3 p0_3.length c_p0_3])]) ⟨rfl, trivial⟩ ?_
  unfold fiduciallaw44_valid at hm
  refine WK_seq ?_
  refine WK_region ?_
  refine WO_box [.int .i64 p0_0, .int .i64 p0_1, .int .i64 p0_2, .slice a_p0_3 p0_3.length c_p0_3] rfl rfl trivial rfl rfl rfl (fun b2 => ?_)
  refine WO.cls (C' := St w0 m m [[⟨b2, 39, [.int .i64 p0_0, .int .i64 p0_1, .int .i64 p0_2, .slice a_p0_3 p0_3.length c_p0_3]⟩]]) (fun _ h => h) ?_
  refine WO_pure tbok 1 [(1, .pointer (some ⟨b2, 0, none⟩)), (2, .bool false)] rfl ⟨rfl, rfl, trivial⟩ ?_
  refine WO_end ?_
  refine WK_seq ?_
  refine WK_region ?_
  refine WO_pure tbok 1 [(1, .pointer (some ⟨b2, 0, none⟩)), (2, .bool false), (3, .pointer (some ⟨b2, 0, none⟩))] rfl ⟨rfl, rfl, rfl, trivial⟩ ?_
  refine WO_loadB tbok 0 rfl rfl rfl rfl (fun _ h => h) rfl rfl ?_
  refine WO_pure tbok 2 [(1, .pointer (some ⟨b2, 0, none⟩)), (2, .bool false), (6, .bool (decide (1 ≤ p0_0)))] rfl ⟨rfl, rfl, rfl, trivial⟩ ?_
  refine WO_split (d := 6) (b := decide (1 ≤ p0_0)) rfl (fun hb3 => ?_) (fun hb3 => ?_)
  · have hm := ifT hb3 hm
    refine WO_pure tbok 1 [(1, .pointer (some ⟨b2, 0, none⟩)), (2, .bool false), (6, .bool true), (7, .pointer (some ⟨b2, 0, none⟩))] rfl ⟨rfl, rfl, rfl, rfl, trivial⟩ ?_
    refine WO_loadB tbok 0 rfl rfl rfl rfl (fun _ h => h) rfl rfl ?_
    refine WO_pure tbok 3 [(1, .pointer (some ⟨b2, 0, none⟩)), (2, .bool false), (11, .bool (decide (p0_0 ≤ 64)))] rfl ⟨rfl, rfl, rfl, trivial⟩ ?_
    refine WO_split (d := 11) (b := decide (p0_0 ≤ 64)) rfl (fun hb4 => ?_) (fun hb4 => ?_)
    · have hm := ifT hb4 hm
      refine WO_pure tbok 1 [(1, .pointer (some ⟨b2, 0, none⟩)), (2, .bool false), (11, .bool true), (12, .pointer (some ⟨b2, 1, none⟩))] rfl ⟨rfl, rfl, rfl, rfl, trivial⟩ ?_
      refine WO_loadB tbok 0 rfl rfl rfl rfl (fun _ h => h) rfl rfl ?_
      refine WO_pure tbok 3 [(1, .pointer (some ⟨b2, 0, none⟩)), (2, .bool false), (16, .bool (decide (1 ≤ p0_1)))] rfl ⟨rfl, rfl, rfl, trivial⟩ ?_
      refine WO_split (d := 16) (b := decide (1 ≤ p0_1)) rfl (fun hb5 => ?_) (fun hb5 => ?_)
      · have hm := ifT hb5 hm
        refine WO_pure tbok 1 [(1, .pointer (some ⟨b2, 0, none⟩)), (2, .bool false), (16, .bool true), (17, .pointer (some ⟨b2, 1, none⟩))] rfl ⟨rfl, rfl, rfl, rfl, trivial⟩ ?_
        refine WO_loadB tbok 0 rfl rfl rfl rfl (fun _ h => h) rfl rfl ?_
        refine WO_pure tbok 3 [(1, .pointer (some ⟨b2, 0, none⟩)), (2, .bool false), (21, .bool (decide (p0_1 ≤ 64)))] rfl ⟨rfl, rfl, rfl, trivial⟩ ?_
        refine WO_split (d := 21) (b := decide (p0_1 ≤ 64)) rfl (fun hb6 => ?_) (fun hb6 => ?_)
        · have hm := ifT hb6 hm
          refine WO_pure tbok 1 [(1, .pointer (some ⟨b2, 0, none⟩)), (2, .bool false), (21, .bool true), (22, .pointer (some ⟨b2, 2, none⟩))] rfl ⟨rfl, rfl, rfl, rfl, trivial⟩ ?_
          refine WO_loadB tbok 0 rfl rfl rfl rfl (fun _ h => h) rfl rfl ?_
          refine WO_pure tbok 3 [(1, .pointer (some ⟨b2, 0, none⟩)), (2, .bool false), (26, .bool (decide (1 ≤ p0_2)))] rfl ⟨rfl, rfl, rfl, trivial⟩ ?_
          refine WO_split (d := 26) (b := decide (1 ≤ p0_2)) rfl (fun hb7 => ?_) (fun hb7 => ?_)
          · have hm := ifT hb7 hm
            refine WO_pure tbok 1 [(1, .pointer (some ⟨b2, 0, none⟩)), (2, .bool false), (26, .bool true), (27, .pointer (some ⟨b2, 2, none⟩))] rfl ⟨rfl, rfl, rfl, rfl, trivial⟩ ?_
            refine WO_loadB tbok 0 rfl rfl rfl rfl (fun _ h => h) rfl rfl ?_
            refine WO_pure tbok 3 [(1, .pointer (some ⟨b2, 0, none⟩)), (2, .bool false), (31, .bool (decide (p0_2 ≤ 64)))] rfl ⟨rfl, rfl, rfl, trivial⟩ ?_
            refine WO_split (d := 31) (b := decide (p0_2 ≤ 64)) rfl (fun hb8 => ?_) (fun hb8 => ?_)
            · have hm := ifT hb8 hm
              refine WO_pure tbok 1 [(1, .pointer (some ⟨b2, 0, none⟩)), (2, .bool false), (31, .bool true), (32, .pointer (some ⟨b2, 3, none⟩))] rfl ⟨rfl, rfl, rfl, rfl, trivial⟩ ?_
              refine WO_loadB tbok 0 rfl rfl rfl rfl (fun _ h => h) rfl rfl ?_
              refine WO_pure tbok 2 [(1, .pointer (some ⟨b2, 0, none⟩)), (2, .bool false), (31, .bool true), (34, .int .i64 (p0_3.length : Int)), (35, .pointer (some ⟨b2, 0, none⟩))] rfl ⟨rfl, rfl, rfl, rfl, rfl, trivial⟩ ?_
              refine WO_loadB tbok 0 rfl rfl rfl rfl (fun _ h => h) rfl rfl ?_
              refine WO_pure tbok 1 [(1, .pointer (some ⟨b2, 0, none⟩)), (2, .bool false), (31, .bool true), (34, .int .i64 (p0_3.length : Int)), (36, .int .i64 p0_0), (37, .pointer (some ⟨b2, 1, none⟩))] rfl ⟨rfl, rfl, rfl, rfl, rfl, rfl, trivial⟩ ?_
              refine WO_loadB tbok 0 rfl rfl rfl rfl (fun _ h => h) rfl rfl ?_
              refine WO_pure tbok 2 [(1, .pointer (some ⟨b2, 0, none⟩)), (2, .bool false), (31, .bool true), (34, .int .i64 (p0_3.length : Int)), (39, .int .i64 (w64 (p0_0 * p0_1))), (40, .pointer (some ⟨b2, 2, none⟩))] rfl ⟨rfl, rfl, rfl, rfl, rfl, rfl, trivial⟩ ?_
              refine WO_loadB tbok 0 rfl rfl rfl rfl (fun _ h => h) rfl rfl ?_
              refine WO_pure tbok 4 [(1, .pointer (some ⟨b2, 0, none⟩)), (2, .bool false), (45, .bool ((p0_3.length : Int) == (w64 ((w64 (p0_0 * p0_1)) * p0_2))))] rfl ⟨rfl, rfl, rfl, trivial⟩ ?_
              refine WO_split (d := 45) (b := (p0_3.length : Int) == (w64 ((w64 (p0_0 * p0_1)) * p0_2))) rfl (fun hb9 => ?_) (fun hb9 => ?_)
              · have hm := ifT hb9 hm
                refine WO_pure tbok 1 [(2, .bool false), (45, .bool true), (46, .pointer (some ⟨b2, 3, none⟩))] rfl ⟨rfl, rfl, rfl, trivial⟩ ?_
                refine WO_loadB tbok 0 rfl rfl rfl rfl (fun _ h => h) rfl rfl ?_
                obtain ⟨y_2, hc10, hm⟩ := bind_some hm
                refine WO_call0 (.bool y_2) rfl rfl trivial rfl rfl rfl rfl St_closed ⟨41, #[], #[], rfl, callable_41, fun w hw => ⟨_, hw.sat, slices_ContainsFunc_sint_walk h_p0_3 (fun m1 hm1 z_1 _ h => specV_cap callable_48 (fiduciallaw44_valid_c1_walk h)) hc10⟩⟩ ?_
                refine WO_pure tbok 3 [(2, .bool (!y_2))] rfl ⟨rfl, trivial⟩ ?_
                refine WO_end ?_
                cases hm
                exact WK_ret (ret_out (L := []) (RLc_tmp rfl RLc_nil) (List.nil_sublist _) rfl)
              · have hm := ifF hb9 hm
                refine WO_pure tbok 2 [(2, .bool false), (45, .bool false)] rfl ⟨rfl, rfl, trivial⟩ ?_
                refine WO_skip rfl rfl ?_
                refine WO_pure tbok 3 [(2, .bool false)] rfl ⟨rfl, trivial⟩ ?_
                refine WO_end ?_
                cases hm
                exact WK_ret (ret_out (L := []) (RLc_tmp rfl RLc_nil) (List.nil_sublist _) rfl)
            · have hm := ifF hb8 hm
              refine WO_pure tbok 16 [(2, .bool false), (45, .bool false)] rfl ⟨rfl, rfl, trivial⟩ ?_
              refine WO_skip rfl rfl ?_
              refine WO_pure tbok 3 [(2, .bool false)] rfl ⟨rfl, trivial⟩ ?_
              refine WO_end ?_
              cases hm
              exact WK_ret (ret_out (L := []) (RLc_tmp rfl RLc_nil) (List.nil_sublist _) rfl)
          · have hm := ifF hb7 hm
            refine WO_pure tbok 21 [(2, .bool false), (45, .bool false)] rfl ⟨rfl, rfl, trivial⟩ ?_
            refine WO_skip rfl rfl ?_
            refine WO_pure tbok 3 [(2, .bool false)] rfl ⟨rfl, trivial⟩ ?_
            refine WO_end ?_
            cases hm
            exact WK_ret (ret_out (L := []) (RLc_tmp rfl RLc_nil) (List.nil_sublist _) rfl)
        · have hm := ifF hb6 hm
          refine WO_pure tbok 26 [(2, .bool false), (45, .bool false)] rfl ⟨rfl, rfl, trivial⟩ ?_
          refine WO_skip rfl rfl ?_
          refine WO_pure tbok 3 [(2, .bool false)] rfl ⟨rfl, trivial⟩ ?_
          refine WO_end ?_
          cases hm
          exact WK_ret (ret_out (L := []) (RLc_tmp rfl RLc_nil) (List.nil_sublist _) rfl)
      · have hm := ifF hb5 hm
        refine WO_pure tbok 31 [(2, .bool false), (45, .bool false)] rfl ⟨rfl, rfl, trivial⟩ ?_
        refine WO_skip rfl rfl ?_
        refine WO_pure tbok 3 [(2, .bool false)] rfl ⟨rfl, trivial⟩ ?_
        refine WO_end ?_
        cases hm
        exact WK_ret (ret_out (L := []) (RLc_tmp rfl RLc_nil) (List.nil_sublist _) rfl)
    · have hm := ifF hb4 hm
      refine WO_pure tbok 36 [(2, .bool false), (45, .bool false)] rfl ⟨rfl, rfl, trivial⟩ ?_
      refine WO_skip rfl rfl ?_
      refine WO_pure tbok 3 [(2, .bool false)] rfl ⟨rfl, trivial⟩ ?_
      refine WO_end ?_
      cases hm
      exact WK_ret (ret_out (L := []) (RLc_tmp rfl RLc_nil) (List.nil_sublist _) rfl)
  · have hm := ifF hb3 hm
    refine WO_pure tbok 41 [(2, .bool false), (45, .bool false)] rfl ⟨rfl, rfl, trivial⟩ ?_
    refine WO_skip rfl rfl ?_
    refine WO_pure tbok 3 [(2, .bool false)] rfl ⟨rfl, trivial⟩ ?_
    refine WO_end ?_
    cases hm
    exact WK_ret (ret_out (L := []) (RLc_tmp rfl RLc_nil) (List.nil_sublist _) rfl)
def fiduciallaw44_best_Q (r : List Int) : Value → List Ent → Prop := fun v L => ∃ (a0 : Option Addr) (q0 c0 : Nat), v = .slice a0 q0 c0 ∧ OwnE 3 1 (I1 .i64) (.slice a0 q0 c0) r L
theorem fiduciallaw44_best_walk {m : Mu} {p0_0 : Int} {p0_1 : Int} {p0_2 : Int} {p0_3 : List Int} {a_p0_3 : Option Addr} {q_p0_3 c_p0_3 : Nat} (h_p0_3 : SlR (FE (I1 .i64)) 1 m (.slice a_p0_3 q_p0_3 c_p0_3) p0_3) {r : List Int} (hm : fiduciallaw44_best p0_0 p0_1 p0_2 p0_3 = some r) :
    Go.E.Spec Try.prog 30 [.agg #[.int .i64 p0_0, .int .i64 p0_1, .int .i64 p0_2, .slice a_p0_3 q_p0_3 c_p0_3]] m (fun v _ L => fiduciallaw44_best_Q r v L) := by
  refine Spec_enter Try.func30 rfl rfl rfl (fun w0 => ?_)
  refine WK.sub (e' := [(0, .agg #[.int .i64 p0_0, .int .i64 p0_1, .int .i64 p0_2, .slice a_p0_3 q_p0_3 c_p0_3])]) ⟨rfl, trivial⟩ ?_
  obtain rfl := SlR.qlen h_p0_3
  refine WK.sub (e' := [(0, .agg #[.int .i64 p0_0, .int .i64 p0_1, .int .i64 p0_2, .slice a_p0_3 p0_3.length c_p0_3])]) ⟨rfl, trivial⟩ ?_
  unfold fiduciallaw44_best at hm
  refine WK_seq ?_
  refine WK_region ?_
  refine WO_box [.int .i64 p0_0, .int .i64 p0_1, .int .i64 p0_2, .slice a_p0_3 p0_3.length c_p0_3] rfl rfl trivial rfl rfl rfl (fun b2 => ?_)
  refine WO.cls (C' := St w0 m m [[⟨b2, 39, [.int .i64 p0_0, .int .i64 p0_1, .int .i64 p0_2, .slice a_p0_3 p0_3.length c_p0_3]⟩]]) (fun _ h => h) ?_
  refine WO_pure tbok 1 [(1, .pointer (some ⟨b2, 0, none⟩)), (2, .slice none 0 0)] rfl ⟨rfl, rfl, trivial⟩ ?_
  refine WO_end ?_
  refine WK_seq ?_
  refine WK_region ?_
  refine WO_pure tbok 1 [(1, .pointer (some ⟨b2, 0, none⟩)), (2, .slice none 0 0), (3, .slice none 0 0)] rfl ⟨rfl, rfl, rfl, trivial⟩ ?_
  refine WO_end ?_
  refine WK_seq ?_
  refine WK_seq ?_
  refine WK_region ?_
  refine WO_pure tbok 1 [(1, .pointer (some ⟨b2, 0, none⟩)), (2, .slice none 0 0), (3, .slice none 0 0), (6, .pointer (some ⟨b2, 0, none⟩))] rfl ⟨rfl, rfl, rfl, rfl, trivial⟩ ?_
  refine WO_loadB tbok 0 rfl rfl rfl rfl (fun _ h => h) rfl rfl ?_
  refine WO_pure tbok 1 [(1, .pointer (some ⟨b2, 0, none⟩)), (2, .slice none 0 0), (3, .slice none 0 0), (7, .int .i64 p0_0), (8, .pointer (some ⟨b2, 1, none⟩))] rfl ⟨rfl, rfl, rfl, rfl, rfl, trivial⟩ ?_
  refine WO_loadB tbok 0 rfl rfl rfl rfl (fun _ h => h) rfl rfl ?_
  refine WO_pure tbok 2 [(1, .pointer (some ⟨b2, 0, none⟩)), (2, .slice none 0 0), (3, .slice none 0 0), (10, .int .i64 (w64 (p0_0 * p0_1))), (11, .int .i64 0)] rfl ⟨rfl, rfl, rfl, rfl, rfl, trivial⟩ ?_
  refine WO_end ?_
  refine WK_pad ?_
  obtain ⟨x14, hx15, hm⟩ := bind_some hm
  refine WK_join (β := (List Int) × (Option Addr × Nat × Nat × List Ent)) (fun p => p.1 = x14 ∧ OwnE 3 1 (I1 .i64) (.slice p.2.1 p.2.2.1 p.2.2.2.1) p.1 p.2.2.2.2) (fun p => [(2, .slice none 0 0), (3, .slice p.2.1 p.2.2.1 p.2.2.2.1)]) (fun p => St w0 m m [[⟨b2, 39, [.int .i64 p0_0, .int .i64 p0_1, .int .i64 p0_2, .slice a_p0_3 p0_3.length c_p0_3]⟩], p.2.2.2.2]) ?_ (fun hk16 => ?_)
  · rintro ⟨l_3, ⟨a11, q12, c13, L10⟩⟩ ⟨hq22, hL10⟩
    subst hq22
    have hqq : q12 = l_3.length := OwnE.qlen hL10
    subst hqq
    refine WK.sub (e' := [(2, .slice none 0 0), (3, .slice a11 ((l_3).length) c13)]) ⟨rfl, rfl, trivial⟩ (WK.cls (C' := St w0 m m [[⟨b2, 39, [.int .i64 p0_0, .int .i64 p0_1, .int .i64 p0_2, .slice a_p0_3 p0_3.length c_p0_3]⟩], L10]) (fun _ h => h) ?_)
    refine WK_seq ?_
    refine WK_region ?_
    refine WO_pure tbok 2 [(2, .slice a11 ((l_3).length) c13)] rfl ⟨rfl, trivial⟩ ?_
    refine WO_end ?_
    cases hm
    exact WK_ret (ret_out (L := L10) (RLc_tmp rfl RLc_nil) (seg_sub 1 rfl) ⟨a11, _, c13, rfl, hL10⟩)
  · refine WK_block ?_
    refine WK_loop (S := List Int × Int) (G := Option Addr × Nat × Nat × List Ent) (fun s => fiduciallaw44_best_s1 p0_0 p0_1 p0_2 p0_3 s.1 s.2) (fun s g => [(1, .pointer (some ⟨b2, 0, none⟩)), (2, .slice none 0 0), (3, .slice g.1 g.2.1 g.2.2.1), (10, .int .i64 (w64 (p0_0 * p0_1))), (11, .int .i64 s.2)]) (fun s g => St w0 m m [[⟨b2, 39, [.int .i64 p0_0, .int .i64 p0_1, .int .i64 p0_2, .slice a_p0_3 p0_3.length c_p0_3]⟩], g.2.2.2]) (fun s g => OwnE 3 1 (I1 .i64) (.slice g.1 g.2.1 g.2.2.1) s.1 g.2.2.2) FUEL (([] : List Int), 0) (none, 0, 0, []) x14 hx15 (OwnE.nil (T := 3) (k := 1) (E := (I1 .i64)) none) ⟨rfl, rfl, rfl, rfl, rfl, trivial⟩ (fun _ h => h) ?_
    rintro ⟨l_1, s_2⟩ ⟨a6, q7, c8, L5⟩ o18 fl19 hm17 hL5 hn20 hd21
    have hm17 : fiduciallaw44_best_s1 p0_0 p0_1 p0_2 p0_3 l_1 s_2 = some o18 := hm17
    unfold fiduciallaw44_best_s1 at hm17
    have hqq : q7 = l_1.length := OwnE.qlen hL5
    subst hqq
    refine WK.sub (e' := [(1, .pointer (some ⟨b2, 0, none⟩)), (2, .slice none 0 0), (3, .slice a6 ((l_1).length) c8), (10, .int .i64 (w64 (p0_0 * p0_1))), (11, .int .i64 s_2)]) ⟨rfl, rfl, rfl, rfl, rfl, trivial⟩ (WK.cls (C' := St w0 m m [[⟨b2, 39, [.int .i64 p0_0, .int .i64 p0_1, .int .i64 p0_2, .slice a_p0_3 p0_3.length c_p0_3]⟩], L5]) (fun _ h => h) ?_)
    refine WK_seq ?_
    refine WK_region ?_
    refine WO_pure tbok 1 [(1, .pointer (some ⟨b2, 0, none⟩)), (2, .slice none 0 0), (3, .slice a6 ((l_1).length) c8), (10, .int .i64 (w64 (p0_0 * p0_1))), (11, .int .i64 s_2), (12, .bool (decide (s_2 < (w64 (p0_0 * p0_1)))))] rfl ⟨rfl, rfl, rfl, rfl, rfl, rfl, trivial⟩ ?_
    refine WO_end ?_
    refine WK_seq ?_
    refine WK_cond (b := decide (s_2 < (w64 (p0_0 * p0_1)))) rfl (fun hb23 => ?_) (fun hb23 => ?_)
    · have hm17 := ifT hb23 hm17
      refine WK_skip ?_
      refine WK_seq ?_
      refine WK_block ?_
      refine WK_seq ?_
      refine WK_region ?_
      refine WO_pure tbok 2 [(1, .pointer (some ⟨b2, 0, none⟩)), (2, .slice none 0 0), (3, .slice a6 ((l_1).length) c8), (4, .int .i64 s_2), (10, .int .i64 (w64 (p0_0 * p0_1))), (11, .int .i64 s_2)] rfl ⟨rfl, rfl, rfl, rfl, rfl, rfl, trivial⟩ ?_
      refine WO_end ?_
      refine WK_seq ?_
      refine WK_region ?_
      refine WO_pure tbok 1 [(1, .pointer (some ⟨b2, 0, none⟩)), (2, .slice none 0 0), (3, .slice a6 ((l_1).length) c8), (4, .int .i64 s_2), (10, .int .i64 (w64 (p0_0 * p0_1))), (11, .int .i64 s_2), (14, .pointer (some ⟨b2, 3, none⟩))] rfl ⟨rfl, rfl, rfl, rfl, rfl, rfl, rfl, trivial⟩ ?_
      refine WO_loadB tbok 0 rfl rfl rfl rfl (fun _ h => h) rfl rfl ?_
      refine WO_pure tbok 2 [(1, .pointer (some ⟨b2, 0, none⟩)), (2, .slice none 0 0), (3, .slice a6 ((l_1).length) c8), (4, .int .i64 s_2), (10, .int .i64 (w64 (p0_0 * p0_1))), (11, .int .i64 s_2), (15, .slice a_p0_3 p0_3.length c_p0_3), (16, .int .i64 s_2), (17, .pointer (some ⟨b2, 2, none⟩))] rfl ⟨rfl, rfl, rfl, rfl, rfl, rfl, rfl, rfl, rfl, trivial⟩ ?_
      refine WO_loadB tbok 0 rfl rfl rfl rfl (fun _ h => h) rfl rfl ?_
      refine WO_pure tbok 4 [(1, .pointer (some ⟨b2, 0, none⟩)), (2, .slice none 0 0), (3, .slice a6 ((l_1).length) c8), (10, .int .i64 (w64 (p0_0 * p0_1))), (11, .int .i64 s_2), (15, .slice a_p0_3 p0_3.length c_p0_3), (19, .int .i64 (w64 (s_2 * p0_2))), (21, .int .i64 (w64 (s_2 + 1))), (22, .pointer (some ⟨b2, 2, none⟩))] rfl ⟨rfl, rfl, rfl, rfl, rfl, rfl, rfl, rfl, rfl, trivial⟩ ?_
      refine WO_loadB tbok 0 rfl rfl rfl rfl (fun _ h => h) rfl rfl ?_
      refine WO_pure tbok 1 [(1, .pointer (some ⟨b2, 0, none⟩)), (2, .slice none 0 0), (3, .slice a6 ((l_1).length) c8), (10, .int .i64 (w64 (p0_0 * p0_1))), (11, .int .i64 s_2), (15, .slice a_p0_3 p0_3.length c_p0_3), (19, .int .i64 (w64 (s_2 * p0_2))), (24, .int .i64 (w64 ((w64 (s_2 + 1)) * p0_2)))] rfl ⟨rfl, rfl, rfl, rfl, rfl, rfl, rfl, rfl, trivial⟩ ?_
      obtain ⟨hc24, hm17⟩ := chk_some hm17
      have hc24 : 0 ≤ (w64 (s_2 * p0_2) : Int) ∧ (w64 (s_2 * p0_2) : Int) ≤ (w64 ((w64 (s_2 + 1)) * p0_2) : Int) ∧ (w64 ((w64 (s_2 + 1)) * p0_2) : Int) ≤ (p0_3.length : Int) := hc24
      have hz28 : SlR (FE (I1 .i64)) 1 m (.slice a_p0_3 p0_3.length c_p0_3) p0_3 := h_p0_3
      refine WO_slice tbok (some (w64 (s_2 * p0_2) : Int)) (some (w64 ((w64 (s_2 + 1)) * p0_2) : Int)) none (w64 (s_2 * p0_2) : Int).toNat (w64 ((w64 (s_2 + 1)) * p0_2) : Int).toNat rfl rfl rfl rfl rfl rfl rfl rfl rfl rfl rfl hz28 (by simp only [Option.getD_some] <;> omega) (by simp only [Option.getD_some] <;> omega) (fun q hq => by cases hq) (by omega) (by omega) (fun hh => by cases hh) (fun a25 c26 h27 => ?_)
      refine WO_pure tbok 1 [(1, .pointer (some ⟨b2, 0, none⟩)), (2, .slice none 0 0), (3, .slice a6 ((l_1).length) c8), (5, .slice a25 (((p0_3.take (w64 ((w64 (s_2 + 1)) * p0_2) : Int).toNat).drop (w64 (s_2 * p0_2) : Int).toNat).length) c26), (10, .int .i64 (w64 (p0_0 * p0_1))), (11, .int .i64 s_2)] rfl ⟨rfl, rfl, rfl, rfl, rfl, rfl, trivial⟩ ?_
      refine WO_end ?_
      refine WK_region ?_
      refine WO_pure tbok 3 [(1, .pointer (some ⟨b2, 0, none⟩)), (2, .slice none 0 0), (3, .slice a6 ((l_1).length) c8), (10, .int .i64 (w64 (p0_0 * p0_1))), (11, .int .i64 s_2), (26, .slice a6 ((l_1).length) c8), (27, .slice a25 (((p0_3.take (w64 ((w64 (s_2 + 1)) * p0_2) : Int).toNat).drop (w64 (s_2 * p0_2) : Int).toNat).length) c26), (28, .slice a25 (((p0_3.take (w64 ((w64 (s_2 + 1)) * p0_2) : Int).toNat).drop (w64 (s_2 * p0_2) : Int).toNat).length) c26)] rfl ⟨rfl, rfl, rfl, rfl, rfl, rfl, rfl, rfl, trivial⟩ ?_
      obtain ⟨y_4, hc30, hm17⟩ := bind_some hm17
      refine WO_call0 (.int .i64 y_4) rfl rfl trivial rfl rfl rfl rfl St_closed ⟨46, #[], #[], rfl, callable_46, fun w hw => ⟨_, hw.sat, slices_Min_sint_walk h27 hc30⟩⟩ ?_
      obtain ⟨y_5, hc31, hm17⟩ := bind_some hm17
      refine WO_call0 (.int .i64 y_5) rfl rfl trivial rfl rfl rfl rfl St_closed ⟨45, #[], #[], rfl, callable_45, fun w hw => ⟨_, hw.sat, slices_Index_sint_walk h27 hc31⟩⟩ ?_
      refine WO_bslice (E := (I1 .i64)) tbok (fun _ => rfl) (by decide) [.int .i64 y_5] ([y_5] : List Int) rfl rfl trivial rfl rfl rfl rfl rfl rfl rfl rfl rfl rfl rfl rfl (fun b32 hb32 => ?_)
      refine WO.cls (C' := St w0 m m [[⟨b2, 39, [.int .i64 p0_0, .int .i64 p0_1, .int .i64 p0_2, .slice a_p0_3 p0_3.length c_p0_3]⟩], L5, [⟨b32, 3, ([y_5] : List Int).flatMap (I1 .i64)⟩]]) (fun _ h => h) ?_
      obtain ⟨hc34, hm17⟩ := chk_some hm17
      refine WO_append (E := (I1 .i64)) tbok (fun _ => rfl) 1 ([y_5] : List Int) (fun _ _ => rfl) rfl rfl rfl rfl rfl rfl rfl rfl rfl rfl rfl rfl hL5 rfl (src_seg (j := 2) rfl) (ap_ok (by decide) hc34) (ap_max hc34) (fun a35 c36 L37 hL37 => ?_)
      refine WO.cls (C' := St w0 m m [[⟨b2, 39, [.int .i64 p0_0, .int .i64 p0_1, .int .i64 p0_2, .slice a_p0_3 p0_3.length c_p0_3]⟩], L37, [⟨b32, 3, ([y_5] : List Int).flatMap (I1 .i64)⟩]]) (fun _ h => h) ?_
      refine WO_pure tbok 1 [(1, .pointer (some ⟨b2, 0, none⟩)), (2, .slice none 0 0), (3, .slice a35 ((l_1 ++ ([y_5] : List Int)).length) c36), (10, .int .i64 (w64 (p0_0 * p0_1))), (11, .int .i64 s_2)] rfl ⟨rfl, rfl, rfl, rfl, rfl, trivial⟩ ?_
      refine WO_end ?_
      refine WK_blk ?_
      refine WK_region ?_
      refine WO_pure tbok 2 [(1, .pointer (some ⟨b2, 0, none⟩)), (2, .slice none 0 0), (3, .slice a35 ((l_1 ++ ([y_5] : List Int)).length) c36), (10, .int .i64 (w64 (p0_0 * p0_1))), (11, .int .i64 (w64 (s_2 + 1)))] rfl ⟨rfl, rfl, rfl, rfl, rfl, trivial⟩ ?_
      refine WO_end ?_
      cases hm17
      refine WK.sub ?_ (WK.cls (fun _ h => St.take 2 h) (hn20 _ (a35, (l_1 ++ ([y_5] : List Int)).length, c36, L37) rfl hL37))
      exact ⟨rfl, rfl, rfl, rfl, rfl, trivial⟩
    · have hm17 := ifF hb23 hm17
      refine WK_exit rfl ?_
      cases hm17
      refine WK.sub ?_ (WK.cls (fun _ h => h) (hk16 (l_1, (a6, _, c8, L5)) ⟨(hd21 _ rfl), hL5⟩))
      exact ⟨rfl, rfl, trivial⟩
def fiduciallaw44_mirrored_Q (r : Int × Int × Int × List Int) : Value → List Ent → Prop := fun v L => ∃ (a0 : Option Addr) (q0 c0 : Nat), v = .agg #[.int .i64 r.1, .int .i64 r.2.1, .int .i64 r.2.2.1, .slice a0 q0 c0] ∧ OwnE 3 1 (I1 .i64) (.slice a0 q0 c0) r.2.2.2 L
theorem fiduciallaw44_mirrored_walk {m : Mu} {p0_0 : Int} {p0_1 : Int} {p0_2 : Int} {p0_3 : List Int} {a_p0_3 : Option Addr} {q_p0_3 c_p0_3 : Nat} (h_p0_3 : SlR (FE (I1 .i64)) 1 m (.slice a_p0_3 q_p0_3 c_p0_3) p0_3) {r : Int × Int × Int × List Int} (hm : fiduciallaw44_mirrored p0_0 p0_1 p0_2 p0_3 = some r) :
    Go.E.Spec Try.prog 31 [.agg #[.int .i64 p0_0, .int .i64 p0_1, .int .i64 p0_2, .slice a_p0_3 q_p0_3 c_p0_3]] m (fun v _ L => fiduciallaw44_mirrored_Q r v L) := by
  refine Spec_enter Try.func31 rfl rfl rfl (fun w0 => ?_)
  refine WK.sub (e' := [(0, .agg #[.int .i64 p0_0, .int .i64 p0_1, .int .i64 p0_2, .slice a_p0_3 q_p0_3 c_p0_3])]) ⟨rfl, trivial⟩ ?_
  obtain rfl := SlR.qlen h_p0_3
  refine WK.sub (e' := [(0, .agg #[.int .i64 p0_0, .int .i64 p0_1, .int .i64 p0_2, .slice a_p0_3 p0_3.length c_p0_3])]) ⟨rfl, trivial⟩ ?_
  unfold fiduciallaw44_mirrored at hm
  refine WK_seq ?_
  refine WK_region ?_
  refine WO_box [.int .i64 p0_0, .int .i64 p0_1, .int .i64 p0_2, .slice a_p0_3 p0_3.length c_p0_3] rfl rfl trivial rfl rfl rfl (fun b2 => ?_)
  refine WO.cls (C' := St w0 m m [[⟨b2, 39, [.int .i64 p0_0, .int .i64 p0_1, .int .i64 p0_2, .slice a_p0_3 p0_3.length c_p0_3]⟩]]) (fun _ h => h) ?_
  refine WO_alloc tbok [.int .i64 0, .int .i64 0, .int .i64 0, .slice none 0 0] rfl rfl trivial rfl rfl rfl rfl (fun b3 => ?_)
  refine WO.cls (C' := St w0 m m [[⟨b2, 39, [.int .i64 p0_0, .int .i64 p0_1, .int .i64 p0_2, .slice a_p0_3 p0_3.length c_p0_3]⟩], [⟨b3, 39, [.int .i64 0, .int .i64 0, .int .i64 0, .slice none 0 0]⟩]]) (fun _ h => h) ?_
  refine WO_end ?_
  refine WK_seq ?_
  refine WK_region ?_
  refine WO_pure tbok 1 [(1, .pointer (some ⟨b2, 0, none⟩)), (2, .pointer (some ⟨b3, 0, none⟩)), (8, .pointer (some ⟨b2, 0, none⟩))] rfl ⟨rfl, rfl, rfl, trivial⟩ ?_
  refine WO_loadB tbok 0 rfl rfl rfl rfl (fun _ h => h) rfl rfl ?_
  refine WO_pure tbok 1 [(1, .pointer (some ⟨b2, 0, none⟩)), (2, .pointer (some ⟨b3, 0, none⟩)), (9, .int .i64 p0_0), (10, .pointer (some ⟨b2, 1, none⟩))] rfl ⟨rfl, rfl, rfl, rfl, trivial⟩ ?_
  refine WO_loadB tbok 0 rfl rfl rfl rfl (fun _ h => h) rfl rfl ?_
  refine WO_pure tbok 1 [(1, .pointer (some ⟨b2, 0, none⟩)), (2, .pointer (some ⟨b3, 0, none⟩)), (9, .int .i64 p0_0), (11, .int .i64 p0_1), (12, .pointer (some ⟨b2, 2, none⟩))] rfl ⟨rfl, rfl, rfl, rfl, rfl, trivial⟩ ?_
  refine WO_loadB tbok 0 rfl rfl rfl rfl (fun _ h => h) rfl rfl ?_
  refine WO_pure tbok 1 [(1, .pointer (some ⟨b2, 0, none⟩)), (2, .pointer (some ⟨b3, 0, none⟩)), (14, .agg #[.int .i64 p0_0, .int .i64 p0_1, .int .i64 p0_2, .slice none 0 0])] rfl ⟨rfl, rfl, rfl, trivial⟩ ?_
  refine WO_alloc tbok [.int .i64 0, .int .i64 0, .int .i64 0, .slice none 0 0] rfl rfl trivial rfl rfl rfl rfl (fun b4 => ?_)
  refine WO.cls (C' := St w0 m m [[⟨b2, 39, [.int .i64 p0_0, .int .i64 p0_1, .int .i64 p0_2, .slice a_p0_3 p0_3.length c_p0_3]⟩], [⟨b3, 39, [.int .i64 0, .int .i64 0, .int .i64 0, .slice none 0 0]⟩], [⟨b4, 39, [.int .i64 0, .int .i64 0, .int .i64 0, .slice none 0 0]⟩]]) (fun _ h => h) ?_
  refine WO_storeB tbok 2 [.int .i64 p0_0, .int .i64 p0_1, .int .i64 p0_2, .slice none 0 0] rfl rfl rfl rfl rfl rfl rfl ?_
  refine WO.cls (C' := St w0 m m [[⟨b2, 39, [.int .i64 p0_0, .int .i64 p0_1, .int .i64 p0_2, .slice a_p0_3 p0_3.length c_p0_3]⟩], [⟨b3, 39, [.int .i64 0, .int .i64 0, .int .i64 0, .slice none 0 0]⟩], [⟨b4, 39, [.int .i64 p0_0, .int .i64 p0_1, .int .i64 p0_2, .slice none 0 0]⟩]]) (fun _ h => h) ?_
  refine WO_end ?_
  refine WK_seq ?_
  refine WK_region ?_
  refine WO_pure tbok 1 [(1, .pointer (some ⟨b2, 0, none⟩)), (2, .pointer (some ⟨b3, 0, none⟩)), (3, .pointer (some ⟨b4, 0, none⟩)), (15, .pointer (some ⟨b2, 3, none⟩))] rfl ⟨rfl, rfl, rfl, rfl, trivial⟩ ?_
  refine WO_loadB tbok 0 rfl rfl rfl rfl (fun _ h => h) rfl rfl ?_
  obtain ⟨y_1, hc5, hm⟩ := bind_some hm
  refine WO_call0 (.int .i64 y_1) rfl rfl trivial rfl rfl rfl rfl St_closed ⟨47, #[], #[], rfl, callable_47, fun w hw => ⟨_, hw.sat, slices_Max_sint_walk h_p0_3 hc5⟩⟩ ?_
  refine WO_pure tbok 1 [(1, .pointer (some ⟨b2, 0, none⟩)), (2, .pointer (some ⟨b3, 0, none⟩)), (3, .pointer (some ⟨b4, 0, none⟩)), (4, .int .i64 y_1)] rfl ⟨rfl, rfl, rfl, rfl, trivial⟩ ?_
  refine WO_end ?_
  refine WK_seq ?_
  refine WK_seq ?_
  refine WK_region ?_
  refine WO_pure tbok 1 [(1, .pointer (some ⟨b2, 0, none⟩)), (2, .pointer (some ⟨b3, 0, none⟩)), (3, .pointer (some ⟨b4, 0, none⟩)), (4, .int .i64 y_1), (18, .pointer (some ⟨b2, 0, none⟩))] rfl ⟨rfl, rfl, rfl, rfl, rfl, trivial⟩ ?_
  refine WO_loadB tbok 0 rfl rfl rfl rfl (fun _ h => h) rfl rfl ?_
  refine WO_pure tbok 1 [(1, .pointer (some ⟨b2, 0, none⟩)), (2, .pointer (some ⟨b3, 0, none⟩)), (3, .pointer (some ⟨b4, 0, none⟩)), (4, .int .i64 y_1), (19, .int .i64 p0_0), (20, .pointer (some ⟨b2, 1, none⟩))] rfl ⟨rfl, rfl, rfl, rfl, rfl, rfl, trivial⟩ ?_
  refine WO_loadB tbok 0 rfl rfl rfl rfl (fun _ h => h) rfl rfl ?_
  refine WO_pure tbok 2 [(1, .pointer (some ⟨b2, 0, none⟩)), (2, .pointer (some ⟨b3, 0, none⟩)), (3, .pointer (some ⟨b4, 0, none⟩)), (4, .int .i64 y_1), (22, .int .i64 (w64 (p0_0 * p0_1))), (23, .int .i64 0)] rfl ⟨rfl, rfl, rfl, rfl, rfl, rfl, trivial⟩ ?_
  refine WO_end ?_
  refine WK_pad ?_
  obtain ⟨x17, hx18, hm⟩ := bind_some hm
  refine WK_join (β := (List Int) × (Option Addr × Nat × Nat × List Ent)) (fun p => p.1 = x17 ∧ OwnE 3 1 (I1 .i64) (.slice p.2.1 p.2.2.1 p.2.2.2.1) p.1 p.2.2.2.2) (fun p => [(2, .pointer (some ⟨b3, 0, none⟩)), (3, .pointer (some ⟨b4, 0, none⟩))]) (fun p => St w0 m m [[⟨b2, 39, [.int .i64 p0_0, .int .i64 p0_1, .int .i64 p0_2, .slice a_p0_3 p0_3.length c_p0_3]⟩], [⟨b3, 39, [.int .i64 0, .int .i64 0, .int .i64 0, .slice none 0 0]⟩], [⟨b4, 39, [.int .i64 p0_0, .int .i64 p0_1, .int .i64 p0_2, .slice p.2.1 p.2.2.1 p.2.2.2.1]⟩], p.2.2.2.2]) ?_ (fun hk19 => ?_)
  · rintro ⟨l_4, ⟨a14, q15, c16, L13⟩⟩ ⟨hq25, hL13⟩
    subst hq25
    have hqq : q15 = l_4.length := OwnE.qlen hL13
    subst hqq
    refine WK.sub (e' := [(2, .pointer (some ⟨b3, 0, none⟩)), (3, .pointer (some ⟨b4, 0, none⟩))]) ⟨rfl, rfl, trivial⟩ (WK.cls (C' := St w0 m m [[⟨b2, 39, [.int .i64 p0_0, .int .i64 p0_1, .int .i64 p0_2, .slice a_p0_3 p0_3.length c_p0_3]⟩], [⟨b3, 39, [.int .i64 0, .int .i64 0, .int .i64 0, .slice none 0 0]⟩], [⟨b4, 39, [.int .i64 p0_0, .int .i64 p0_1, .int .i64 p0_2, .slice a14 ((l_4).length) c16]⟩], L13]) (fun _ h => h) ?_)
    refine WK_seq ?_
    refine WK_region ?_
    refine WO_loadB tbok 2 rfl rfl rfl rfl (fun _ h => h) rfl rfl ?_
    refine WO_storeB tbok 1 [.int .i64 p0_0, .int .i64 p0_1, .int .i64 p0_2, .slice a14 ((l_4).length) c16] rfl rfl rfl rfl rfl rfl rfl ?_
    refine WO.cls (C' := St w0 m m [[⟨b2, 39, [.int .i64 p0_0, .int .i64 p0_1, .int .i64 p0_2, .slice a_p0_3 p0_3.length c_p0_3]⟩], [⟨b3, 39, [.int .i64 p0_0, .int .i64 p0_1, .int .i64 p0_2, .slice a14 ((l_4).length) c16]⟩], [⟨b4, 39, [.int .i64 p0_0, .int .i64 p0_1, .int .i64 p0_2, .slice a14 ((l_4).length) c16]⟩], L13]) (fun _ h => h) ?_
    refine WO_end ?_
    cases hm
    exact WK_ret (ret_out (L := L13) (RLc_cell tbok 1 rfl rfl rfl RLc_nil) (seg_sub 3 rfl) ⟨a14, _, c16, rfl, hL13⟩)
  · refine WK_block ?_
    refine WK_loop (S := List Int × Int) (G := Option Addr × Nat × Nat × List Ent) (fun s => fiduciallaw44_mirrored_s1 p0_0 p0_1 p0_2 p0_3 y_1 s.1 s.2) (fun s g => [(1, .pointer (some ⟨b2, 0, none⟩)), (2, .pointer (some ⟨b3, 0, none⟩)), (3, .pointer (some ⟨b4, 0, none⟩)), (4, .int .i64 y_1), (22, .int .i64 (w64 (p0_0 * p0_1))), (23, .int .i64 s.2)]) (fun s g => St w0 m m [[⟨b2, 39, [.int .i64 p0_0, .int .i64 p0_1, .int .i64 p0_2, .slice a_p0_3 p0_3.length c_p0_3]⟩], [⟨b3, 39, [.int .i64 0, .int .i64 0, .int .i64 0, .slice none 0 0]⟩], [⟨b4, 39, [.int .i64 p0_0, .int .i64 p0_1, .int .i64 p0_2, .slice g.1 g.2.1 g.2.2.1]⟩], g.2.2.2]) (fun s g => OwnE 3 1 (I1 .i64) (.slice g.1 g.2.1 g.2.2.1) s.1 g.2.2.2) FUEL (([] : List Int), 0) (none, 0, 0, []) x17 hx18 (OwnE.nil (T := 3) (k := 1) (E := (I1 .i64)) none) ⟨rfl, rfl, rfl, rfl, rfl, rfl, trivial⟩ (fun _ h => h) ?_
    rintro ⟨l_2, s_3⟩ ⟨a9, q10, c11, L8⟩ o21 fl22 hm20 hL8 hn23 hd24
    have hm20 : fiduciallaw44_mirrored_s1 p0_0 p0_1 p0_2 p0_3 y_1 l_2 s_3 = some o21 := hm20
    unfold fiduciallaw44_mirrored_s1 at hm20
    have hqq : q10 = l_2.length := OwnE.qlen hL8
    subst hqq
    refine WK.sub (e' := [(1, .pointer (some ⟨b2, 0, none⟩)), (2, .pointer (some ⟨b3, 0, none⟩)), (3, .pointer (some ⟨b4, 0, none⟩)), (4, .int .i64 y_1), (22, .int .i64 (w64 (p0_0 * p0_1))), (23, .int .i64 s_3)]) ⟨rfl, rfl, rfl, rfl, rfl, rfl, trivial⟩ (WK.cls (C' := St w0 m m [[⟨b2, 39, [.int .i64 p0_0, .int .i64 p0_1, .int .i64 p0_2, .slice a_p0_3 p0_3.length c_p0_3]⟩], [⟨b3, 39, [.int .i64 0, .int .i64 0, .int .i64 0, .slice none 0 0]⟩], [⟨b4, 39, [.int .i64 p0_0, .int .i64 p0_1, .int .i64 p0_2, .slice a9 ((l_2).length) c11]⟩], L8]) (fun _ h => h) ?_)
    refine WK_seq ?_
    refine WK_region ?_
    refine WO_pure tbok 1 [(1, .pointer (some ⟨b2, 0, none⟩)), (2, .pointer (some ⟨b3, 0, none⟩)), (3, .pointer (some ⟨b4, 0, none⟩)), (4, .int .i64 y_1), (22, .int .i64 (w64 (p0_0 * p0_1))), (23, .int .i64 s_3), (24, .bool (decide (s_3 < (w64 (p0_0 * p0_1)))))] rfl ⟨rfl, rfl, rfl, rfl, rfl, rfl, rfl, trivial⟩ ?_
    refine WO_end ?_
    refine WK_seq ?_
    refine WK_cond (b := decide (s_3 < (w64 (p0_0 * p0_1)))) rfl (fun hb26 => ?_) (fun hb26 => ?_)
    · have hm20 := ifT hb26 hm20
      refine WK_skip ?_
      refine WK_seq ?_
      refine WK_block ?_
      refine WK_seq ?_
      refine WK_region ?_
      refine WO_pure tbok 2 [(1, .pointer (some ⟨b2, 0, none⟩)), (2, .pointer (some ⟨b3, 0, none⟩)), (3, .pointer (some ⟨b4, 0, none⟩)), (4, .int .i64 y_1), (5, .int .i64 s_3), (22, .int .i64 (w64 (p0_0 * p0_1))), (23, .int .i64 s_3)] rfl ⟨rfl, rfl, rfl, rfl, rfl, rfl, rfl, trivial⟩ ?_
      refine WO_end ?_
      refine WK_seq ?_
      refine WK_region ?_
      refine WO_pure tbok 1 [(1, .pointer (some ⟨b2, 0, none⟩)), (2, .pointer (some ⟨b3, 0, none⟩)), (3, .pointer (some ⟨b4, 0, none⟩)), (4, .int .i64 y_1), (5, .int .i64 s_3), (22, .int .i64 (w64 (p0_0 * p0_1))), (23, .int .i64 s_3), (26, .pointer (some ⟨b2, 2, none⟩))] rfl ⟨rfl, rfl, rfl, rfl, rfl, rfl, rfl, rfl, trivial⟩ ?_
      refine WO_loadB tbok 0 rfl rfl rfl rfl (fun _ h => h) rfl rfl ?_
      refine WO_pure tbok 1 [(1, .pointer (some ⟨b2, 0, none⟩)), (2, .pointer (some ⟨b3, 0, none⟩)), (3, .pointer (some ⟨b4, 0, none⟩)), (4, .int .i64 y_1), (5, .int .i64 s_3), (22, .int .i64 (w64 (p0_0 * p0_1))), (23, .int .i64 s_3), (27, .int .i64 p0_2), (28, .int .i64 0)] rfl ⟨rfl, rfl, rfl, rfl, rfl, rfl, rfl, rfl, rfl, trivial⟩ ?_
      refine WO_end ?_
      obtain ⟨x37, hx38, hm20⟩ := bind_some hm20
      refine WK_join (β := (List Int) × (Option Addr × Nat × Nat × List Ent)) (fun p => p.1 = x37 ∧ OwnE 3 1 (I1 .i64) (.slice p.2.1 p.2.2.1 p.2.2.2.1) p.1 p.2.2.2.2) (fun p => [(1, .pointer (some ⟨b2, 0, none⟩)), (2, .pointer (some ⟨b3, 0, none⟩)), (3, .pointer (some ⟨b4, 0, none⟩)), (4, .int .i64 y_1), (22, .int .i64 (w64 (p0_0 * p0_1))), (23, .int .i64 s_3)]) (fun p => St w0 m m [[⟨b2, 39, [.int .i64 p0_0, .int .i64 p0_1, .int .i64 p0_2, .slice a_p0_3 p0_3.length c_p0_3]⟩], [⟨b3, 39, [.int .i64 0, .int .i64 0, .int .i64 0, .slice none 0 0]⟩], [⟨b4, 39, [.int .i64 p0_0, .int .i64 p0_1, .int .i64 p0_2, .slice p.2.1 p.2.2.1 p.2.2.2.1]⟩], p.2.2.2.2]) ?_ (fun hk39 => ?_)
      · rintro ⟨l_7, ⟨a34, q35, c36, L33⟩⟩ ⟨hq45, hL33⟩
        subst hq45
        have hqq : q35 = l_7.length := OwnE.qlen hL33
        subst hqq
        refine WK.sub (e' := [(1, .pointer (some ⟨b2, 0, none⟩)), (2, .pointer (some ⟨b3, 0, none⟩)), (3, .pointer (some ⟨b4, 0, none⟩)), (4, .int .i64 y_1), (22, .int .i64 (w64 (p0_0 * p0_1))), (23, .int .i64 s_3)]) ⟨rfl, rfl, rfl, rfl, rfl, rfl, trivial⟩ (WK.cls (C' := St w0 m m [[⟨b2, 39, [.int .i64 p0_0, .int .i64 p0_1, .int .i64 p0_2, .slice a_p0_3 p0_3.length c_p0_3]⟩], [⟨b3, 39, [.int .i64 0, .int .i64 0, .int .i64 0, .slice none 0 0]⟩], [⟨b4, 39, [.int .i64 p0_0, .int .i64 p0_1, .int .i64 p0_2, .slice a34 ((l_7).length) c36]⟩], L33]) (fun _ h => h) ?_)
        refine WK_blk ?_
        refine WK_region ?_
        refine WO_pure tbok 2 [(1, .pointer (some ⟨b2, 0, none⟩)), (2, .pointer (some ⟨b3, 0, none⟩)), (3, .pointer (some ⟨b4, 0, none⟩)), (4, .int .i64 y_1), (22, .int .i64 (w64 (p0_0 * p0_1))), (23, .int .i64 (w64 (s_3 + 1)))] rfl ⟨rfl, rfl, rfl, rfl, rfl, rfl, trivial⟩ ?_
        refine WO_end ?_
        cases hm20
        refine WK.sub ?_ (WK.cls (fun _ h => h) (hn23 _ (a34, _, c36, L33) rfl hL33))
        exact ⟨rfl, rfl, rfl, rfl, rfl, rfl, trivial⟩
      · refine WK_block ?_
        refine WK_loop (S := List Int × Int) (G := Option Addr × Nat × Nat × List Ent) (fun s => fiduciallaw44_mirrored_s2 p0_0 p0_2 p0_3 y_1 s_3 s.1 s.2) (fun s g => [(1, .pointer (some ⟨b2, 0, none⟩)), (2, .pointer (some ⟨b3, 0, none⟩)), (3, .pointer (some ⟨b4, 0, none⟩)), (4, .int .i64 y_1), (5, .int .i64 s_3), (22, .int .i64 (w64 (p0_0 * p0_1))), (23, .int .i64 s_3), (27, .int .i64 p0_2), (28, .int .i64 s.2)]) (fun s g => St w0 m m [[⟨b2, 39, [.int .i64 p0_0, .int .i64 p0_1, .int .i64 p0_2, .slice a_p0_3 p0_3.length c_p0_3]⟩], [⟨b3, 39, [.int .i64 0, .int .i64 0, .int .i64 0, .slice none 0 0]⟩], [⟨b4, 39, [.int .i64 p0_0, .int .i64 p0_1, .int .i64 p0_2, .slice g.1 g.2.1 g.2.2.1]⟩], g.2.2.2]) (fun s g => OwnE 3 1 (I1 .i64) (.slice g.1 g.2.1 g.2.2.1) s.1 g.2.2.2) FUEL (l_2, 0) (a9, _, c11, L8) x37 hx38 hL8 ⟨rfl, rfl, rfl, rfl, rfl, rfl, rfl, rfl, rfl, trivial⟩ (fun _ h => h) ?_
        rintro ⟨l_5, s_6⟩ ⟨a29, q30, c31, L28⟩ o41 fl42 hm40 hL28 hn43 hd44
        have hm40 : fiduciallaw44_mirrored_s2 p0_0 p0_2 p0_3 y_1 s_3 l_5 s_6 = some o41 := hm40
        unfold fiduciallaw44_mirrored_s2 at hm40
        have hqq : q30 = l_5.length := OwnE.qlen hL28
        subst hqq
        refine WK.sub (e' := [(1, .pointer (some ⟨b2, 0, none⟩)), (2, .pointer (some ⟨b3, 0, none⟩)), (3, .pointer (some ⟨b4, 0, none⟩)), (4, .int .i64 y_1), (5, .int .i64 s_3), (22, .int .i64 (w64 (p0_0 * p0_1))), (23, .int .i64 s_3), (27, .int .i64 p0_2), (28, .int .i64 s_6)]) ⟨rfl, rfl, rfl, rfl, rfl, rfl, rfl, rfl, rfl, trivial⟩ (WK.cls (C' := St w0 m m [[⟨b2, 39, [.int .i64 p0_0, .int .i64 p0_1, .int .i64 p0_2, .slice a_p0_3 p0_3.length c_p0_3]⟩], [⟨b3, 39, [.int .i64 0, .int .i64 0, .int .i64 0, .slice none 0 0]⟩], [⟨b4, 39, [.int .i64 p0_0, .int .i64 p0_1, .int .i64 p0_2, .slice a29 ((l_5).length) c31]⟩], L28]) (fun _ h => h) ?_)
        refine WK_seq ?_
        refine WK_region ?_
        refine WO_pure tbok 1 [(1, .pointer (some ⟨b2, 0, none⟩)), (2, .pointer (some ⟨b3, 0, none⟩)), (3, .pointer (some ⟨b4, 0, none⟩)), (4, .int .i64 y_1), (5, .int .i64 s_3), (22, .int .i64 (w64 (p0_0 * p0_1))), (23, .int .i64 s_3), (27, .int .i64 p0_2), (28, .int .i64 s_6), (29, .bool (decide (s_6 < p0_2)))] rfl ⟨rfl, rfl, rfl, rfl, rfl, rfl, rfl, rfl, rfl, rfl, trivial⟩ ?_
        refine WO_end ?_
        refine WK_seq ?_
        refine WK_cond (b := decide (s_6 < p0_2)) rfl (fun hb46 => ?_) (fun hb46 => ?_)
        · have hm40 := ifT hb46 hm40
          refine WK_skip ?_
          refine WK_seq ?_
          refine WK_block ?_
          refine WK_seq ?_
          refine WK_region ?_
          refine WO_pure tbok 2 [(1, .pointer (some ⟨b2, 0, none⟩)), (2, .pointer (some ⟨b3, 0, none⟩)), (3, .pointer (some ⟨b4, 0, none⟩)), (4, .int .i64 y_1), (5, .int .i64 s_3), (6, .int .i64 s_6), (22, .int .i64 (w64 (p0_0 * p0_1))), (23, .int .i64 s_3), (27, .int .i64 p0_2), (28, .int .i64 s_6)] rfl ⟨rfl, rfl, rfl, rfl, rfl, rfl, rfl, rfl, rfl, rfl, trivial⟩ ?_
          refine WO_end ?_
          refine WK_seq ?_
          refine WK_region ?_
          refine WO_pure tbok 2 [(1, .pointer (some ⟨b2, 0, none⟩)), (2, .pointer (some ⟨b3, 0, none⟩)), (3, .pointer (some ⟨b4, 0, none⟩)), (4, .int .i64 y_1), (5, .int .i64 s_3), (6, .int .i64 s_6), (7, .int .i64 y_1), (22, .int .i64 (w64 (p0_0 * p0_1))), (23, .int .i64 s_3), (27, .int .i64 p0_2), (28, .int .i64 s_6)] rfl ⟨rfl, rfl, rfl, rfl, rfl, rfl, rfl, rfl, rfl, rfl, rfl, trivial⟩ ?_
          refine WO_end ?_
          refine WK_seq ?_
          refine WK_seq ?_
          refine WK_draw 9 [0, 1, 2, 3, 4, 5, 6, 7, 8] follows_ok (by kernel_rfl) St_closed ?_
          refine WO_pure tbok 2 [(1, .pointer (some ⟨b2, 0, none⟩)), (2, .pointer (some ⟨b3, 0, none⟩)), (3, .pointer (some ⟨b4, 0, none⟩)), (4, .int .i64 y_1), (5, .int .i64 s_3), (6, .int .i64 s_6), (7, .int .i64 y_1), (22, .int .i64 (w64 (p0_0 * p0_1))), (23, .int .i64 s_3), (27, .int .i64 p0_2), (28, .int .i64 s_6), (32, .int .i64 s_3), (33, .pointer (some ⟨b2, 0, none⟩))] rfl ⟨rfl, rfl, rfl, rfl, rfl, rfl, rfl, rfl, rfl, rfl, rfl, rfl, rfl, trivial⟩ ?_
          refine WO_loadB tbok 0 rfl rfl rfl rfl (fun _ h => h) rfl rfl ?_
          obtain ⟨hc47, hm40⟩ := chk_some hm40
          refine WO_rem rfl rfl rfl rfl rfl hc47 ?_
          refine WO_pure tbok 3 [(1, .pointer (some ⟨b2, 0, none⟩)), (2, .pointer (some ⟨b3, 0, none⟩)), (3, .pointer (some ⟨b4, 0, none⟩)), (4, .int .i64 y_1), (5, .int .i64 s_3), (6, .int .i64 s_6), (7, .int .i64 y_1), (22, .int .i64 (w64 (p0_0 * p0_1))), (23, .int .i64 s_3), (27, .int .i64 p0_2), (28, .int .i64 s_6), (37, .int .i64 (w64 ((Int.tmod s_3 p0_0) + s_6))), (38, .pointer (some ⟨b2, 0, none⟩))] rfl ⟨rfl, rfl, rfl, rfl, rfl, rfl, rfl, rfl, rfl, rfl, rfl, rfl, rfl, trivial⟩ ?_
          refine WO_loadB tbok 0 rfl rfl rfl rfl (fun _ h => h) rfl rfl ?_
          refine WO_pure tbok 1 [(1, .pointer (some ⟨b2, 0, none⟩)), (2, .pointer (some ⟨b3, 0, none⟩)), (3, .pointer (some ⟨b4, 0, none⟩)), (4, .int .i64 y_1), (5, .int .i64 s_3), (6, .int .i64 s_6), (7, .int .i64 y_1), (22, .int .i64 (w64 (p0_0 * p0_1))), (23, .int .i64 s_3), (27, .int .i64 p0_2), (28, .int .i64 s_6), (40, .bool (decide ((w64 ((Int.tmod s_3 p0_0) + s_6)) < p0_0)))] rfl ⟨rfl, rfl, rfl, rfl, rfl, rfl, rfl, rfl, rfl, rfl, rfl, rfl, trivial⟩ ?_
          refine WO_tail ?_
          refine WO_end ?_
          obtain ⟨s_8, hx48, hm40⟩ := bind_some hm40
          refine WK_meet [(1, .pointer (some ⟨b2, 0, none⟩)), (2, .pointer (some ⟨b3, 0, none⟩)), (3, .pointer (some ⟨b4, 0, none⟩)), (4, .int .i64 y_1), (5, .int .i64 s_3), (7, .int .i64 s_8), (22, .int .i64 (w64 (p0_0 * p0_1))), (23, .int .i64 s_3), (27, .int .i64 p0_2), (28, .int .i64 s_6)] (St w0 m m [[⟨b2, 39, [.int .i64 p0_0, .int .i64 p0_1, .int .i64 p0_2, .slice a_p0_3 p0_3.length c_p0_3]⟩], [⟨b3, 39, [.int .i64 0, .int .i64 0, .int .i64 0, .slice none 0 0]⟩], [⟨b4, 39, [.int .i64 p0_0, .int .i64 p0_1, .int .i64 p0_2, .slice a29 ((l_5).length) c31]⟩], L28]) ?_ (fun hk49 => ?_)
          · refine WK_region ?_
            refine WO_pure tbok 1 [(1, .pointer (some ⟨b2, 0, none⟩)), (2, .pointer (some ⟨b3, 0, none⟩)), (3, .pointer (some ⟨b4, 0, none⟩)), (4, .int .i64 y_1), (5, .int .i64 s_3), (7, .int .i64 s_8), (22, .int .i64 (w64 (p0_0 * p0_1))), (23, .int .i64 s_3), (27, .int .i64 p0_2), (28, .int .i64 s_6), (53, .pointer (some ⟨b4, 3, none⟩))] rfl ⟨rfl, rfl, rfl, rfl, rfl, rfl, rfl, rfl, rfl, rfl, rfl, trivial⟩ ?_
            refine WO_loadB tbok 2 rfl rfl rfl rfl (fun _ h => h) rfl rfl ?_
            refine WO_pure tbok 1 [(1, .pointer (some ⟨b2, 0, none⟩)), (2, .pointer (some ⟨b3, 0, none⟩)), (3, .pointer (some ⟨b4, 0, none⟩)), (4, .int .i64 y_1), (5, .int .i64 s_3), (22, .int .i64 (w64 (p0_0 * p0_1))), (23, .int .i64 s_3), (27, .int .i64 p0_2), (28, .int .i64 s_6), (54, .slice a29 ((l_5).length) c31), (55, .int .i64 s_8)] rfl ⟨rfl, rfl, rfl, rfl, rfl, rfl, rfl, rfl, rfl, rfl, rfl, trivial⟩ ?_
            refine WO_bslice (E := (I1 .i64)) tbok (fun _ => rfl) (by decide) [.int .i64 s_8] ([s_8] : List Int) rfl rfl trivial rfl rfl rfl rfl rfl rfl rfl rfl rfl rfl rfl rfl (fun b50 hb50 => ?_)
            refine WO.cls (C' := St w0 m m [[⟨b2, 39, [.int .i64 p0_0, .int .i64 p0_1, .int .i64 p0_2, .slice a_p0_3 p0_3.length c_p0_3]⟩], [⟨b3, 39, [.int .i64 0, .int .i64 0, .int .i64 0, .slice none 0 0]⟩], [⟨b4, 39, [.int .i64 p0_0, .int .i64 p0_1, .int .i64 p0_2, .slice a29 ((l_5).length) c31]⟩], L28, [⟨b50, 3, ([s_8] : List Int).flatMap (I1 .i64)⟩]]) (fun _ h => h) ?_
            obtain ⟨hc52, hm40⟩ := chk_some hm40
            refine WO_append (E := (I1 .i64)) tbok (fun _ => rfl) 3 ([s_8] : List Int) (fun _ _ => rfl) rfl rfl rfl rfl rfl rfl rfl rfl rfl rfl rfl rfl hL28 rfl (src_seg (j := 4) rfl) (ap_ok (by decide) hc52) (ap_max hc52) (fun a53 c54 L55 hL55 => ?_)
            refine WO.cls (C' := St w0 m m [[⟨b2, 39, [.int .i64 p0_0, .int .i64 p0_1, .int .i64 p0_2, .slice a_p0_3 p0_3.length c_p0_3]⟩], [⟨b3, 39, [.int .i64 0, .int .i64 0, .int .i64 0, .slice none 0 0]⟩], [⟨b4, 39, [.int .i64 p0_0, .int .i64 p0_1, .int .i64 p0_2, .slice a29 ((l_5).length) c31]⟩], L55, [⟨b50, 3, ([s_8] : List Int).flatMap (I1 .i64)⟩]]) (fun _ h => h) ?_
            refine WO_pure tbok 1 [(1, .pointer (some ⟨b2, 0, none⟩)), (2, .pointer (some ⟨b3, 0, none⟩)), (3, .pointer (some ⟨b4, 0, none⟩)), (4, .int .i64 y_1), (5, .int .i64 s_3), (22, .int .i64 (w64 (p0_0 * p0_1))), (23, .int .i64 s_3), (27, .int .i64 p0_2), (28, .int .i64 s_6), (57, .slice a53 ((l_5 ++ ([s_8] : List Int)).length) c54), (58, .pointer (some ⟨b4, 3, none⟩))] rfl ⟨rfl, rfl, rfl, rfl, rfl, rfl, rfl, rfl, rfl, rfl, rfl, trivial⟩ ?_
            refine WO_storeB tbok 2 [.int .i64 p0_0, .int .i64 p0_1, .int .i64 p0_2, .slice a53 ((l_5 ++ ([s_8] : List Int)).length) c54] rfl rfl rfl rfl rfl rfl rfl ?_
            refine WO.cls (C' := St w0 m m [[⟨b2, 39, [.int .i64 p0_0, .int .i64 p0_1, .int .i64 p0_2, .slice a_p0_3 p0_3.length c_p0_3]⟩], [⟨b3, 39, [.int .i64 0, .int .i64 0, .int .i64 0, .slice none 0 0]⟩], [⟨b4, 39, [.int .i64 p0_0, .int .i64 p0_1, .int .i64 p0_2, .slice a53 ((l_5 ++ ([s_8] : List Int)).length) c54]⟩], L55, [⟨b50, 3, ([s_8] : List Int).flatMap (I1 .i64)⟩]]) (fun _ h => h) ?_
            refine WO_end ?_
            refine WK_blk ?_
            refine WK_region ?_
            refine WO_pure tbok 2 [(1, .pointer (some ⟨b2, 0, none⟩)), (2, .pointer (some ⟨b3, 0, none⟩)), (3, .pointer (some ⟨b4, 0, none⟩)), (4, .int .i64 y_1), (5, .int .i64 s_3), (22, .int .i64 (w64 (p0_0 * p0_1))), (23, .int .i64 s_3), (27, .int .i64 p0_2), (28, .int .i64 (w64 (s_6 + 1)))] rfl ⟨rfl, rfl, rfl, rfl, rfl, rfl, rfl, rfl, rfl, trivial⟩ ?_
            refine WO_end ?_
            cases hm40
            refine WK.sub ?_ (WK.cls (fun _ h => St.take 4 h) (hn43 _ (a53, (l_5 ++ ([s_8] : List Int)).length, c54, L55) rfl hL55))
            exact ⟨rfl, rfl, rfl, rfl, rfl, rfl, rfl, rfl, rfl, trivial⟩
          · refine WK_cond (b := decide ((w64 ((Int.tmod s_3 p0_0) + s_6)) < p0_0)) rfl (fun hb57 => ?_) (fun hb57 => ?_)
            · have hx48 := ifT hb57 hx48
              refine WK_region ?_
              refine WO_pure tbok 1 [(1, .pointer (some ⟨b2, 0, none⟩)), (2, .pointer (some ⟨b3, 0, none⟩)), (3, .pointer (some ⟨b4, 0, none⟩)), (4, .int .i64 y_1), (5, .int .i64 s_3), (6, .int .i64 s_6), (7, .int .i64 y_1), (22, .int .i64 (w64 (p0_0 * p0_1))), (23, .int .i64 s_3), (27, .int .i64 p0_2), (28, .int .i64 s_6), (41, .pointer (some ⟨b2, 3, none⟩))] rfl ⟨rfl, rfl, rfl, rfl, rfl, rfl, rfl, rfl, rfl, rfl, rfl, rfl, trivial⟩ ?_
              refine WO_loadB tbok 0 rfl rfl rfl rfl (fun _ h => h) rfl rfl ?_
              refine WO_pure tbok 4 [(1, .pointer (some ⟨b2, 0, none⟩)), (2, .pointer (some ⟨b3, 0, none⟩)), (3, .pointer (some ⟨b4, 0, none⟩)), (4, .int .i64 y_1), (5, .int .i64 s_3), (6, .int .i64 s_6), (7, .int .i64 y_1), (22, .int .i64 (w64 (p0_0 * p0_1))), (23, .int .i64 s_3), (27, .int .i64 p0_2), (28, .int .i64 s_6), (42, .slice a_p0_3 p0_3.length c_p0_3), (45, .int .i64 (w64 (s_3 + s_6))), (46, .pointer (some ⟨b2, 2, none⟩))] rfl ⟨rfl, rfl, rfl, rfl, rfl, rfl, rfl, rfl, rfl, rfl, rfl, rfl, rfl, rfl, trivial⟩ ?_
              refine WO_loadB tbok 0 rfl rfl rfl rfl (fun _ h => h) rfl rfl ?_
              refine WO_pure tbok 3 [(1, .pointer (some ⟨b2, 0, none⟩)), (2, .pointer (some ⟨b3, 0, none⟩)), (3, .pointer (some ⟨b4, 0, none⟩)), (4, .int .i64 y_1), (5, .int .i64 s_3), (7, .int .i64 y_1), (22, .int .i64 (w64 (p0_0 * p0_1))), (23, .int .i64 s_3), (27, .int .i64 p0_2), (28, .int .i64 s_6), (42, .slice a_p0_3 p0_3.length c_p0_3), (50, .int .i64 (w64 ((w64 ((w64 (s_3 + s_6)) * p0_2)) + s_6)))] rfl ⟨rfl, rfl, rfl, rfl, rfl, rfl, rfl, rfl, rfl, rfl, rfl, rfl, trivial⟩ ?_
              obtain ⟨v_9, hy58, hx48⟩ := bind_some hx48
              obtain ⟨hc59, hy58⟩ := ix_some hy58
              refine WO_index tbok rfl rfl rfl rfl rfl rfl rfl rfl (SlR.addr h_p0_3) hc59 ?_
              refine WO_loadE tbok rfl rfl rfl rfl (fun _ h => St.sat h) h_p0_3 hy58 rfl ?_
              refine WO_pure tbok 1 [(1, .pointer (some ⟨b2, 0, none⟩)), (2, .pointer (some ⟨b3, 0, none⟩)), (3, .pointer (some ⟨b4, 0, none⟩)), (4, .int .i64 y_1), (5, .int .i64 s_3), (7, .int .i64 v_9), (22, .int .i64 (w64 (p0_0 * p0_1))), (23, .int .i64 s_3), (27, .int .i64 p0_2), (28, .int .i64 s_6)] rfl ⟨rfl, rfl, rfl, rfl, rfl, rfl, rfl, rfl, rfl, rfl, trivial⟩ ?_
              refine WO_end ?_
              cases hx48
              refine WK.sub ?_ (WK.cls (fun _ h => h) hk49)
              exact ⟨rfl, rfl, rfl, rfl, rfl, rfl, rfl, rfl, rfl, rfl, trivial⟩
            · have hx48 := ifF hb57 hx48
              refine WK_skip ?_
              cases hx48
              refine WK.sub ?_ (WK.cls (fun _ h => h) hk49)
              exact ⟨rfl, rfl, rfl, rfl, rfl, rfl, rfl, rfl, rfl, rfl, trivial⟩
        · have hm40 := ifF hb46 hm40
          refine WK_exit rfl ?_
          cases hm40
          refine WK.sub ?_ (WK.cls (fun _ h => h) (hk39 (l_5, (a29, _, c31, L28)) ⟨(hd44 _ rfl), hL28⟩))
          exact ⟨rfl, rfl, rfl, rfl, rfl, rfl, trivial⟩
    · have hm20 := ifF hb26 hm20
      refine WK_exit rfl ?_
      cases hm20
      refine WK.sub ?_ (WK.cls (fun _ h => h) (hk19 (l_2, (a9, _, c11, L8)) ⟨(hd24 _ rfl), hL8⟩))
      exact ⟨rfl, rfl, trivial⟩
theorem fiduciallaw44_CensusBest_walk {m : Mu} {p0_0 : Int} {p0_1 : Int} {p0_2 : Int} {p0_3 : List Int} {a_p0_3 : Option Addr} {q_p0_3 c_p0_3 : Nat} (h_p0_3 : SlR (FE (I1 .i64)) 1 m (.slice a_p0_3 q_p0_3 c_p0_3) p0_3) {r : Bool} (hm : fiduciallaw44_CensusBest p0_0 p0_1 p0_2 p0_3 = some r) :
    Go.E.Spec Try.prog 9 [.agg #[.int .i64 p0_0, .int .i64 p0_1, .int .i64 p0_2, .slice a_p0_3 q_p0_3 c_p0_3]] m (fun v _ _ => v = .bool r) := by
  refine Spec_enter Try.func9 rfl rfl rfl (fun w0 => ?_)
  refine WK.sub (e' := [(0, .agg #[.int .i64 p0_0, .int .i64 p0_1, .int .i64 p0_2, .slice a_p0_3 q_p0_3 c_p0_3])]) ⟨rfl, trivial⟩ ?_
  obtain rfl := SlR.qlen h_p0_3
  refine WK.sub (e' := [(0, .agg #[.int .i64 p0_0, .int .i64 p0_1, .int .i64 p0_2, .slice a_p0_3 p0_3.length c_p0_3])]) ⟨rfl, trivial⟩ ?_
  unfold fiduciallaw44_CensusBest at hm
  refine WK_seq ?_
  refine WK_region ?_
  refine WO_box [.int .i64 p0_0, .int .i64 p0_1, .int .i64 p0_2, .slice a_p0_3 p0_3.length c_p0_3] rfl rfl trivial rfl rfl rfl (fun b2 => ?_)
  refine WO.cls (C' := St w0 m m [[⟨b2, 39, [.int .i64 p0_0, .int .i64 p0_1, .int .i64 p0_2, .slice a_p0_3 p0_3.length c_p0_3]⟩]]) (fun _ h => h) ?_
  refine WO_pure tbok 1 [(1, .pointer (some ⟨b2, 0, none⟩)), (2, .bool false)] rfl ⟨rfl, rfl, trivial⟩ ?_
  refine WO_end ?_
  refine WK_seq ?_
  refine WK_seq ?_
  refine WK_region ?_
  obtain ⟨y_1, hc3, hm⟩ := bind_some hm
  refine WO_call0 (.bool y_1) rfl rfl trivial rfl rfl rfl rfl St_closed ⟨11, #[], #[], rfl, callable_11, fun w hw => ⟨_, hw.sat, fiduciallaw44_known_walk hc3⟩⟩ ?_
  refine WO_pure tbok 1 [(1, .pointer (some ⟨b2, 0, none⟩)), (2, .bool false), (8, .bool (!y_1))] rfl ⟨rfl, rfl, rfl, trivial⟩ ?_
  refine WO_end ?_
  refine WK_cond (b := !y_1) rfl (fun hb4 => ?_) (fun hb4 => ?_)
  · have hm := ifT hb4 hm
    refine WK_seq ?_
    refine WK_region ?_
    refine WO_pure tbok 1 [(1, .pointer (some ⟨b2, 0, none⟩)), (2, .bool false)] rfl ⟨rfl, rfl, trivial⟩ ?_
    refine WO_end ?_
    cases hm
    exact WK_ret (ret_out (L := []) (RLc_tmp rfl RLc_nil) (List.nil_sublist _) rfl)
  · have hm := ifF hb4 hm
    refine WK_skip ?_
    refine WK_seq ?_
    refine WK_seq ?_
    refine WK_region ?_
    refine WO_pure tbok 1 [(1, .pointer (some ⟨b2, 0, none⟩)), (2, .bool false), (9, .pointer (some ⟨b2, 3, none⟩))] rfl ⟨rfl, rfl, rfl, trivial⟩ ?_
    refine WO_loadB tbok 0 rfl rfl rfl rfl (fun _ h => h) rfl rfl ?_
    refine WO_pure tbok 2 [(1, .pointer (some ⟨b2, 0, none⟩)), (2, .bool false), (12, .bool (decide (600 < (p0_3.length : Int))))] rfl ⟨rfl, rfl, rfl, trivial⟩ ?_
    refine WO_end ?_
    refine WK_cond (b := decide (600 < (p0_3.length : Int))) rfl (fun hb5 => ?_) (fun hb5 => ?_)
    · have hm := ifT hb5 hm
      refine WK_seq ?_
      refine WK_region ?_
      refine WO_pure tbok 1 [(1, .pointer (some ⟨b2, 0, none⟩)), (2, .bool true)] rfl ⟨rfl, rfl, trivial⟩ ?_
      refine WO_end ?_
      cases hm
      exact WK_ret (ret_out (L := []) (RLc_tmp rfl RLc_nil) (List.nil_sublist _) rfl)
    · have hm := ifF hb5 hm
      refine WK_skip ?_
      refine WK_seq ?_
      refine WK_region ?_
      refine WO_loadB tbok 0 rfl rfl rfl rfl (fun _ h => h) rfl rfl ?_
      obtain ⟨⟨y_2, y_3⟩, hc6, hm⟩ := bind_some hm
      refine WO_call1 (census_Best_Q (y_2, y_3)) rfl rfl trivial rfl rfl rfl rfl ⟨27, #[], #[], rfl, callable_27, fun w hw => ⟨_, hw.sat, census_Best_walk h_p0_3 hc6⟩⟩ (fun v11 L10 hq => ?_)
      obtain ⟨a7, qa7, c8, rfl, hL10⟩ := hq
      obtain rfl := OwnE.qlen hL10
      refine WO.cls (C' := St w0 m m [[⟨b2, 39, [.int .i64 p0_0, .int .i64 p0_1, .int .i64 p0_2, .slice a_p0_3 p0_3.length c_p0_3]⟩], L10]) (fun _ h => h) ?_
      refine WO_pure tbok 5 [(1, .pointer (some ⟨b2, 0, none⟩)), (2, .bool false), (3, .slice a7 ((y_2).length) c8), (4, .int .i64 y_3)] rfl ⟨rfl, rfl, rfl, rfl, trivial⟩ ?_
      refine WO_end ?_
      refine WK_seq ?_
      refine WK_region ?_
      refine WO_loadB tbok 0 rfl rfl rfl rfl (fun _ h => h) rfl rfl ?_
      obtain ⟨⟨y_4, y_5, y_6, y_7, y_8⟩, hc12, hm⟩ := bind_some hm
      refine WO_call1 (census_Right_Q (y_4, y_5, y_6, y_7, y_8)) rfl rfl trivial rfl rfl rfl rfl ⟨28, #[], #[], rfl, callable_28, fun w hw => ⟨_, hw.sat, census_Right_walk h_p0_3 hc12⟩⟩ (fun v17 L16 hq => ?_)
      obtain ⟨a13, qa13, c14, rfl, hL16⟩ := hq
      obtain rfl := OwnE.qlen hL16
      refine WO.cls (C' := St w0 m m [[⟨b2, 39, [.int .i64 p0_0, .int .i64 p0_1, .int .i64 p0_2, .slice a_p0_3 p0_3.length c_p0_3]⟩], L10, L16]) (fun _ h => h) ?_
      refine WO_pure tbok 3 [(1, .pointer (some ⟨b2, 0, none⟩)), (2, .bool false), (3, .slice a7 ((y_2).length) c8), (4, .int .i64 y_3), (21, .agg #[.int .i64 y_4, .int .i64 y_5, .int .i64 y_6, .slice a13 ((y_7).length) c14]), (22, .int .i64 y_8)] rfl ⟨rfl, rfl, rfl, rfl, rfl, rfl, trivial⟩ ?_
      refine WO_alloc tbok [.int .i64 0, .int .i64 0, .int .i64 0, .slice none 0 0] rfl rfl trivial rfl rfl rfl rfl (fun b18 => ?_)
      refine WO.cls (C' := St w0 m m [[⟨b2, 39, [.int .i64 p0_0, .int .i64 p0_1, .int .i64 p0_2, .slice a_p0_3 p0_3.length c_p0_3]⟩], L10, L16, [⟨b18, 39, [.int .i64 0, .int .i64 0, .int .i64 0, .slice none 0 0]⟩]]) (fun _ h => h) ?_
      refine WO_storeB tbok 3 [.int .i64 y_4, .int .i64 y_5, .int .i64 y_6, .slice a13 ((y_7).length) c14] rfl rfl rfl rfl rfl rfl rfl ?_
      refine WO.cls (C' := St w0 m m [[⟨b2, 39, [.int .i64 p0_0, .int .i64 p0_1, .int .i64 p0_2, .slice a_p0_3 p0_3.length c_p0_3]⟩], L10, L16, [⟨b18, 39, [.int .i64 y_4, .int .i64 y_5, .int .i64 y_6, .slice a13 ((y_7).length) c14]⟩]]) (fun _ h => h) ?_
      refine WO_pure tbok 1 [(1, .pointer (some ⟨b2, 0, none⟩)), (2, .bool false), (3, .slice a7 ((y_2).length) c8), (4, .int .i64 y_3), (5, .pointer (some ⟨b18, 0, none⟩)), (6, .int .i64 y_8)] rfl ⟨rfl, rfl, rfl, rfl, rfl, rfl, trivial⟩ ?_
      refine WO_end ?_
      refine WK_seq ?_
      refine WK_seq ?_
      refine WK_region ?_
      refine WO_loadB tbok 0 rfl rfl rfl rfl (fun _ h => h) rfl rfl ?_
      obtain ⟨y_9, hc19, hm⟩ := bind_some hm
      refine WO_call0 (.bool y_9) rfl rfl trivial rfl rfl rfl rfl St_closed ⟨29, #[], #[], rfl, callable_29, fun w hw => ⟨_, hw.sat, fiduciallaw44_valid_walk h_p0_3 hc19⟩⟩ ?_
      refine WO_pure tbok 1 [(1, .pointer (some ⟨b2, 0, none⟩)), (2, .bool false), (3, .slice a7 ((y_2).length) c8), (4, .int .i64 y_3), (5, .pointer (some ⟨b18, 0, none⟩)), (6, .int .i64 y_8), (25, .bool (!y_9))] rfl ⟨rfl, rfl, rfl, rfl, rfl, rfl, rfl, trivial⟩ ?_
      refine WO_end ?_
      refine WK_cond (b := !y_9) rfl (fun hb20 => ?_) (fun hb20 => ?_)
      · have hm := ifT hb20 hm
        refine WK_seq ?_
        refine WK_region ?_
        refine WO_loadB tbok 0 rfl rfl rfl rfl (fun _ h => h) rfl rfl ?_
        obtain ⟨y_10, hc21, hm⟩ := bind_some hm
        refine WO_call0 (.int .i64 y_10) rfl rfl trivial rfl rfl rfl rfl St_closed ⟨21, #[], #[], rfl, callable_21, fun w hw => ⟨_, hw.sat, census_Check_walk h_p0_3 hc21⟩⟩ ?_
        refine WO_pure tbok 2 [(1, .pointer (some ⟨b2, 0, none⟩)), (2, .bool false), (3, .slice a7 ((y_2).length) c8), (4, .int .i64 y_3), (5, .pointer (some ⟨b18, 0, none⟩)), (6, .int .i64 y_8), (29, .bool (y_10 == 1))] rfl ⟨rfl, rfl, rfl, rfl, rfl, rfl, rfl, trivial⟩ ?_
        refine WO_split (d := 29) (b := y_10 == 1) rfl (fun hb22 => ?_) (fun hb22 => ?_)
        · have hm := ifT hb22 hm
          refine WO_pure tbok 4 [(1, .pointer (some ⟨b2, 0, none⟩)), (2, .bool false), (3, .slice a7 ((y_2).length) c8), (4, .int .i64 y_3), (5, .pointer (some ⟨b18, 0, none⟩)), (6, .int .i64 y_8), (33, .bool (y_3 == 1))] rfl ⟨rfl, rfl, rfl, rfl, rfl, rfl, rfl, trivial⟩ ?_
          refine WO_split (d := 33) (b := y_3 == 1) rfl (fun hb23 => ?_) (fun hb23 => ?_)
          · have hm := ifT hb23 hm
            refine WO_pure tbok 4 [(1, .pointer (some ⟨b2, 0, none⟩)), (2, .bool false), (3, .slice a7 ((y_2).length) c8), (4, .int .i64 y_3), (5, .pointer (some ⟨b18, 0, none⟩)), (6, .int .i64 y_8), (37, .bool (y_8 == 1))] rfl ⟨rfl, rfl, rfl, rfl, rfl, rfl, rfl, trivial⟩ ?_
            refine WO_split (d := 37) (b := y_8 == 1) rfl (fun hb24 => ?_) (fun hb24 => ?_)
            · have hm := ifT hb24 hm
              refine WO_pure tbok 5 [(1, .pointer (some ⟨b2, 0, none⟩)), (2, .bool false), (3, .slice a7 ((y_2).length) c8), (4, .int .i64 y_3), (5, .pointer (some ⟨b18, 0, none⟩)), (6, .int .i64 y_8), (42, .bool (((y_2).length : Int) == 0))] rfl ⟨rfl, rfl, rfl, rfl, rfl, rfl, rfl, trivial⟩ ?_
              refine WO_split (d := 42) (b := ((y_2).length : Int) == 0) rfl (fun hb25 => ?_) (fun hb25 => ?_)
              · have hm := ifT hb25 hm
                refine WO_loadB tbok 3 rfl rfl rfl rfl (fun _ h => h) rfl rfl ?_
                refine WO_pure tbok 1 [(1, .pointer (some ⟨b2, 0, none⟩)), (2, .bool false), (3, .slice a7 ((y_2).length) c8), (4, .int .i64 y_3), (5, .pointer (some ⟨b18, 0, none⟩)), (6, .int .i64 y_8), (42, .bool true), (43, .agg #[.int .i64 y_4, .int .i64 y_5, .int .i64 y_6, .slice a13 ((y_7).length) c14]), (44, .agg #[.int .i64 0, .int .i64 0, .int .i64 0, .slice none 0 0])] rfl ⟨rfl, rfl, rfl, rfl, rfl, rfl, rfl, rfl, rfl, trivial⟩ ?_
                obtain ⟨y_11, hc26, hm⟩ := bind_some hm
                refine WO_call0 (.bool y_11) rfl rfl trivial rfl rfl rfl rfl St_closed ⟨20, #[], #[], rfl, callable_20, fun w hw => ⟨_, hw.satV, fiduciallaw44_same_walk (OwnE.rd (E := (I1 .i64)) (k := 1) (fun _ => rfl) hL16 (fun _ hx => hw.memV (i := 2) rfl hx)) SlR_nil hc26⟩⟩ ?_
                refine WO_pure tbok 2 [(1, .pointer (some ⟨b2, 0, none⟩)), (2, .bool y_11), (3, .slice a7 ((y_2).length) c8), (4, .int .i64 y_3), (5, .pointer (some ⟨b18, 0, none⟩)), (6, .int .i64 y_8)] rfl ⟨rfl, rfl, rfl, rfl, rfl, rfl, trivial⟩ ?_
                refine WO_end ?_
                cases hm
                exact WK_ret (ret_out (L := []) (RLc_tmp rfl RLc_nil) (List.nil_sublist _) rfl)
              · have hm := ifF hb25 hm
                refine WO_pure tbok 2 [(1, .pointer (some ⟨b2, 0, none⟩)), (2, .bool false), (3, .slice a7 ((y_2).length) c8), (4, .int .i64 y_3), (5, .pointer (some ⟨b18, 0, none⟩)), (6, .int .i64 y_8), (42, .bool false)] rfl ⟨rfl, rfl, rfl, rfl, rfl, rfl, rfl, trivial⟩ ?_
                refine WO_skip rfl rfl ?_
                refine WO_pure tbok 2 [(1, .pointer (some ⟨b2, 0, none⟩)), (2, .bool false), (3, .slice a7 ((y_2).length) c8), (4, .int .i64 y_3), (5, .pointer (some ⟨b18, 0, none⟩)), (6, .int .i64 y_8)] rfl ⟨rfl, rfl, rfl, rfl, rfl, rfl, trivial⟩ ?_
                refine WO_end ?_
                cases hm
                exact WK_ret (ret_out (L := []) (RLc_tmp rfl RLc_nil) (List.nil_sublist _) rfl)
            · have hm := ifF hb24 hm
              refine WO_pure tbok 7 [(1, .pointer (some ⟨b2, 0, none⟩)), (2, .bool false), (3, .slice a7 ((y_2).length) c8), (4, .int .i64 y_3), (5, .pointer (some ⟨b18, 0, none⟩)), (6, .int .i64 y_8), (42, .bool false)] rfl ⟨rfl, rfl, rfl, rfl, rfl, rfl, rfl, trivial⟩ ?_
              refine WO_skip rfl rfl ?_
              refine WO_pure tbok 2 [(1, .pointer (some ⟨b2, 0, none⟩)), (2, .bool false), (3, .slice a7 ((y_2).length) c8), (4, .int .i64 y_3), (5, .pointer (some ⟨b18, 0, none⟩)), (6, .int .i64 y_8)] rfl ⟨rfl, rfl, rfl, rfl, rfl, rfl, trivial⟩ ?_
              refine WO_end ?_
              cases hm
              exact WK_ret (ret_out (L := []) (RLc_tmp rfl RLc_nil) (List.nil_sublist _) rfl)
          · have hm := ifF hb23 hm
            refine WO_pure tbok 11 [(1, .pointer (some ⟨b2, 0, none⟩)), (2, .bool false), (3, .slice a7 ((y_2).length) c8), (4, .int .i64 y_3), (5, .pointer (some ⟨b18, 0, none⟩)), (6, .int .i64 y_8), (42, .bool false)] rfl ⟨rfl, rfl, rfl, rfl, rfl, rfl, rfl, trivial⟩ ?_
            refine WO_skip rfl rfl ?_
            refine WO_pure tbok 2 [(1, .pointer (some ⟨b2, 0, none⟩)), (2, .bool false), (3, .slice a7 ((y_2).length) c8), (4, .int .i64 y_3), (5, .pointer (some ⟨b18, 0, none⟩)), (6, .int .i64 y_8)] rfl ⟨rfl, rfl, rfl, rfl, rfl, rfl, trivial⟩ ?_
            refine WO_end ?_
            cases hm
            exact WK_ret (ret_out (L := []) (RLc_tmp rfl RLc_nil) (List.nil_sublist _) rfl)
        · have hm := ifF hb22 hm
          refine WO_pure tbok 15 [(1, .pointer (some ⟨b2, 0, none⟩)), (2, .bool false), (3, .slice a7 ((y_2).length) c8), (4, .int .i64 y_3), (5, .pointer (some ⟨b18, 0, none⟩)), (6, .int .i64 y_8), (42, .bool false)] rfl ⟨rfl, rfl, rfl, rfl, rfl, rfl, rfl, trivial⟩ ?_
          refine WO_skip rfl rfl ?_
          refine WO_pure tbok 2 [(1, .pointer (some ⟨b2, 0, none⟩)), (2, .bool false), (3, .slice a7 ((y_2).length) c8), (4, .int .i64 y_3), (5, .pointer (some ⟨b18, 0, none⟩)), (6, .int .i64 y_8)] rfl ⟨rfl, rfl, rfl, rfl, rfl, rfl, trivial⟩ ?_
          refine WO_end ?_
          cases hm
          exact WK_ret (ret_out (L := []) (RLc_tmp rfl RLc_nil) (List.nil_sublist _) rfl)
      · have hm := ifF hb20 hm
        refine WK_skip ?_
        refine WK_seq ?_
        refine WK_draw 24 [0, 1, 2, 3, 4, 5, 6, 7, 8, 9, 10, 11, 12, 13, 14, 15, 16, 17, 18, 19, 20, 21, 22, 23] follows_ok (by kernel_rfl) St_closed ?_
        refine WO_loadB tbok 0 rfl rfl rfl rfl (fun _ h => h) rfl rfl ?_
        obtain ⟨y_12, hc27, hm⟩ := bind_some hm
        refine WO_call0 (.int .i64 y_12) rfl rfl St_closed rfl rfl rfl rfl St_closed ⟨21, #[], #[], rfl, callable_21, fun w hw => ⟨_, hw.sat, census_Check_walk h_p0_3 hc27⟩⟩ ?_
        refine WO_pure tbok 2 [(1, .pointer (some ⟨b2, 0, none⟩)), (2, .bool false), (3, .slice a7 ((y_2).length) c8), (4, .int .i64 y_3), (5, .pointer (some ⟨b18, 0, none⟩)), (6, .int .i64 y_8), (50, .bool (y_12 == 0))] rfl ⟨rfl, rfl, rfl, rfl, rfl, rfl, rfl, trivial⟩ ?_
        refine WO_split (d := 50) (b := y_12 == 0) rfl (fun hb28 => ?_) (fun hb28 => ?_)
        · have hm := ifT hb28 hm
          refine WO_pure tbok 4 [(1, .pointer (some ⟨b2, 0, none⟩)), (2, .bool false), (3, .slice a7 ((y_2).length) c8), (5, .pointer (some ⟨b18, 0, none⟩)), (6, .int .i64 y_8), (54, .bool (y_3 == 0))] rfl ⟨rfl, rfl, rfl, rfl, rfl, rfl, trivial⟩ ?_
          refine WO_split (d := 54) (b := y_3 == 0) rfl (fun hb29 => ?_) (fun hb29 => ?_)
          · have hm := ifT hb29 hm
            refine WO_pure tbok 4 [(1, .pointer (some ⟨b2, 0, none⟩)), (2, .bool false), (3, .slice a7 ((y_2).length) c8), (5, .pointer (some ⟨b18, 0, none⟩)), (58, .bool (y_8 == 0))] rfl ⟨rfl, rfl, rfl, rfl, rfl, trivial⟩ ?_
            refine WO_split (d := 58) (b := y_8 == 0) rfl (fun hb30 => ?_) (fun hb30 => ?_)
            · have hm := ifT hb30 hm
              refine WO_pure tbok 1 [(1, .pointer (some ⟨b2, 0, none⟩)), (2, .bool false), (5, .pointer (some ⟨b18, 0, none⟩)), (58, .bool true), (59, .slice a7 ((y_2).length) c8)] rfl ⟨rfl, rfl, rfl, rfl, rfl, trivial⟩ ?_
              refine WO_loadB tbok 0 rfl rfl rfl rfl (fun _ h => h) rfl rfl ?_
              obtain ⟨y_13, hc31, hm⟩ := bind_some hm
              refine WO_call1 (fiduciallaw44_best_Q y_13) rfl rfl St_closed rfl rfl rfl rfl ⟨30, #[], #[], rfl, callable_30, fun w hw => ⟨_, hw.sat, fiduciallaw44_best_walk h_p0_3 hc31⟩⟩ (fun v36 L35 hq => ?_)
              obtain ⟨a32, qa32, c33, rfl, hL35⟩ := hq
              obtain rfl := OwnE.qlen hL35
              refine WO.cls (C' := St w0 m m [[⟨b2, 39, [.int .i64 p0_0, .int .i64 p0_1, .int .i64 p0_2, .slice a_p0_3 p0_3.length c_p0_3]⟩], L10, L16, [⟨b18, 39, [.int .i64 y_4, .int .i64 y_5, .int .i64 y_6, .slice a13 ((y_7).length) c14]⟩], L35]) (fun _ h => h) ?_
              obtain ⟨y_14, hc37, hm⟩ := bind_some hm
              refine WO_call0 (.bool y_14) rfl rfl St_closed rfl rfl rfl rfl St_closed ⟨15, #[], #[], rfl, callable_15, fun w hw => ⟨_, hw.satV, slices_Equal_sint_walk (OwnE.rd (E := (I1 .i64)) (k := 1) (fun _ => rfl) hL10 (fun _ hx => hw.memV (i := 1) rfl hx)) (OwnE.rd (E := (I1 .i64)) (k := 1) (fun _ => rfl) hL35 (fun _ hx => hw.memV (i := 4) rfl hx)) hc37⟩⟩ ?_
              refine WO_pure tbok 2 [(1, .pointer (some ⟨b2, 0, none⟩)), (2, .bool false), (5, .pointer (some ⟨b18, 0, none⟩)), (64, .bool y_14)] rfl ⟨rfl, rfl, rfl, rfl, trivial⟩ ?_
              refine WO_split (d := 64) (b := y_14) rfl (fun hb38 => ?_) (fun hb38 => ?_)
              · have hm := ifT hb38 hm
                refine WO_loadB tbok 3 rfl rfl rfl rfl (fun _ h => h) rfl rfl ?_
                refine WO_loadB tbok 0 rfl rfl rfl rfl (fun _ h => h) rfl rfl ?_
                obtain ⟨⟨y_15, y_16, y_17, y_18⟩, hc39, hm⟩ := bind_some hm
                refine WO_call1 (fiduciallaw44_mirrored_Q (y_15, y_16, y_17, y_18)) rfl rfl St_closed rfl rfl rfl rfl ⟨31, #[], #[], rfl, callable_31, fun w hw => ⟨_, hw.sat, fiduciallaw44_mirrored_walk h_p0_3 hc39⟩⟩ (fun v44 L43 hq => ?_)
                obtain ⟨a40, qa40, c41, rfl, hL43⟩ := hq
                obtain rfl := OwnE.qlen hL43
                refine WO.cls (C' := St w0 m m [[⟨b2, 39, [.int .i64 p0_0, .int .i64 p0_1, .int .i64 p0_2, .slice a_p0_3 p0_3.length c_p0_3]⟩], L10, L16, [⟨b18, 39, [.int .i64 y_4, .int .i64 y_5, .int .i64 y_6, .slice a13 ((y_7).length) c14]⟩], L35, L43]) (fun _ h => h) ?_
                obtain ⟨y_19, hc45, hm⟩ := bind_some hm
                refine WO_call0 (.bool y_19) rfl rfl St_closed rfl rfl rfl rfl St_closed ⟨20, #[], #[], rfl, callable_20, fun w hw => ⟨_, hw.satV, fiduciallaw44_same_walk (OwnE.rd (E := (I1 .i64)) (k := 1) (fun _ => rfl) hL16 (fun _ hx => hw.memV (i := 2) rfl hx)) (OwnE.rd (E := (I1 .i64)) (k := 1) (fun _ => rfl) hL43 (fun _ hx => hw.memV (i := 5) rfl hx)) hc45⟩⟩ ?_
                refine WO_pure tbok 2 [(2, .bool y_19)] rfl ⟨rfl, trivial⟩ ?_
                refine WO_tail ?_
                refine WO_end ?_
                cases hm
                exact WK_ret (ret_out (L := []) (RLc_tmp rfl RLc_nil) (List.nil_sublist _) rfl)
              · have hm := ifF hb38 hm
                refine WO_pure tbok 2 [(2, .bool false), (64, .bool false)] rfl ⟨rfl, rfl, trivial⟩ ?_
                refine WO_skip rfl rfl ?_
                refine WO_skip rfl rfl ?_
                refine WO_pure tbok 2 [(2, .bool false)] rfl ⟨rfl, trivial⟩ ?_
                refine WO_tail ?_
                refine WO_end ?_
                cases hm
                exact WK_ret (ret_out (L := []) (RLc_tmp rfl RLc_nil) (List.nil_sublist _) rfl)
            · have hm := ifF hb30 hm
              refine WO_pure tbok 2 [(1, .pointer (some ⟨b2, 0, none⟩)), (2, .bool false), (5, .pointer (some ⟨b18, 0, none⟩)), (58, .bool false)] rfl ⟨rfl, rfl, rfl, rfl, trivial⟩ ?_
              refine WO_skip rfl rfl ?_
              refine WO_skip rfl rfl ?_
              refine WO_pure tbok 4 [(2, .bool false), (64, .bool false)] rfl ⟨rfl, rfl, trivial⟩ ?_
              refine WO_skip rfl rfl ?_
              refine WO_skip rfl rfl ?_
              refine WO_pure tbok 2 [(2, .bool false)] rfl ⟨rfl, trivial⟩ ?_
              refine WO_tail ?_
              refine WO_end ?_
              cases hm
              exact WK_ret (ret_out (L := []) (RLc_tmp rfl RLc_nil) (List.nil_sublist _) rfl)
          · have hm := ifF hb29 hm
            refine WO_pure tbok 6 [(1, .pointer (some ⟨b2, 0, none⟩)), (2, .bool false), (5, .pointer (some ⟨b18, 0, none⟩)), (58, .bool false)] rfl ⟨rfl, rfl, rfl, rfl, trivial⟩ ?_
            refine WO_skip rfl rfl ?_
            refine WO_skip rfl rfl ?_
            refine WO_pure tbok 4 [(2, .bool false), (64, .bool false)] rfl ⟨rfl, rfl, trivial⟩ ?_
            refine WO_skip rfl rfl ?_
            refine WO_skip rfl rfl ?_
            refine WO_pure tbok 2 [(2, .bool false)] rfl ⟨rfl, trivial⟩ ?_
            refine WO_tail ?_
            refine WO_end ?_
            cases hm
            exact WK_ret (ret_out (L := []) (RLc_tmp rfl RLc_nil) (List.nil_sublist _) rfl)
        · have hm := ifF hb28 hm
          refine WO_pure tbok 10 [(1, .pointer (some ⟨b2, 0, none⟩)), (2, .bool false), (5, .pointer (some ⟨b18, 0, none⟩)), (58, .bool false)] rfl ⟨rfl, rfl, rfl, rfl, trivial⟩ ?_
          refine WO_skip rfl rfl ?_
          refine WO_skip rfl rfl ?_
          refine WO_pure tbok 4 [(2, .bool false), (64, .bool false)] rfl ⟨rfl, rfl, trivial⟩ ?_
          refine WO_skip rfl rfl ?_
          refine WO_skip rfl rfl ?_
          refine WO_pure tbok 2 [(2, .bool false)] rfl ⟨rfl, trivial⟩ ?_
          refine WO_tail ?_
          refine WO_end ?_
          cases hm
          exact WK_ret (ret_out (L := []) (RLc_tmp rfl RLc_nil) (List.nil_sublist _) rfl)
def fiduciallaw44_CensusTwice_c1_Q (r : Int × Int × Int × List Int) : Value → List Ent → Prop := fun v L => ∃ (a0 : Option Addr) (q0 c0 : Nat), v = .agg #[.int .i64 r.1, .int .i64 r.2.1, .int .i64 r.2.2.1, .slice a0 q0 c0] ∧ OwnE 3 1 (I1 .i64) (.slice a0 q0 c0) r.2.2.2 L
theorem fiduciallaw44_CensusTwice_c1_walk {m : Mu} {p0_0 : Int} {p0_1 : Int} {p0_2 : Int} {p0_3 : List Int} {a_p0_3 : Option Addr} {q_p0_3 c_p0_3 : Nat} (h_p0_3 : SlR (FE (I1 .i64)) 1 m (.slice a_p0_3 q_p0_3 c_p0_3) p0_3) {r : Int × Int × Int × List Int} (hm : fiduciallaw44_CensusTwice_c1 p0_0 p0_1 p0_2 p0_3 = some r) :
    Go.E.Spec Try.prog 32 [.agg #[.int .i64 p0_0, .int .i64 p0_1, .int .i64 p0_2, .slice a_p0_3 q_p0_3 c_p0_3]] m (fun v _ L => fiduciallaw44_CensusTwice_c1_Q r v L) := by
  refine Spec_enter Try.func32 rfl rfl rfl (fun w0 => ?_)
  refine WK.sub (e' := [(0, .agg #[.int .i64 p0_0, .int .i64 p0_1, .int .i64 p0_2, .slice a_p0_3 q_p0_3 c_p0_3])]) ⟨rfl, trivial⟩ ?_
  obtain rfl := SlR.qlen h_p0_3
  refine WK.sub (e' := [(0, .agg #[.int .i64 p0_0, .int .i64 p0_1, .int .i64 p0_2, .slice a_p0_3 p0_3.length c_p0_3])]) ⟨rfl, trivial⟩ ?_
  unfold fiduciallaw44_CensusTwice_c1 at hm
  refine WK_seq ?_
  refine WK_region ?_
  refine WO_box [.int .i64 p0_0, .int .i64 p0_1, .int .i64 p0_2, .slice a_p0_3 p0_3.length c_p0_3] rfl rfl trivial rfl rfl rfl (fun b2 => ?_)
  refine WO.cls (C' := St w0 m m [[⟨b2, 39, [.int .i64 p0_0, .int .i64 p0_1, .int .i64 p0_2, .slice a_p0_3 p0_3.length c_p0_3]⟩]]) (fun _ h => h) ?_
  refine WO_alloc tbok [.int .i64 0, .int .i64 0, .int .i64 0, .slice none 0 0] rfl rfl trivial rfl rfl rfl rfl (fun b3 => ?_)
  refine WO.cls (C' := St w0 m m [[⟨b2, 39, [.int .i64 p0_0, .int .i64 p0_1, .int .i64 p0_2, .slice a_p0_3 p0_3.length c_p0_3]⟩], [⟨b3, 39, [.int .i64 0, .int .i64 0, .int .i64 0, .slice none 0 0]⟩]]) (fun _ h => h) ?_
  refine WO_end ?_
  refine WK_seq ?_
  refine WK_region ?_
  refine WO_pure tbok 1 [(1, .pointer (some ⟨b2, 0, none⟩)), (2, .pointer (some ⟨b3, 0, none⟩)), (6, .pointer (some ⟨b2, 0, none⟩))] rfl ⟨rfl, rfl, rfl, trivial⟩ ?_
  refine WO_loadB tbok 0 rfl rfl rfl rfl (fun _ h => h) rfl rfl ?_
  refine WO_pure tbok 1 [(1, .pointer (some ⟨b2, 0, none⟩)), (2, .pointer (some ⟨b3, 0, none⟩)), (7, .int .i64 p0_0), (8, .pointer (some ⟨b2, 1, none⟩))] rfl ⟨rfl, rfl, rfl, rfl, trivial⟩ ?_
  refine WO_loadB tbok 0 rfl rfl rfl rfl (fun _ h => h) rfl rfl ?_
  refine WO_pure tbok 1 [(1, .pointer (some ⟨b2, 0, none⟩)), (2, .pointer (some ⟨b3, 0, none⟩)), (7, .int .i64 p0_0), (9, .int .i64 p0_1), (10, .pointer (some ⟨b2, 2, none⟩))] rfl ⟨rfl, rfl, rfl, rfl, rfl, trivial⟩ ?_
  refine WO_loadB tbok 0 rfl rfl rfl rfl (fun _ h => h) rfl rfl ?_
  refine WO_pure tbok 1 [(1, .pointer (some ⟨b2, 0, none⟩)), (2, .pointer (some ⟨b3, 0, none⟩)), (12, .agg #[.int .i64 p0_0, .int .i64 p0_1, .int .i64 p0_2, .slice none 0 0])] rfl ⟨rfl, rfl, rfl, trivial⟩ ?_
  refine WO_alloc tbok [.int .i64 0, .int .i64 0, .int .i64 0, .slice none 0 0] rfl rfl trivial rfl rfl rfl rfl (fun b4 => ?_)
  refine WO.cls (C' := St w0 m m [[⟨b2, 39, [.int .i64 p0_0, .int .i64 p0_1, .int .i64 p0_2, .slice a_p0_3 p0_3.length c_p0_3]⟩], [⟨b3, 39, [.int .i64 0, .int .i64 0, .int .i64 0, .slice none 0 0]⟩], [⟨b4, 39, [.int .i64 0, .int .i64 0, .int .i64 0, .slice none 0 0]⟩]]) (fun _ h => h) ?_
  refine WO_storeB tbok 2 [.int .i64 p0_0, .int .i64 p0_1, .int .i64 p0_2, .slice none 0 0] rfl rfl rfl rfl rfl rfl rfl ?_
  refine WO.cls (C' := St w0 m m [[⟨b2, 39, [.int .i64 p0_0, .int .i64 p0_1, .int .i64 p0_2, .slice a_p0_3 p0_3.length c_p0_3]⟩], [⟨b3, 39, [.int .i64 0, .int .i64 0, .int .i64 0, .slice none 0 0]⟩], [⟨b4, 39, [.int .i64 p0_0, .int .i64 p0_1, .int .i64 p0_2, .slice none 0 0]⟩]]) (fun _ h => h) ?_
  refine WO_end ?_
  refine WK_seq ?_
  refine WK_seq ?_
  refine WK_region ?_
  refine WO_pure tbok 1 [(1, .pointer (some ⟨b2, 0, none⟩)), (2, .pointer (some ⟨b3, 0, none⟩)), (3, .pointer (some ⟨b4, 0, none⟩)), (13, .pointer (some ⟨b2, 0, none⟩))] rfl ⟨rfl, rfl, rfl, rfl, trivial⟩ ?_
  refine WO_loadB tbok 0 rfl rfl rfl rfl (fun _ h => h) rfl rfl ?_
  refine WO_pure tbok 1 [(1, .pointer (some ⟨b2, 0, none⟩)), (2, .pointer (some ⟨b3, 0, none⟩)), (3, .pointer (some ⟨b4, 0, none⟩)), (14, .int .i64 p0_0), (15, .pointer (some ⟨b2, 1, none⟩))] rfl ⟨rfl, rfl, rfl, rfl, rfl, trivial⟩ ?_
  refine WO_loadB tbok 0 rfl rfl rfl rfl (fun _ h => h) rfl rfl ?_
  refine WO_pure tbok 2 [(1, .pointer (some ⟨b2, 0, none⟩)), (2, .pointer (some ⟨b3, 0, none⟩)), (3, .pointer (some ⟨b4, 0, none⟩)), (17, .int .i64 (w64 (p0_0 * p0_1))), (18, .int .i64 0)] rfl ⟨rfl, rfl, rfl, rfl, rfl, trivial⟩ ?_
  refine WO_end ?_
  refine WK_pad ?_
  obtain ⟨x16, hx17, hm⟩ := bind_some hm
  refine WK_join (β := (List Int) × (Option Addr × Nat × Nat × List Ent)) (fun p => p.1 = x16 ∧ OwnE 3 1 (I1 .i64) (.slice p.2.1 p.2.2.1 p.2.2.2.1) p.1 p.2.2.2.2) (fun p => [(2, .pointer (some ⟨b3, 0, none⟩)), (3, .pointer (some ⟨b4, 0, none⟩))]) (fun p => St w0 m m [[⟨b2, 39, [.int .i64 p0_0, .int .i64 p0_1, .int .i64 p0_2, .slice a_p0_3 p0_3.length c_p0_3]⟩], [⟨b3, 39, [.int .i64 0, .int .i64 0, .int .i64 0, .slice none 0 0]⟩], [⟨b4, 39, [.int .i64 p0_0, .int .i64 p0_1, .int .i64 p0_2, .slice p.2.1 p.2.2.1 p.2.2.2.1]⟩], p.2.2.2.2]) ?_ (fun hk18 => ?_)
  · rintro ⟨l_3, ⟨a13, q14, c15, L12⟩⟩ ⟨hq24, hL12⟩
    subst hq24
    have hqq : q14 = l_3.length := OwnE.qlen hL12
    subst hqq
    refine WK.sub (e' := [(2, .pointer (some ⟨b3, 0, none⟩)), (3, .pointer (some ⟨b4, 0, none⟩))]) ⟨rfl, rfl, trivial⟩ (WK.cls (C' := St w0 m m [[⟨b2, 39, [.int .i64 p0_0, .int .i64 p0_1, .int .i64 p0_2, .slice a_p0_3 p0_3.length c_p0_3]⟩], [⟨b3, 39, [.int .i64 0, .int .i64 0, .int .i64 0, .slice none 0 0]⟩], [⟨b4, 39, [.int .i64 p0_0, .int .i64 p0_1, .int .i64 p0_2, .slice a13 ((l_3).length) c15]⟩], L12]) (fun _ h => h) ?_)
    refine WK_seq ?_
    refine WK_region ?_
    refine WO_loadB tbok 2 rfl rfl rfl rfl (fun _ h => h) rfl rfl ?_
    refine WO_storeB tbok 1 [.int .i64 p0_0, .int .i64 p0_1, .int .i64 p0_2, .slice a13 ((l_3).length) c15] rfl rfl rfl rfl rfl rfl rfl ?_
    refine WO.cls (C' := St w0 m m [[⟨b2, 39, [.int .i64 p0_0, .int .i64 p0_1, .int .i64 p0_2, .slice a_p0_3 p0_3.length c_p0_3]⟩], [⟨b3, 39, [.int .i64 p0_0, .int .i64 p0_1, .int .i64 p0_2, .slice a13 ((l_3).length) c15]⟩], [⟨b4, 39, [.int .i64 p0_0, .int .i64 p0_1, .int .i64 p0_2, .slice a13 ((l_3).length) c15]⟩], L12]) (fun _ h => h) ?_
    refine WO_end ?_
    cases hm
    exact WK_ret (ret_out (L := L12) (RLc_cell tbok 1 rfl rfl rfl RLc_nil) (seg_sub 3 rfl) ⟨a13, _, c15, rfl, hL12⟩)
  · refine WK_block ?_
    refine WK_loop (S := List Int × Int) (G := Option Addr × Nat × Nat × List Ent) (fun s => fiduciallaw44_CensusTwice_c1_s1 p0_0 p0_1 p0_2 p0_3 s.1 s.2) (fun s g => [(1, .pointer (some ⟨b2, 0, none⟩)), (2, .pointer (some ⟨b3, 0, none⟩)), (3, .pointer (some ⟨b4, 0, none⟩)), (17, .int .i64 (w64 (p0_0 * p0_1))), (18, .int .i64 s.2)]) (fun s g => St w0 m m [[⟨b2, 39, [.int .i64 p0_0, .int .i64 p0_1, .int .i64 p0_2, .slice a_p0_3 p0_3.length c_p0_3]⟩], [⟨b3, 39, [.int .i64 0, .int .i64 0, .int .i64 0, .slice none 0 0]⟩], [⟨b4, 39, [.int .i64 p0_0, .int .i64 p0_1, .int .i64 p0_2, .slice g.1 g.2.1 g.2.2.1]⟩], g.2.2.2]) (fun s g => OwnE 3 1 (I1 .i64) (.slice g.1 g.2.1 g.2.2.1) s.1 g.2.2.2) FUEL (([] : List Int), 0) (none, 0, 0, []) x16 hx17 (OwnE.nil (T := 3) (k := 1) (E := (I1 .i64)) none) ⟨rfl, rfl, rfl, rfl, rfl, trivial⟩ (fun _ h => h) ?_
    rintro ⟨l_1, s_2⟩ ⟨a8, q9, c10, L7⟩ o20 fl21 hm19 hL7 hn22 hd23
    have hm19 : fiduciallaw44_CensusTwice_c1_s1 p0_0 p0_1 p0_2 p0_3 l_1 s_2 = some o20 := hm19
    unfold fiduciallaw44_CensusTwice_c1_s1 at hm19
    have hqq : q9 = l_1.length := OwnE.qlen hL7
    subst hqq
    refine WK.sub (e' := [(1, .pointer (some ⟨b2, 0, none⟩)), (2, .pointer (some ⟨b3, 0, none⟩)), (3, .pointer (some ⟨b4, 0, none⟩)), (17, .int .i64 (w64 (p0_0 * p0_1))), (18, .int .i64 s_2)]) ⟨rfl, rfl, rfl, rfl, rfl, trivial⟩ (WK.cls (C' := St w0 m m [[⟨b2, 39, [.int .i64 p0_0, .int .i64 p0_1, .int .i64 p0_2, .slice a_p0_3 p0_3.length c_p0_3]⟩], [⟨b3, 39, [.int .i64 0, .int .i64 0, .int .i64 0, .slice none 0 0]⟩], [⟨b4, 39, [.int .i64 p0_0, .int .i64 p0_1, .int .i64 p0_2, .slice a8 ((l_1).length) c10]⟩], L7]) (fun _ h => h) ?_)
    refine WK_seq ?_
    refine WK_region ?_
    refine WO_pure tbok 1 [(1, .pointer (some ⟨b2, 0, none⟩)), (2, .pointer (some ⟨b3, 0, none⟩)), (3, .pointer (some ⟨b4, 0, none⟩)), (17, .int .i64 (w64 (p0_0 * p0_1))), (18, .int .i64 s_2), (19, .bool (decide (s_2 < (w64 (p0_0 * p0_1)))))] rfl ⟨rfl, rfl, rfl, rfl, rfl, rfl, trivial⟩ ?_
    refine WO_end ?_
    refine WK_seq ?_
    refine WK_cond (b := decide (s_2 < (w64 (p0_0 * p0_1)))) rfl (fun hb25 => ?_) (fun hb25 => ?_)
    · have hm19 := ifT hb25 hm19
      refine WK_skip ?_
      refine WK_seq ?_
      refine WK_block ?_
      refine WK_seq ?_
      refine WK_region ?_
      refine WO_pure tbok 2 [(1, .pointer (some ⟨b2, 0, none⟩)), (2, .pointer (some ⟨b3, 0, none⟩)), (3, .pointer (some ⟨b4, 0, none⟩)), (4, .int .i64 s_2), (17, .int .i64 (w64 (p0_0 * p0_1))), (18, .int .i64 s_2)] rfl ⟨rfl, rfl, rfl, rfl, rfl, rfl, trivial⟩ ?_
      refine WO_end ?_
      refine WK_seq ?_
      refine WK_draw 16 [0, 1, 2, 3, 4, 5, 6, 7, 8, 9, 10, 11, 12, 13, 14, 15] follows_ok (by kernel_rfl) St_closed ?_
      refine WO_pure tbok 3 [(1, .pointer (some ⟨b2, 0, none⟩)), (2, .pointer (some ⟨b3, 0, none⟩)), (3, .pointer (some ⟨b4, 0, none⟩)), (4, .int .i64 s_2), (17, .int .i64 (w64 (p0_0 * p0_1))), (18, .int .i64 s_2), (21, .int .i64 s_2), (22, .int .i64 s_2), (23, .pointer (some ⟨b2, 0, none⟩))] rfl ⟨rfl, rfl, rfl, rfl, rfl, rfl, rfl, rfl, rfl, trivial⟩ ?_
      refine WO_loadB tbok 0 rfl rfl rfl rfl (fun _ h => h) rfl rfl ?_
      obtain ⟨hc26, hm19⟩ := chk_some hm19
      refine WO_rem rfl rfl rfl rfl rfl hc26 ?_
      refine WO_pure tbok 2 [(1, .pointer (some ⟨b2, 0, none⟩)), (2, .pointer (some ⟨b3, 0, none⟩)), (3, .pointer (some ⟨b4, 0, none⟩)), (4, .int .i64 s_2), (17, .int .i64 (w64 (p0_0 * p0_1))), (18, .int .i64 s_2), (26, .int .i64 (w64 (s_2 - (Int.tmod s_2 p0_0)))), (27, .pointer (some ⟨b2, 0, none⟩))] rfl ⟨rfl, rfl, rfl, rfl, rfl, rfl, rfl, rfl, trivial⟩ ?_
      refine WO_loadB tbok 0 rfl rfl rfl rfl (fun _ h => h) rfl rfl ?_
      refine WO_pure tbok 4 [(1, .pointer (some ⟨b2, 0, none⟩)), (2, .pointer (some ⟨b3, 0, none⟩)), (3, .pointer (some ⟨b4, 0, none⟩)), (17, .int .i64 (w64 (p0_0 * p0_1))), (18, .int .i64 s_2), (30, .int .i64 (w64 ((w64 ((w64 (s_2 - (Int.tmod s_2 p0_0))) + p0_0)) - 1))), (31, .int .i64 s_2), (32, .pointer (some ⟨b2, 0, none⟩))] rfl ⟨rfl, rfl, rfl, rfl, rfl, rfl, rfl, rfl, trivial⟩ ?_
      refine WO_loadB tbok 0 rfl rfl rfl rfl (fun _ h => h) rfl rfl ?_
      obtain ⟨hc27, hm19⟩ := chk_some hm19
      refine WO_rem rfl rfl rfl rfl rfl hc27 ?_
      refine WO_pure tbok 2 [(1, .pointer (some ⟨b2, 0, none⟩)), (2, .pointer (some ⟨b3, 0, none⟩)), (3, .pointer (some ⟨b4, 0, none⟩)), (5, .int .i64 (w64 ((w64 ((w64 ((w64 (s_2 - (Int.tmod s_2 p0_0))) + p0_0)) - 1)) - (Int.tmod s_2 p0_0)))), (17, .int .i64 (w64 (p0_0 * p0_1))), (18, .int .i64 s_2)] rfl ⟨rfl, rfl, rfl, rfl, rfl, rfl, trivial⟩ ?_
      refine WO_tail ?_
      refine WO_end ?_
      refine WK_draw 14 [0, 1, 2, 3, 4, 5, 6, 7, 8, 9, 10, 11, 12, 13] follows_ok (by kernel_rfl) St_closed ?_
      refine WO_pure tbok 1 [(1, .pointer (some ⟨b2, 0, none⟩)), (2, .pointer (some ⟨b3, 0, none⟩)), (3, .pointer (some ⟨b4, 0, none⟩)), (5, .int .i64 (w64 ((w64 ((w64 ((w64 (s_2 - (Int.tmod s_2 p0_0))) + p0_0)) - 1)) - (Int.tmod s_2 p0_0)))), (17, .int .i64 (w64 (p0_0 * p0_1))), (18, .int .i64 s_2), (36, .pointer (some ⟨b4, 3, none⟩))] rfl ⟨rfl, rfl, rfl, rfl, rfl, rfl, rfl, trivial⟩ ?_
      refine WO_loadB tbok 2 rfl rfl rfl rfl (fun _ h => h) rfl rfl ?_
      refine WO_pure tbok 1 [(1, .pointer (some ⟨b2, 0, none⟩)), (2, .pointer (some ⟨b3, 0, none⟩)), (3, .pointer (some ⟨b4, 0, none⟩)), (5, .int .i64 (w64 ((w64 ((w64 ((w64 (s_2 - (Int.tmod s_2 p0_0))) + p0_0)) - 1)) - (Int.tmod s_2 p0_0)))), (17, .int .i64 (w64 (p0_0 * p0_1))), (18, .int .i64 s_2), (37, .slice a8 ((l_1).length) c10), (38, .pointer (some ⟨b2, 3, none⟩))] rfl ⟨rfl, rfl, rfl, rfl, rfl, rfl, rfl, rfl, trivial⟩ ?_
      refine WO_loadB tbok 0 rfl rfl rfl rfl (fun _ h => h) rfl rfl ?_
      refine WO_pure tbok 2 [(1, .pointer (some ⟨b2, 0, none⟩)), (2, .pointer (some ⟨b3, 0, none⟩)), (3, .pointer (some ⟨b4, 0, none⟩)), (5, .int .i64 (w64 ((w64 ((w64 ((w64 (s_2 - (Int.tmod s_2 p0_0))) + p0_0)) - 1)) - (Int.tmod s_2 p0_0)))), (17, .int .i64 (w64 (p0_0 * p0_1))), (18, .int .i64 s_2), (37, .slice a8 ((l_1).length) c10), (39, .slice a_p0_3 p0_3.length c_p0_3), (40, .int .i64 (w64 ((w64 ((w64 ((w64 (s_2 - (Int.tmod s_2 p0_0))) + p0_0)) - 1)) - (Int.tmod s_2 p0_0)))), (41, .pointer (some ⟨b2, 2, none⟩))] rfl ⟨rfl, rfl, rfl, rfl, rfl, rfl, rfl, rfl, rfl, rfl, trivial⟩ ?_
      refine WO_loadB tbok 0 rfl rfl rfl rfl (fun _ h => h) rfl rfl ?_
      refine WO_pure tbok 4 [(1, .pointer (some ⟨b2, 0, none⟩)), (2, .pointer (some ⟨b3, 0, none⟩)), (3, .pointer (some ⟨b4, 0, none⟩)), (17, .int .i64 (w64 (p0_0 * p0_1))), (18, .int .i64 s_2), (37, .slice a8 ((l_1).length) c10), (39, .slice a_p0_3 p0_3.length c_p0_3), (43, .int .i64 (w64 ((w64 ((w64 ((w64 ((w64 (s_2 - (Int.tmod s_2 p0_0))) + p0_0)) - 1)) - (Int.tmod s_2 p0_0))) * p0_2))), (45, .int .i64 (w64 ((w64 ((w64 ((w64 ((w64 (s_2 - (Int.tmod s_2 p0_0))) + p0_0)) - 1)) - (Int.tmod s_2 p0_0))) + 1))), (46, .pointer (some ⟨b2, 2, none⟩))] rfl ⟨rfl, rfl, rfl, rfl, rfl, rfl, rfl, rfl, rfl, rfl, trivial⟩ ?_
      refine WO_loadB tbok 0 rfl rfl rfl rfl (fun _ h => h) rfl rfl ?_
      refine WO_pure tbok 1 [(1, .pointer (some ⟨b2, 0, none⟩)), (2, .pointer (some ⟨b3, 0, none⟩)), (3, .pointer (some ⟨b4, 0, none⟩)), (17, .int .i64 (w64 (p0_0 * p0_1))), (18, .int .i64 s_2), (37, .slice a8 ((l_1).length) c10), (39, .slice a_p0_3 p0_3.length c_p0_3), (43, .int .i64 (w64 ((w64 ((w64 ((w64 ((w64 (s_2 - (Int.tmod s_2 p0_0))) + p0_0)) - 1)) - (Int.tmod s_2 p0_0))) * p0_2))), (48, .int .i64 (w64 ((w64 ((w64 ((w64 ((w64 ((w64 (s_2 - (Int.tmod s_2 p0_0))) + p0_0)) - 1)) - (Int.tmod s_2 p0_0))) + 1)) * p0_2)))] rfl ⟨rfl, rfl, rfl, rfl, rfl, rfl, rfl, rfl, rfl, trivial⟩ ?_
      obtain ⟨hc28, hm19⟩ := chk_some hm19
      have hc28 : 0 ≤ (w64 ((w64 ((w64 ((w64 ((w64 (s_2 - (Int.tmod s_2 p0_0))) + p0_0)) - 1)) - (Int.tmod s_2 p0_0))) * p0_2) : Int) ∧ (w64 ((w64 ((w64 ((w64 ((w64 (s_2 - (Int.tmod s_2 p0_0))) + p0_0)) - 1)) - (Int.tmod s_2 p0_0))) * p0_2) : Int) ≤ (w64 ((w64 ((w64 ((w64 ((w64 ((w64 (s_2 - (Int.tmod s_2 p0_0))) + p0_0)) - 1)) - (Int.tmod s_2 p0_0))) + 1)) * p0_2) : Int) ∧ (w64 ((w64 ((w64 ((w64 ((w64 ((w64 (s_2 - (Int.tmod s_2 p0_0))) + p0_0)) - 1)) - (Int.tmod s_2 p0_0))) + 1)) * p0_2) : Int) ≤ (p0_3.length : Int) := hc28
      have hz32 : SlR (FE (I1 .i64)) 1 m (.slice a_p0_3 p0_3.length c_p0_3) p0_3 := h_p0_3
      refine WO_slice tbok (some (w64 ((w64 ((w64 ((w64 ((w64 (s_2 - (Int.tmod s_2 p0_0))) + p0_0)) - 1)) - (Int.tmod s_2 p0_0))) * p0_2) : Int)) (some (w64 ((w64 ((w64 ((w64 ((w64 ((w64 (s_2 - (Int.tmod s_2 p0_0))) + p0_0)) - 1)) - (Int.tmod s_2 p0_0))) + 1)) * p0_2) : Int)) none (w64 ((w64 ((w64 ((w64 ((w64 (s_2 - (Int.tmod s_2 p0_0))) + p0_0)) - 1)) - (Int.tmod s_2 p0_0))) * p0_2) : Int).toNat (w64 ((w64 ((w64 ((w64 ((w64 ((w64 (s_2 - (Int.tmod s_2 p0_0))) + p0_0)) - 1)) - (Int.tmod s_2 p0_0))) + 1)) * p0_2) : Int).toNat rfl rfl rfl rfl rfl rfl rfl rfl rfl rfl rfl hz32 (by simp only [Option.getD_some] <;> omega) (by simp only [Option.getD_some] <;> omega) (fun q hq => by cases hq) (by omega) (by omega) (fun hh => by cases hh) (fun a29 c30 h31 => ?_)
      refine WO_tail ?_
      obtain ⟨hc34, hm19⟩ := chk_some hm19
      refine WO_appendS (E := (I1 .i64)) tbok (fun _ => rfl) (by decide) (fun _ => rfl) 3 ((p0_3.take (w64 ((w64 ((w64 ((w64 ((w64 ((w64 (s_2 - (Int.tmod s_2 p0_0))) + p0_0)) - 1)) - (Int.tmod s_2 p0_0))) + 1)) * p0_2) : Int).toNat).drop (w64 ((w64 ((w64 ((w64 ((w64 (s_2 - (Int.tmod s_2 p0_0))) + p0_0)) - 1)) - (Int.tmod s_2 p0_0))) * p0_2) : Int).toNat) rfl rfl rfl rfl rfl rfl rfl rfl rfl rfl rfl rfl hL7 rfl (fun w hw => ⟨_, hw.sat, h31⟩) (ap_ok (by decide) hc34) (ap_max hc34) (fun a35 c36 L37 hL37 => ?_)
      refine WO.cls (C' := St w0 m m [[⟨b2, 39, [.int .i64 p0_0, .int .i64 p0_1, .int .i64 p0_2, .slice a_p0_3 p0_3.length c_p0_3]⟩], [⟨b3, 39, [.int .i64 0, .int .i64 0, .int .i64 0, .slice none 0 0]⟩], [⟨b4, 39, [.int .i64 p0_0, .int .i64 p0_1, .int .i64 p0_2, .slice a8 ((l_1).length) c10]⟩], L37]) (fun _ h => h) ?_
      refine WO_pure tbok 1 [(1, .pointer (some ⟨b2, 0, none⟩)), (2, .pointer (some ⟨b3, 0, none⟩)), (3, .pointer (some ⟨b4, 0, none⟩)), (17, .int .i64 (w64 (p0_0 * p0_1))), (18, .int .i64 s_2), (50, .slice a35 ((l_1 ++ ((p0_3.take (w64 ((w64 ((w64 ((w64 ((w64 ((w64 (s_2 - (Int.tmod s_2 p0_0))) + p0_0)) - 1)) - (Int.tmod s_2 p0_0))) + 1)) * p0_2) : Int).toNat).drop (w64 ((w64 ((w64 ((w64 ((w64 (s_2 - (Int.tmod s_2 p0_0))) + p0_0)) - 1)) - (Int.tmod s_2 p0_0))) * p0_2) : Int).toNat)).length) c36), (51, .pointer (some ⟨b4, 3, none⟩))] rfl ⟨rfl, rfl, rfl, rfl, rfl, rfl, rfl, trivial⟩ ?_
      refine WO_storeB tbok 2 [.int .i64 p0_0, .int .i64 p0_1, .int .i64 p0_2, .slice a35 ((l_1 ++ ((p0_3.take (w64 ((w64 ((w64 ((w64 ((w64 ((w64 (s_2 - (Int.tmod s_2 p0_0))) + p0_0)) - 1)) - (Int.tmod s_2 p0_0))) + 1)) * p0_2) : Int).toNat).drop (w64 ((w64 ((w64 ((w64 ((w64 (s_2 - (Int.tmod s_2 p0_0))) + p0_0)) - 1)) - (Int.tmod s_2 p0_0))) * p0_2) : Int).toNat)).length) c36] rfl rfl rfl rfl rfl rfl rfl ?_
      refine WO.cls (C' := St w0 m m [[⟨b2, 39, [.int .i64 p0_0, .int .i64 p0_1, .int .i64 p0_2, .slice a_p0_3 p0_3.length c_p0_3]⟩], [⟨b3, 39, [.int .i64 0, .int .i64 0, .int .i64 0, .slice none 0 0]⟩], [⟨b4, 39, [.int .i64 p0_0, .int .i64 p0_1, .int .i64 p0_2, .slice a35 ((l_1 ++ ((p0_3.take (w64 ((w64 ((w64 ((w64 ((w64 ((w64 (s_2 - (Int.tmod s_2 p0_0))) + p0_0)) - 1)) - (Int.tmod s_2 p0_0))) + 1)) * p0_2) : Int).toNat).drop (w64 ((w64 ((w64 ((w64 ((w64 (s_2 - (Int.tmod s_2 p0_0))) + p0_0)) - 1)) - (Int.tmod s_2 p0_0))) * p0_2) : Int).toNat)).length) c36]⟩], L37]) (fun _ h => h) ?_
      refine WO_end ?_
      refine WK_blk ?_
      refine WK_region ?_
      refine WO_pure tbok 2 [(1, .pointer (some ⟨b2, 0, none⟩)), (2, .pointer (some ⟨b3, 0, none⟩)), (3, .pointer (some ⟨b4, 0, none⟩)), (17, .int .i64 (w64 (p0_0 * p0_1))), (18, .int .i64 (w64 (s_2 + 1)))] rfl ⟨rfl, rfl, rfl, rfl, rfl, trivial⟩ ?_
      refine WO_end ?_
      cases hm19
      refine WK.sub ?_ (WK.cls (fun _ h => h) (hn22 _ (a35, (l_1 ++ ((p0_3.take (w64 ((w64 ((w64 ((w64 ((w64 ((w64 (s_2 - (Int.tmod s_2 p0_0))) + p0_0)) - 1)) - (Int.tmod s_2 p0_0))) + 1)) * p0_2) : Int).toNat).drop (w64 ((w64 ((w64 ((w64 ((w64 (s_2 - (Int.tmod s_2 p0_0))) + p0_0)) - 1)) - (Int.tmod s_2 p0_0))) * p0_2) : Int).toNat)).length, c36, L37) rfl hL37))
      exact ⟨rfl, rfl, rfl, rfl, rfl, trivial⟩
    · have hm19 := ifF hb25 hm19
      refine WK_exit rfl ?_
      cases hm19
      refine WK.sub ?_ (WK.cls (fun _ h => h) (hk18 (l_1, (a8, _, c10, L7)) ⟨(hd23 _ rfl), hL7⟩))
      exact ⟨rfl, rfl, trivial⟩
theorem fiduciallaw44_CensusTwice_walk {m : Mu} {p0_0 : Int} {p0_1 : Int} {p0_2 : Int} {p0_3 : List Int} {a_p0_3 : Option Addr} {q_p0_3 c_p0_3 : Nat} (h_p0_3 : SlR (FE (I1 .i64)) 1 m (.slice a_p0_3 q_p0_3 c_p0_3) p0_3) {r : Bool} (hm : fiduciallaw44_CensusTwice p0_0 p0_1 p0_2 p0_3 = some r) :
    Go.E.Spec Try.prog 10 [.agg #[.int .i64 p0_0, .int .i64 p0_1, .int .i64 p0_2, .slice a_p0_3 q_p0_3 c_p0_3]] m (fun v _ _ => v = .bool r) := by
  refine Spec_enter Try.func10 rfl rfl rfl (fun w0 => ?_)
  refine WK.sub (e' := [(0, .agg #[.int .i64 p0_0, .int .i64 p0_1, .int .i64 p0_2, .slice a_p0_3 q_p0_3 c_p0_3])]) ⟨rfl, trivial⟩ ?_
  obtain rfl := SlR.qlen h_p0_3
  refine WK.sub (e' := [(0, .agg #[.int .i64 p0_0, .int .i64 p0_1, .int .i64 p0_2, .slice a_p0_3 p0_3.length c_p0_3])]) ⟨rfl, trivial⟩ ?_
  unfold fiduciallaw44_CensusTwice at hm
  refine WK_seq ?_
  refine WK_region ?_
  refine WO_box [.int .i64 p0_0, .int .i64 p0_1, .int .i64 p0_2, .slice a_p0_3 p0_3.length c_p0_3] rfl rfl trivial rfl rfl rfl (fun b2 => ?_)
  refine WO.cls (C' := St w0 m m [[⟨b2, 39, [.int .i64 p0_0, .int .i64 p0_1, .int .i64 p0_2, .slice a_p0_3 p0_3.length c_p0_3]⟩]]) (fun _ h => h) ?_
  refine WO_pure tbok 1 [(1, .pointer (some ⟨b2, 0, none⟩)), (2, .bool false)] rfl ⟨rfl, rfl, trivial⟩ ?_
  refine WO_end ?_
  refine WK_seq ?_
  refine WK_seq ?_
  refine WK_region ?_
  obtain ⟨y_1, hc3, hm⟩ := bind_some hm
  refine WO_call0 (.bool y_1) rfl rfl trivial rfl rfl rfl rfl St_closed ⟨11, #[], #[], rfl, callable_11, fun w hw => ⟨_, hw.sat, fiduciallaw44_known_walk hc3⟩⟩ ?_
  refine WO_pure tbok 1 [(1, .pointer (some ⟨b2, 0, none⟩)), (2, .bool false), (11, .bool (!y_1))] rfl ⟨rfl, rfl, rfl, trivial⟩ ?_
  refine WO_end ?_
  refine WK_cond (b := !y_1) rfl (fun hb4 => ?_) (fun hb4 => ?_)
  · have hm := ifT hb4 hm
    refine WK_seq ?_
    refine WK_region ?_
    refine WO_pure tbok 1 [(1, .pointer (some ⟨b2, 0, none⟩)), (2, .bool false)] rfl ⟨rfl, rfl, trivial⟩ ?_
    refine WO_end ?_
    cases hm
    exact WK_ret (ret_out (L := []) (RLc_tmp rfl RLc_nil) (List.nil_sublist _) rfl)
  · have hm := ifF hb4 hm
    refine WK_skip ?_
    refine WK_seq ?_
    refine WK_seq ?_
    obtain ⟨s_2, hx5, hm⟩ := bind_some hm
    refine WK_meet [(1, .pointer (some ⟨b2, 0, none⟩)), (2, .bool false), (20, .bool s_2)] (St w0 m m [[⟨b2, 39, [.int .i64 p0_0, .int .i64 p0_1, .int .i64 p0_2, .slice a_p0_3 p0_3.length c_p0_3]⟩]]) ?_ (fun hk6 => ?_)
    · refine WK_cond (b := s_2) rfl (fun hb7 => ?_) (fun hb7 => ?_)
      · have hm := ifT hb7 hm
        refine WK_seq ?_
        refine WK_region ?_
        refine WO_pure tbok 1 [(1, .pointer (some ⟨b2, 0, none⟩)), (2, .bool true)] rfl ⟨rfl, rfl, trivial⟩ ?_
        refine WO_end ?_
        cases hm
        exact WK_ret (ret_out (L := []) (RLc_tmp rfl RLc_nil) (List.nil_sublist _) rfl)
      · have hm := ifF hb7 hm
        refine WK_skip ?_
        refine WK_seq ?_
        refine WK_region ?_
        refine WO_pure tbok 1 [(1, .pointer (some ⟨b2, 0, none⟩)), (2, .bool false), (3, .func (.func 32) #[] #[])] rfl ⟨rfl, rfl, rfl, trivial⟩ ?_
        refine WO_end ?_
        refine WK_seq ?_
        refine WK_region ?_
        refine WO_loadB tbok 0 rfl rfl rfl rfl (fun _ h => h) rfl rfl ?_
        obtain ⟨⟨y_3, y_4, y_5, y_6, y_7⟩, hc8, hm⟩ := bind_some hm
        refine WO_call1 (census_Right_Q (y_3, y_4, y_5, y_6, y_7)) rfl rfl trivial rfl rfl rfl rfl ⟨28, #[], #[], rfl, callable_28, fun w hw => ⟨_, hw.sat, census_Right_walk h_p0_3 hc8⟩⟩ (fun v13 L12 hq => ?_)
        obtain ⟨a9, qa9, c10, rfl, hL12⟩ := hq
        obtain rfl := OwnE.qlen hL12
        refine WO.cls (C' := St w0 m m [[⟨b2, 39, [.int .i64 p0_0, .int .i64 p0_1, .int .i64 p0_2, .slice a_p0_3 p0_3.length c_p0_3]⟩], L12]) (fun _ h => h) ?_
        refine WO_pure tbok 3 [(1, .pointer (some ⟨b2, 0, none⟩)), (2, .bool false), (3, .func (.func 32) #[] #[]), (24, .agg #[.int .i64 y_3, .int .i64 y_4, .int .i64 y_5, .slice a9 ((y_6).length) c10]), (25, .int .i64 y_7)] rfl ⟨rfl, rfl, rfl, rfl, rfl, trivial⟩ ?_
        refine WO_alloc tbok [.int .i64 0, .int .i64 0, .int .i64 0, .slice none 0 0] rfl rfl trivial rfl rfl rfl rfl (fun b14 => ?_)
        refine WO.cls (C' := St w0 m m [[⟨b2, 39, [.int .i64 p0_0, .int .i64 p0_1, .int .i64 p0_2, .slice a_p0_3 p0_3.length c_p0_3]⟩], L12, [⟨b14, 39, [.int .i64 0, .int .i64 0, .int .i64 0, .slice none 0 0]⟩]]) (fun _ h => h) ?_
        refine WO_storeB tbok 2 [.int .i64 y_3, .int .i64 y_4, .int .i64 y_5, .slice a9 ((y_6).length) c10] rfl rfl rfl rfl rfl rfl rfl ?_
        refine WO.cls (C' := St w0 m m [[⟨b2, 39, [.int .i64 p0_0, .int .i64 p0_1, .int .i64 p0_2, .slice a_p0_3 p0_3.length c_p0_3]⟩], L12, [⟨b14, 39, [.int .i64 y_3, .int .i64 y_4, .int .i64 y_5, .slice a9 ((y_6).length) c10]⟩]]) (fun _ h => h) ?_
        refine WO_pure tbok 1 [(1, .pointer (some ⟨b2, 0, none⟩)), (2, .bool false), (3, .func (.func 32) #[] #[]), (4, .pointer (some ⟨b14, 0, none⟩)), (5, .int .i64 y_7)] rfl ⟨rfl, rfl, rfl, rfl, rfl, trivial⟩ ?_
        refine WO_end ?_
        refine WK_seq ?_
        refine WK_seq ?_
        obtain ⟨s_8, hx15, hm⟩ := bind_some hm
        refine WK_meet [(1, .pointer (some ⟨b2, 0, none⟩)), (2, .bool false), (3, .func (.func 32) #[] #[]), (4, .pointer (some ⟨b14, 0, none⟩)), (32, .bool s_8)] (St w0 m m [[⟨b2, 39, [.int .i64 p0_0, .int .i64 p0_1, .int .i64 p0_2, .slice a_p0_3 p0_3.length c_p0_3]⟩], L12, [⟨b14, 39, [.int .i64 y_3, .int .i64 y_4, .int .i64 y_5, .slice a9 ((y_6).length) c10]⟩]]) ?_ (fun hk16 => ?_)
        · refine WK_cond (b := s_8) rfl (fun hb17 => ?_) (fun hb17 => ?_)
          · have hm := ifT hb17 hm
            refine WK_seq ?_
            refine WK_region ?_
            refine WO_pure tbok 1 [(1, .pointer (some ⟨b2, 0, none⟩)), (2, .bool false), (3, .func (.func 32) #[] #[]), (4, .pointer (some ⟨b14, 0, none⟩))] rfl ⟨rfl, rfl, rfl, rfl, trivial⟩ ?_
            refine WO_end ?_
            cases hm
            exact WK_ret (ret_out (L := []) (RLc_tmp rfl RLc_nil) (List.nil_sublist _) rfl)
          · have hm := ifF hb17 hm
            refine WK_skip ?_
            refine WK_seq ?_
            refine WK_region ?_
            refine WO_pure tbok 1 [(1, .pointer (some ⟨b2, 0, none⟩)), (2, .bool false), (3, .func (.func 32) #[] #[]), (4, .pointer (some ⟨b14, 0, none⟩)), (34, .func (.func 32) #[] #[])] rfl ⟨rfl, rfl, rfl, rfl, rfl, trivial⟩ ?_
            refine WO_loadB tbok 2 rfl rfl rfl rfl (fun _ h => h) rfl rfl ?_
            obtain ⟨⟨y_9, y_10, y_11, y_12⟩, hc18, hm⟩ := bind_some hm
            refine WO_call1 (fiduciallaw44_CensusTwice_c1_Q (y_9, y_10, y_11, y_12)) rfl rfl trivial rfl rfl rfl rfl ⟨32, #[], #[], rfl, callable_32, fun w hw => ⟨_, hw.satV, fiduciallaw44_CensusTwice_c1_walk (OwnE.rd (E := (I1 .i64)) (k := 1) (fun _ => rfl) hL12 (fun _ hx => hw.memV (i := 1) rfl hx)) hc18⟩⟩ (fun v23 L22 hq => ?_)
            obtain ⟨a19, qa19, c20, rfl, hL22⟩ := hq
            obtain rfl := OwnE.qlen hL22
            refine WO.cls (C' := St w0 m m [[⟨b2, 39, [.int .i64 p0_0, .int .i64 p0_1, .int .i64 p0_2, .slice a_p0_3 p0_3.length c_p0_3]⟩], L12, [⟨b14, 39, [.int .i64 y_3, .int .i64 y_4, .int .i64 y_5, .slice a9 ((y_6).length) c10]⟩], L22]) (fun _ h => h) ?_
            obtain ⟨⟨y_13, y_14, y_15, y_16, y_17⟩, hc24, hm⟩ := bind_some hm
            refine WO_call1 (census_Right_Q (y_13, y_14, y_15, y_16, y_17)) rfl rfl trivial rfl rfl rfl rfl ⟨28, #[], #[], rfl, callable_28, fun w hw => ⟨_, hw.satV, census_Right_walk (OwnE.rd (E := (I1 .i64)) (k := 1) (fun _ => rfl) hL22 (fun _ hx => hw.memV (i := 3) rfl hx)) hc24⟩⟩ (fun v29 L28 hq => ?_)
            obtain ⟨a25, qa25, c26, rfl, hL28⟩ := hq
            obtain rfl := OwnE.qlen hL28
            refine WO.cls (C' := St w0 m m [[⟨b2, 39, [.int .i64 p0_0, .int .i64 p0_1, .int .i64 p0_2, .slice a_p0_3 p0_3.length c_p0_3]⟩], L12, [⟨b14, 39, [.int .i64 y_3, .int .i64 y_4, .int .i64 y_5, .slice a9 ((y_6).length) c10]⟩], L22, L28]) (fun _ h => h) ?_
            refine WO_pure tbok 3 [(1, .pointer (some ⟨b2, 0, none⟩)), (2, .bool false), (3, .func (.func 32) #[] #[]), (38, .agg #[.int .i64 y_13, .int .i64 y_14, .int .i64 y_15, .slice a25 ((y_16).length) c26]), (39, .int .i64 y_17)] rfl ⟨rfl, rfl, rfl, rfl, rfl, trivial⟩ ?_
            refine WO_alloc tbok [.int .i64 0, .int .i64 0, .int .i64 0, .slice none 0 0] rfl rfl trivial rfl rfl rfl rfl (fun b30 => ?_)
            refine WO.cls (C' := St w0 m m [[⟨b2, 39, [.int .i64 p0_0, .int .i64 p0_1, .int .i64 p0_2, .slice a_p0_3 p0_3.length c_p0_3]⟩], L12, [⟨b14, 39, [.int .i64 y_3, .int .i64 y_4, .int .i64 y_5, .slice a9 ((y_6).length) c10]⟩], L22, L28, [⟨b30, 39, [.int .i64 0, .int .i64 0, .int .i64 0, .slice none 0 0]⟩]]) (fun _ h => h) ?_
            refine WO_storeB tbok 5 [.int .i64 y_13, .int .i64 y_14, .int .i64 y_15, .slice a25 ((y_16).length) c26] rfl rfl rfl rfl rfl rfl rfl ?_
            refine WO.cls (C' := St w0 m m [[⟨b2, 39, [.int .i64 p0_0, .int .i64 p0_1, .int .i64 p0_2, .slice a_p0_3 p0_3.length c_p0_3]⟩], L12, [⟨b14, 39, [.int .i64 y_3, .int .i64 y_4, .int .i64 y_5, .slice a9 ((y_6).length) c10]⟩], L22, L28, [⟨b30, 39, [.int .i64 y_13, .int .i64 y_14, .int .i64 y_15, .slice a25 ((y_16).length) c26]⟩]]) (fun _ h => h) ?_
            refine WO_pure tbok 1 [(1, .pointer (some ⟨b2, 0, none⟩)), (2, .bool false), (3, .func (.func 32) #[] #[]), (6, .pointer (some ⟨b30, 0, none⟩)), (7, .int .i64 y_17)] rfl ⟨rfl, rfl, rfl, rfl, rfl, trivial⟩ ?_
            refine WO_end ?_
            refine WK_seq ?_
            refine WK_seq ?_
            obtain ⟨s_18, hx31, hm⟩ := bind_some hm
            refine WK_meet [(1, .pointer (some ⟨b2, 0, none⟩)), (2, .bool false), (3, .func (.func 32) #[] #[]), (6, .pointer (some ⟨b30, 0, none⟩)), (46, .bool s_18)] (St w0 m m [[⟨b2, 39, [.int .i64 p0_0, .int .i64 p0_1, .int .i64 p0_2, .slice a_p0_3 p0_3.length c_p0_3]⟩], L12, [⟨b14, 39, [.int .i64 y_3, .int .i64 y_4, .int .i64 y_5, .slice a9 ((y_6).length) c10]⟩], L22, L28, [⟨b30, 39, [.int .i64 y_13, .int .i64 y_14, .int .i64 y_15, .slice a25 ((y_16).length) c26]⟩]]) ?_ (fun hk32 => ?_)
            · refine WK_cond (b := s_18) rfl (fun hb33 => ?_) (fun hb33 => ?_)
              · have hm := ifT hb33 hm
                refine WK_seq ?_
                refine WK_region ?_
                refine WO_pure tbok 1 [(1, .pointer (some ⟨b2, 0, none⟩)), (2, .bool false), (3, .func (.func 32) #[] #[]), (6, .pointer (some ⟨b30, 0, none⟩))] rfl ⟨rfl, rfl, rfl, rfl, trivial⟩ ?_
                refine WO_end ?_
                cases hm
                exact WK_ret (ret_out (L := []) (RLc_tmp rfl RLc_nil) (List.nil_sublist _) rfl)
              · have hm := ifF hb33 hm
                refine WK_skip ?_
                refine WK_seq ?_
                refine WK_region ?_
                refine WO_pure tbok 1 [(1, .pointer (some ⟨b2, 0, none⟩)), (2, .bool false), (6, .pointer (some ⟨b30, 0, none⟩)), (47, .func (.func 32) #[] #[])] rfl ⟨rfl, rfl, rfl, rfl, trivial⟩ ?_
                refine WO_loadB tbok 5 rfl rfl rfl rfl (fun _ h => h) rfl rfl ?_
                obtain ⟨⟨y_19, y_20, y_21, y_22⟩, hc34, hm⟩ := bind_some hm
                refine WO_call1 (fiduciallaw44_CensusTwice_c1_Q (y_19, y_20, y_21, y_22)) rfl rfl trivial rfl rfl rfl rfl ⟨32, #[], #[], rfl, callable_32, fun w hw => ⟨_, hw.satV, fiduciallaw44_CensusTwice_c1_walk (OwnE.rd (E := (I1 .i64)) (k := 1) (fun _ => rfl) hL28 (fun _ hx => hw.memV (i := 4) rfl hx)) hc34⟩⟩ (fun v39 L38 hq => ?_)
                obtain ⟨a35, qa35, c36, rfl, hL38⟩ := hq
                obtain rfl := OwnE.qlen hL38
                refine WO.cls (C' := St w0 m m [[⟨b2, 39, [.int .i64 p0_0, .int .i64 p0_1, .int .i64 p0_2, .slice a_p0_3 p0_3.length c_p0_3]⟩], L12, [⟨b14, 39, [.int .i64 y_3, .int .i64 y_4, .int .i64 y_5, .slice a9 ((y_6).length) c10]⟩], L22, L28, [⟨b30, 39, [.int .i64 y_13, .int .i64 y_14, .int .i64 y_15, .slice a25 ((y_16).length) c26]⟩], L38]) (fun _ h => h) ?_
                refine WO_storeB tbok 5 [.int .i64 y_19, .int .i64 y_20, .int .i64 y_21, .slice a35 ((y_22).length) c36] rfl rfl rfl rfl rfl rfl rfl ?_
                refine WO.cls (C' := St w0 m m [[⟨b2, 39, [.int .i64 p0_0, .int .i64 p0_1, .int .i64 p0_2, .slice a_p0_3 p0_3.length c_p0_3]⟩], L12, [⟨b14, 39, [.int .i64 y_3, .int .i64 y_4, .int .i64 y_5, .slice a9 ((y_6).length) c10]⟩], L22, L28, [⟨b30, 39, [.int .i64 y_19, .int .i64 y_20, .int .i64 y_21, .slice a35 ((y_22).length) c36]⟩], L38]) (fun _ h => h) ?_
                refine WO_end ?_
                refine WK_seq ?_
                refine WK_seq ?_
                refine WK_region ?_
                refine WO_pure tbok 1 [(1, .pointer (some ⟨b2, 0, none⟩)), (2, .bool false), (6, .pointer (some ⟨b30, 0, none⟩)), (50, .pointer (some ⟨b2, 0, none⟩))] rfl ⟨rfl, rfl, rfl, rfl, trivial⟩ ?_
                refine WO_loadB tbok 0 rfl rfl rfl rfl (fun _ h => h) rfl rfl ?_
                refine WO_pure tbok 1 [(1, .pointer (some ⟨b2, 0, none⟩)), (2, .bool false), (6, .pointer (some ⟨b30, 0, none⟩)), (51, .int .i64 p0_0), (52, .pointer (some ⟨b2, 1, none⟩))] rfl ⟨rfl, rfl, rfl, rfl, rfl, trivial⟩ ?_
                refine WO_loadB tbok 0 rfl rfl rfl rfl (fun _ h => h) rfl rfl ?_
                refine WO_pure tbok 2 [(1, .pointer (some ⟨b2, 0, none⟩)), (2, .bool false), (6, .pointer (some ⟨b30, 0, none⟩)), (54, .int .i64 (w64 (p0_0 * p0_1))), (55, .int .i64 0)] rfl ⟨rfl, rfl, rfl, rfl, rfl, trivial⟩ ?_
                refine WO_end ?_
                obtain ⟨x40, hx41, hm⟩ := bind_some hm
                refine WK_join (β := Unit × Unit) (fun p => Sum.inr p.1 = x40) (fun p => [(2, .bool false)]) (fun p => St w0 m m [[⟨b2, 39, [.int .i64 p0_0, .int .i64 p0_1, .int .i64 p0_2, .slice a_p0_3 p0_3.length c_p0_3]⟩], L12, [⟨b14, 39, [.int .i64 y_3, .int .i64 y_4, .int .i64 y_5, .slice a9 ((y_6).length) c10]⟩], L22, L28, [⟨b30, 39, [.int .i64 y_19, .int .i64 y_20, .int .i64 y_21, .slice a35 ((y_22).length) c36]⟩], L38]) ?_ (fun hk42 => ?_)
                · rintro ⟨⟨⟩, ⟨⟩⟩ hq48
                  subst hq48
                  refine WK.sub (e' := [(2, .bool false)]) ⟨rfl, trivial⟩ (WK.cls (C' := St w0 m m [[⟨b2, 39, [.int .i64 p0_0, .int .i64 p0_1, .int .i64 p0_2, .slice a_p0_3 p0_3.length c_p0_3]⟩], L12, [⟨b14, 39, [.int .i64 y_3, .int .i64 y_4, .int .i64 y_5, .slice a9 ((y_6).length) c10]⟩], L22, L28, [⟨b30, 39, [.int .i64 y_19, .int .i64 y_20, .int .i64 y_21, .slice a35 ((y_22).length) c36]⟩], L38]) (fun _ h => h) ?_)
                  refine WK_seq ?_
                  refine WK_region ?_
                  refine WO_pure tbok 1 [(2, .bool true)] rfl ⟨rfl, trivial⟩ ?_
                  refine WO_end ?_
                  cases hm
                  exact WK_ret (ret_out (L := []) (RLc_tmp rfl RLc_nil) (List.nil_sublist _) rfl)
                · refine WK_block ?_
                  refine WK_loop (S := Int) (G := Unit) (fun s => fiduciallaw44_CensusTwice_s1 p0_0 p0_1 p0_2 p0_3 y_22 s) (fun s g => [(1, .pointer (some ⟨b2, 0, none⟩)), (2, .bool false), (6, .pointer (some ⟨b30, 0, none⟩)), (54, .int .i64 (w64 (p0_0 * p0_1))), (55, .int .i64 s)]) (fun s g => St w0 m m [[⟨b2, 39, [.int .i64 p0_0, .int .i64 p0_1, .int .i64 p0_2, .slice a_p0_3 p0_3.length c_p0_3]⟩], L12, [⟨b14, 39, [.int .i64 y_3, .int .i64 y_4, .int .i64 y_5, .slice a9 ((y_6).length) c10]⟩], L22, L28, [⟨b30, 39, [.int .i64 y_19, .int .i64 y_20, .int .i64 y_21, .slice a35 ((y_22).length) c36]⟩], L38]) (fun s g => True) FUEL 0 () x40 hx41 trivial ⟨rfl, rfl, rfl, rfl, rfl, trivial⟩ (fun _ h => h) ?_
                  rintro s_23 ⟨⟩ o44 fl45 hm43 - hn46 hd47
                  have hm43 : fiduciallaw44_CensusTwice_s1 p0_0 p0_1 p0_2 p0_3 y_22 s_23 = some o44 := hm43
                  unfold fiduciallaw44_CensusTwice_s1 at hm43
                  refine WK.sub (e' := [(1, .pointer (some ⟨b2, 0, none⟩)), (2, .bool false), (6, .pointer (some ⟨b30, 0, none⟩)), (54, .int .i64 (w64 (p0_0 * p0_1))), (55, .int .i64 s_23)]) ⟨rfl, rfl, rfl, rfl, rfl, trivial⟩ (WK.cls (C' := St w0 m m [[⟨b2, 39, [.int .i64 p0_0, .int .i64 p0_1, .int .i64 p0_2, .slice a_p0_3 p0_3.length c_p0_3]⟩], L12, [⟨b14, 39, [.int .i64 y_3, .int .i64 y_4, .int .i64 y_5, .slice a9 ((y_6).length) c10]⟩], L22, L28, [⟨b30, 39, [.int .i64 y_19, .int .i64 y_20, .int .i64 y_21, .slice a35 ((y_22).length) c36]⟩], L38]) (fun _ h => h) ?_)
                  refine WK_seq ?_
                  refine WK_region ?_
                  refine WO_pure tbok 1 [(1, .pointer (some ⟨b2, 0, none⟩)), (2, .bool false), (6, .pointer (some ⟨b30, 0, none⟩)), (54, .int .i64 (w64 (p0_0 * p0_1))), (55, .int .i64 s_23), (56, .bool (decide (s_23 < (w64 (p0_0 * p0_1)))))] rfl ⟨rfl, rfl, rfl, rfl, rfl, rfl, trivial⟩ ?_
                  refine WO_end ?_
                  refine WK_seq ?_
                  refine WK_cond (b := decide (s_23 < (w64 (p0_0 * p0_1)))) rfl (fun hb49 => ?_) (fun hb49 => ?_)
                  · have hm43 := ifT hb49 hm43
                    refine WK_skip ?_
                    refine WK_seq ?_
                    refine WK_block ?_
                    refine WK_seq ?_
                    refine WK_region ?_
                    refine WO_pure tbok 2 [(1, .pointer (some ⟨b2, 0, none⟩)), (2, .bool false), (6, .pointer (some ⟨b30, 0, none⟩)), (8, .int .i64 s_23), (54, .int .i64 (w64 (p0_0 * p0_1))), (55, .int .i64 s_23)] rfl ⟨rfl, rfl, rfl, rfl, rfl, rfl, trivial⟩ ?_
                    refine WO_end ?_
                    refine WK_seq ?_
                    refine WK_region ?_
                    refine WO_pure tbok 1 [(1, .pointer (some ⟨b2, 0, none⟩)), (2, .bool false), (6, .pointer (some ⟨b30, 0, none⟩)), (8, .int .i64 s_23), (54, .int .i64 (w64 (p0_0 * p0_1))), (55, .int .i64 s_23), (58, .pointer (some ⟨b2, 2, none⟩))] rfl ⟨rfl, rfl, rfl, rfl, rfl, rfl, rfl, trivial⟩ ?_
                    refine WO_loadB tbok 0 rfl rfl rfl rfl (fun _ h => h) rfl rfl ?_
                    refine WO_pure tbok 1 [(1, .pointer (some ⟨b2, 0, none⟩)), (2, .bool false), (6, .pointer (some ⟨b30, 0, none⟩)), (8, .int .i64 s_23), (54, .int .i64 (w64 (p0_0 * p0_1))), (55, .int .i64 s_23), (59, .int .i64 p0_2), (60, .int .i64 0)] rfl ⟨rfl, rfl, rfl, rfl, rfl, rfl, rfl, rfl, trivial⟩ ?_
                    refine WO_end ?_
                    obtain ⟨x50, hx51, hm43⟩ := bind_some hm43
                    refine WK_join (β := Unit × Unit) (fun p => Sum.inr p.1 = x50) (fun p => [(1, .pointer (some ⟨b2, 0, none⟩)), (2, .bool false), (6, .pointer (some ⟨b30, 0, none⟩)), (54, .int .i64 (w64 (p0_0 * p0_1))), (55, .int .i64 s_23)]) (fun p => St w0 m m [[⟨b2, 39, [.int .i64 p0_0, .int .i64 p0_1, .int .i64 p0_2, .slice a_p0_3 p0_3.length c_p0_3]⟩], L12, [⟨b14, 39, [.int .i64 y_3, .int .i64 y_4, .int .i64 y_5, .slice a9 ((y_6).length) c10]⟩], L22, L28, [⟨b30, 39, [.int .i64 y_19, .int .i64 y_20, .int .i64 y_21, .slice a35 ((y_22).length) c36]⟩], L38]) ?_ (fun hk52 => ?_)
                    · rintro ⟨⟨⟩, ⟨⟩⟩ hq58
                      subst hq58
                      refine WK.sub (e' := [(1, .pointer (some ⟨b2, 0, none⟩)), (2, .bool false), (6, .pointer (some ⟨b30, 0, none⟩)), (54, .int .i64 (w64 (p0_0 * p0_1))), (55, .int .i64 s_23)]) ⟨rfl, rfl, rfl, rfl, rfl, trivial⟩ (WK.cls (C' := St w0 m m [[⟨b2, 39, [.int .i64 p0_0, .int .i64 p0_1, .int .i64 p0_2, .slice a_p0_3 p0_3.length c_p0_3]⟩], L12, [⟨b14, 39, [.int .i64 y_3, .int .i64 y_4, .int .i64 y_5, .slice a9 ((y_6).length) c10]⟩], L22, L28, [⟨b30, 39, [.int .i64 y_19, .int .i64 y_20, .int .i64 y_21, .slice a35 ((y_22).length) c36]⟩], L38]) (fun _ h => h) ?_)
                      refine WK_blk ?_
                      refine WK_region ?_
                      refine WO_pure tbok 2 [(1, .pointer (some ⟨b2, 0, none⟩)), (2, .bool false), (6, .pointer (some ⟨b30, 0, none⟩)), (54, .int .i64 (w64 (p0_0 * p0_1))), (55, .int .i64 (w64 (s_23 + 1)))] rfl ⟨rfl, rfl, rfl, rfl, rfl, trivial⟩ ?_
                      refine WO_end ?_
                      cases hm43
                      refine WK.sub ?_ (WK.cls (fun _ h => h) (hn46 _ () rfl trivial))
                      exact ⟨rfl, rfl, rfl, rfl, rfl, trivial⟩
                    · refine WK_block ?_
                      refine WK_loop (S := Int) (G := Unit) (fun s => fiduciallaw44_CensusTwice_s2 p0_0 p0_2 p0_3 y_22 s_23 s) (fun s g => [(1, .pointer (some ⟨b2, 0, none⟩)), (2, .bool false), (6, .pointer (some ⟨b30, 0, none⟩)), (8, .int .i64 s_23), (54, .int .i64 (w64 (p0_0 * p0_1))), (55, .int .i64 s_23), (59, .int .i64 p0_2), (60, .int .i64 s)]) (fun s g => St w0 m m [[⟨b2, 39, [.int .i64 p0_0, .int .i64 p0_1, .int .i64 p0_2, .slice a_p0_3 p0_3.length c_p0_3]⟩], L12, [⟨b14, 39, [.int .i64 y_3, .int .i64 y_4, .int .i64 y_5, .slice a9 ((y_6).length) c10]⟩], L22, L28, [⟨b30, 39, [.int .i64 y_19, .int .i64 y_20, .int .i64 y_21, .slice a35 ((y_22).length) c36]⟩], L38]) (fun s g => True) FUEL 0 () x50 hx51 trivial ⟨rfl, rfl, rfl, rfl, rfl, rfl, rfl, rfl, trivial⟩ (fun _ h => h) ?_
                      rintro s_24 ⟨⟩ o54 fl55 hm53 - hn56 hd57
                      have hm53 : fiduciallaw44_CensusTwice_s2 p0_0 p0_2 p0_3 y_22 s_23 s_24 = some o54 := hm53
                      unfold fiduciallaw44_CensusTwice_s2 at hm53
                      refine WK.sub (e' := [(1, .pointer (some ⟨b2, 0, none⟩)), (2, .bool false), (6, .pointer (some ⟨b30, 0, none⟩)), (8, .int .i64 s_23), (54, .int .i64 (w64 (p0_0 * p0_1))), (55, .int .i64 s_23), (59, .int .i64 p0_2), (60, .int .i64 s_24)]) ⟨rfl, rfl, rfl, rfl, rfl, rfl, rfl, rfl, trivial⟩ (WK.cls (C' := St w0 m m [[⟨b2, 39, [.int .i64 p0_0, .int .i64 p0_1, .int .i64 p0_2, .slice a_p0_3 p0_3.length c_p0_3]⟩], L12, [⟨b14, 39, [.int .i64 y_3, .int .i64 y_4, .int .i64 y_5, .slice a9 ((y_6).length) c10]⟩], L22, L28, [⟨b30, 39, [.int .i64 y_19, .int .i64 y_20, .int .i64 y_21, .slice a35 ((y_22).length) c36]⟩], L38]) (fun _ h => h) ?_)
                      refine WK_seq ?_
                      refine WK_region ?_
                      refine WO_pure tbok 1 [(1, .pointer (some ⟨b2, 0, none⟩)), (2, .bool false), (6, .pointer (some ⟨b30, 0, none⟩)), (8, .int .i64 s_23), (54, .int .i64 (w64 (p0_0 * p0_1))), (55, .int .i64 s_23), (59, .int .i64 p0_2), (60, .int .i64 s_24), (61, .bool (decide (s_24 < p0_2)))] rfl ⟨rfl, rfl, rfl, rfl, rfl, rfl, rfl, rfl, rfl, trivial⟩ ?_
                      refine WO_end ?_
                      refine WK_seq ?_
                      refine WK_cond (b := decide (s_24 < p0_2)) rfl (fun hb59 => ?_) (fun hb59 => ?_)
                      · have hm53 := ifT hb59 hm53
                        refine WK_skip ?_
                        refine WK_seq ?_
                        refine WK_block ?_
                        refine WK_seq ?_
                        refine WK_region ?_
                        refine WO_pure tbok 2 [(1, .pointer (some ⟨b2, 0, none⟩)), (2, .bool false), (6, .pointer (some ⟨b30, 0, none⟩)), (8, .int .i64 s_23), (9, .int .i64 s_24), (54, .int .i64 (w64 (p0_0 * p0_1))), (55, .int .i64 s_23), (59, .int .i64 p0_2), (60, .int .i64 s_24)] rfl ⟨rfl, rfl, rfl, rfl, rfl, rfl, rfl, rfl, rfl, trivial⟩ ?_
                        refine WO_end ?_
                        refine WK_seq ?_
                        obtain ⟨s_25, hx60, hm53⟩ := bind_some hm53
                        refine WK_meet [(1, .pointer (some ⟨b2, 0, none⟩)), (2, .bool false), (6, .pointer (some ⟨b30, 0, none⟩)), (8, .int .i64 s_23), (54, .int .i64 (w64 (p0_0 * p0_1))), (55, .int .i64 s_23), (59, .int .i64 p0_2), (60, .int .i64 s_24), (91, .bool s_25)] (St w0 m m [[⟨b2, 39, [.int .i64 p0_0, .int .i64 p0_1, .int .i64 p0_2, .slice a_p0_3 p0_3.length c_p0_3]⟩], L12, [⟨b14, 39, [.int .i64 y_3, .int .i64 y_4, .int .i64 y_5, .slice a9 ((y_6).length) c10]⟩], L22, L28, [⟨b30, 39, [.int .i64 y_19, .int .i64 y_20, .int .i64 y_21, .slice a35 ((y_22).length) c36]⟩], L38]) ?_ (fun hk61 => ?_)
                        · refine WK_cond (b := s_25) rfl (fun hb62 => ?_) (fun hb62 => ?_)
                          · have hm53 := ifT hb62 hm53
                            refine WK_seq ?_
                            refine WK_region ?_
                            refine WO_pure tbok 1 [(1, .pointer (some ⟨b2, 0, none⟩)), (2, .bool false), (6, .pointer (some ⟨b30, 0, none⟩)), (8, .int .i64 s_23), (54, .int .i64 (w64 (p0_0 * p0_1))), (55, .int .i64 s_23), (59, .int .i64 p0_2), (60, .int .i64 s_24)] rfl ⟨rfl, rfl, rfl, rfl, rfl, rfl, rfl, rfl, trivial⟩ ?_
                            refine WO_end ?_
                            cases hm53
                            have hq := hd57 _ rfl
                            subst hq
                            have hm43 : some _ = some _ := hm43
                            cases hm43
                            have hq := hd47 _ rfl
                            subst hq
                            have hm : some _ = some _ := hm
                            cases hm
                            exact WK_ret (ret_out (L := []) (RLc_tmp rfl RLc_nil) (List.nil_sublist _) rfl)
                          · have hm53 := ifF hb62 hm53
                            refine WK_skip ?_
                            refine WK_blk ?_
                            refine WK_region ?_
                            refine WO_pure tbok 2 [(1, .pointer (some ⟨b2, 0, none⟩)), (2, .bool false), (6, .pointer (some ⟨b30, 0, none⟩)), (8, .int .i64 s_23), (54, .int .i64 (w64 (p0_0 * p0_1))), (55, .int .i64 s_23), (59, .int .i64 p0_2), (60, .int .i64 (w64 (s_24 + 1)))] rfl ⟨rfl, rfl, rfl, rfl, rfl, rfl, rfl, rfl, trivial⟩ ?_
                            refine WO_end ?_
                            cases hm53
                            refine WK.sub ?_ (WK.cls (fun _ h => h) (hn56 _ () rfl trivial))
                            exact ⟨rfl, rfl, rfl, rfl, rfl, rfl, rfl, rfl, trivial⟩
                        · refine WK_draw 29 [0, 1, 2, 3, 4, 5, 6, 7, 8, 9, 10, 11, 12, 13, 14, 15, 16, 17, 18, 19, 20, 21, 22, 23, 24, 25, 26, 27, 28] follows_ok (by kernel_rfl) St_closed ?_
                          refine WO_pure tbok 2 [(1, .pointer (some ⟨b2, 0, none⟩)), (2, .bool false), (6, .pointer (some ⟨b30, 0, none⟩)), (8, .int .i64 s_23), (9, .int .i64 s_24), (54, .int .i64 (w64 (p0_0 * p0_1))), (55, .int .i64 s_23), (59, .int .i64 p0_2), (60, .int .i64 s_24), (63, .int .i64 s_23), (64, .pointer (some ⟨b2, 0, none⟩))] rfl ⟨rfl, rfl, rfl, rfl, rfl, rfl, rfl, rfl, rfl, rfl, rfl, trivial⟩ ?_
                          refine WO_loadB tbok 0 rfl rfl rfl rfl (fun _ h => h) rfl rfl ?_
                          obtain ⟨hc63, hx60⟩ := chk_some hx60
                          refine WO_rem rfl rfl rfl rfl rfl hc63 ?_
                          refine WO_pure tbok 3 [(1, .pointer (some ⟨b2, 0, none⟩)), (2, .bool false), (6, .pointer (some ⟨b30, 0, none⟩)), (8, .int .i64 s_23), (9, .int .i64 s_24), (54, .int .i64 (w64 (p0_0 * p0_1))), (55, .int .i64 s_23), (59, .int .i64 p0_2), (60, .int .i64 s_24), (69, .bool (decide (s_24 ≤ (Int.tmod s_23 p0_0))))] rfl ⟨rfl, rfl, rfl, rfl, rfl, rfl, rfl, rfl, rfl, rfl, trivial⟩ ?_
                          refine WO_split (d := 69) (b := decide (s_24 ≤ (Int.tmod s_23 p0_0))) rfl (fun hb64 => ?_) (fun hb64 => ?_)
                          · have hx60 := ifT hb64 hx60
                            refine WO_pure tbok 1 [(1, .pointer (some ⟨b2, 0, none⟩)), (2, .bool false), (6, .pointer (some ⟨b30, 0, none⟩)), (8, .int .i64 s_23), (9, .int .i64 s_24), (54, .int .i64 (w64 (p0_0 * p0_1))), (55, .int .i64 s_23), (59, .int .i64 p0_2), (60, .int .i64 s_24), (69, .bool true), (70, .pointer (some ⟨b30, 3, none⟩))] rfl ⟨rfl, rfl, rfl, rfl, rfl, rfl, rfl, rfl, rfl, rfl, rfl, trivial⟩ ?_
                            refine WO_loadB tbok 5 rfl rfl rfl rfl (fun _ h => h) rfl rfl ?_
                            refine WO_pure tbok 2 [(1, .pointer (some ⟨b2, 0, none⟩)), (2, .bool false), (6, .pointer (some ⟨b30, 0, none⟩)), (8, .int .i64 s_23), (9, .int .i64 s_24), (54, .int .i64 (w64 (p0_0 * p0_1))), (55, .int .i64 s_23), (59, .int .i64 p0_2), (60, .int .i64 s_24), (69, .bool true), (71, .slice a35 ((y_22).length) c36), (72, .int .i64 s_23), (73, .pointer (some ⟨b2, 2, none⟩))] rfl ⟨rfl, rfl, rfl, rfl, rfl, rfl, rfl, rfl, rfl, rfl, rfl, rfl, rfl, trivial⟩ ?_
                            refine WO_loadB tbok 0 rfl rfl rfl rfl (fun _ h => h) rfl rfl ?_
                            refine WO_pure tbok 3 [(1, .pointer (some ⟨b2, 0, none⟩)), (2, .bool false), (6, .pointer (some ⟨b30, 0, none⟩)), (8, .int .i64 s_23), (9, .int .i64 s_24), (54, .int .i64 (w64 (p0_0 * p0_1))), (55, .int .i64 s_23), (59, .int .i64 p0_2), (60, .int .i64 s_24), (69, .bool true), (71, .slice a35 ((y_22).length) c36), (77, .int .i64 (w64 ((w64 (s_23 * p0_2)) + s_24)))] rfl ⟨rfl, rfl, rfl, rfl, rfl, rfl, rfl, rfl, rfl, rfl, rfl, rfl, trivial⟩ ?_
                            obtain ⟨v_26, hy65, hx60⟩ := bind_some hx60
                            obtain ⟨hc66, hy65⟩ := ix_some hy65
                            refine WO_index tbok rfl rfl rfl rfl rfl rfl rfl rfl (OwnE.addr hL38) (by simpa using hc66) ?_
                            refine WO_loadO (E := (I1 .i64)) tbok (fun _ => rfl) 6 rfl rfl rfl rfl (fun _ h => h) hL38 rfl hy65 rfl ?_
                            refine WO_pure tbok 1 [(1, .pointer (some ⟨b2, 0, none⟩)), (2, .bool false), (6, .pointer (some ⟨b30, 0, none⟩)), (8, .int .i64 s_23), (9, .int .i64 s_24), (54, .int .i64 (w64 (p0_0 * p0_1))), (55, .int .i64 s_23), (59, .int .i64 p0_2), (60, .int .i64 s_24), (69, .bool true), (79, .int .i64 v_26), (80, .pointer (some ⟨b2, 3, none⟩))] rfl ⟨rfl, rfl, rfl, rfl, rfl, rfl, rfl, rfl, rfl, rfl, rfl, rfl, trivial⟩ ?_
                            refine WO_loadB tbok 0 rfl rfl rfl rfl (fun _ h => h) rfl rfl ?_
                            refine WO_pure tbok 2 [(1, .pointer (some ⟨b2, 0, none⟩)), (2, .bool false), (6, .pointer (some ⟨b30, 0, none⟩)), (8, .int .i64 s_23), (9, .int .i64 s_24), (54, .int .i64 (w64 (p0_0 * p0_1))), (55, .int .i64 s_23), (59, .int .i64 p0_2), (60, .int .i64 s_24), (69, .bool true), (79, .int .i64 v_26), (81, .slice a_p0_3 p0_3.length c_p0_3), (82, .int .i64 s_23), (83, .pointer (some ⟨b2, 2, none⟩))] rfl ⟨rfl, rfl, rfl, rfl, rfl, rfl, rfl, rfl, rfl, rfl, rfl, rfl, rfl, rfl, trivial⟩ ?_
                            refine WO_loadB tbok 0 rfl rfl rfl rfl (fun _ h => h) rfl rfl ?_
                            refine WO_pure tbok 3 [(1, .pointer (some ⟨b2, 0, none⟩)), (2, .bool false), (6, .pointer (some ⟨b30, 0, none⟩)), (8, .int .i64 s_23), (54, .int .i64 (w64 (p0_0 * p0_1))), (55, .int .i64 s_23), (59, .int .i64 p0_2), (60, .int .i64 s_24), (69, .bool true), (79, .int .i64 v_26), (81, .slice a_p0_3 p0_3.length c_p0_3), (87, .int .i64 (w64 ((w64 (s_23 * p0_2)) + s_24)))] rfl ⟨rfl, rfl, rfl, rfl, rfl, rfl, rfl, rfl, rfl, rfl, rfl, rfl, trivial⟩ ?_
                            obtain ⟨v_27, hy67, hx60⟩ := bind_some hx60
                            obtain ⟨hc68, hy67⟩ := ix_some hy67
                            refine WO_index tbok rfl rfl rfl rfl rfl rfl rfl rfl (SlR.addr h_p0_3) hc68 ?_
                            refine WO_loadE tbok rfl rfl rfl rfl (fun _ h => St.sat h) h_p0_3 hy67 rfl ?_
                            refine WO_pure tbok 2 [(1, .pointer (some ⟨b2, 0, none⟩)), (2, .bool false), (6, .pointer (some ⟨b30, 0, none⟩)), (8, .int .i64 s_23), (54, .int .i64 (w64 (p0_0 * p0_1))), (55, .int .i64 s_23), (59, .int .i64 p0_2), (60, .int .i64 s_24), (91, .bool (v_26 != v_27))] rfl ⟨rfl, rfl, rfl, rfl, rfl, rfl, rfl, rfl, rfl, trivial⟩ ?_
                            refine WO_tail ?_
                            refine WO_end ?_
                            cases hx60
                            refine WK.sub ?_ (WK.cls (fun _ h => h) hk61)
                            exact ⟨rfl, rfl, rfl, rfl, rfl, rfl, rfl, rfl, rfl, trivial⟩
                          · have hx60 := ifF hb64 hx60
                            refine WO_pure tbok 22 [(1, .pointer (some ⟨b2, 0, none⟩)), (2, .bool false), (6, .pointer (some ⟨b30, 0, none⟩)), (8, .int .i64 s_23), (54, .int .i64 (w64 (p0_0 * p0_1))), (55, .int .i64 s_23), (59, .int .i64 p0_2), (60, .int .i64 s_24), (91, .bool false)] rfl ⟨rfl, rfl, rfl, rfl, rfl, rfl, rfl, rfl, rfl, trivial⟩ ?_
                            refine WO_tail ?_
                            refine WO_end ?_
                            cases hx60
                            refine WK.sub ?_ (WK.cls (fun _ h => h) hk61)
                            exact ⟨rfl, rfl, rfl, rfl, rfl, rfl, rfl, rfl, rfl, trivial⟩
                      · have hm53 := ifF hb59 hm53
                        refine WK_exit rfl ?_
                        cases hm53
                        refine WK.sub ?_ (WK.cls (fun _ h => h) (hk52 ((), ()) (hd57 _ rfl)))
                        exact ⟨rfl, rfl, rfl, rfl, rfl, trivial⟩
                  · have hm43 := ifF hb49 hm43
                    refine WK_exit rfl ?_
                    cases hm43
                    refine WK.sub ?_ (WK.cls (fun _ h => h) (hk42 ((), ()) (hd47 _ rfl)))
                    exact ⟨rfl, trivial⟩
            · refine WK_region ?_
              refine WO_pure tbok 3 [(1, .pointer (some ⟨b2, 0, none⟩)), (2, .bool false), (3, .func (.func 32) #[] #[]), (6, .pointer (some ⟨b30, 0, none⟩)), (42, .bool (y_17 != 0))] rfl ⟨rfl, rfl, rfl, rfl, rfl, trivial⟩ ?_
              refine WO_split (d := 42) (b := y_17 != 0) rfl (fun hb69 => ?_) (fun hb69 => ?_)
              · have hx31 := ifT hb69 hx31
                refine WO_pure tbok 1 [(1, .pointer (some ⟨b2, 0, none⟩)), (2, .bool false), (3, .func (.func 32) #[] #[]), (6, .pointer (some ⟨b30, 0, none⟩)), (42, .bool true)] rfl ⟨rfl, rfl, rfl, rfl, rfl, trivial⟩ ?_
                refine WO_skip rfl rfl ?_
                refine WO_pure tbok 2 [(1, .pointer (some ⟨b2, 0, none⟩)), (2, .bool false), (3, .func (.func 32) #[] #[]), (6, .pointer (some ⟨b30, 0, none⟩)), (46, .bool true)] rfl ⟨rfl, rfl, rfl, rfl, rfl, trivial⟩ ?_
                refine WO_end ?_
                cases hx31
                refine WK.sub ?_ (WK.cls (fun _ h => h) hk32)
                exact ⟨rfl, rfl, rfl, rfl, rfl, trivial⟩
              · have hx31 := ifF hb69 hx31
                refine WO_loadB tbok 5 rfl rfl rfl rfl (fun _ h => h) rfl rfl ?_
                obtain ⟨y_28, hc70, hx31⟩ := bind_some hx31
                refine WO_call0 (.bool y_28) rfl rfl trivial rfl rfl rfl rfl St_closed ⟨29, #[], #[], rfl, callable_29, fun w hw => ⟨_, hw.satV, fiduciallaw44_valid_walk (OwnE.rd (E := (I1 .i64)) (k := 1) (fun _ => rfl) hL28 (fun _ hx => hw.memV (i := 4) rfl hx)) hc70⟩⟩ ?_
                refine WO_pure tbok 2 [(1, .pointer (some ⟨b2, 0, none⟩)), (2, .bool false), (3, .func (.func 32) #[] #[]), (6, .pointer (some ⟨b30, 0, none⟩)), (46, .bool (!y_28))] rfl ⟨rfl, rfl, rfl, rfl, rfl, trivial⟩ ?_
                refine WO_end ?_
                cases hx31
                refine WK.sub ?_ (WK.cls (fun _ h => h) hk32)
                exact ⟨rfl, rfl, rfl, rfl, rfl, trivial⟩
        · refine WK_region ?_
          refine WO_pure tbok 3 [(1, .pointer (some ⟨b2, 0, none⟩)), (2, .bool false), (3, .func (.func 32) #[] #[]), (4, .pointer (some ⟨b14, 0, none⟩)), (28, .bool (y_7 != 0))] rfl ⟨rfl, rfl, rfl, rfl, rfl, trivial⟩ ?_
          refine WO_split (d := 28) (b := y_7 != 0) rfl (fun hb71 => ?_) (fun hb71 => ?_)
          · have hx15 := ifT hb71 hx15
            refine WO_pure tbok 1 [(1, .pointer (some ⟨b2, 0, none⟩)), (2, .bool false), (3, .func (.func 32) #[] #[]), (4, .pointer (some ⟨b14, 0, none⟩)), (28, .bool true)] rfl ⟨rfl, rfl, rfl, rfl, rfl, trivial⟩ ?_
            refine WO_skip rfl rfl ?_
            refine WO_pure tbok 2 [(1, .pointer (some ⟨b2, 0, none⟩)), (2, .bool false), (3, .func (.func 32) #[] #[]), (4, .pointer (some ⟨b14, 0, none⟩)), (32, .bool true)] rfl ⟨rfl, rfl, rfl, rfl, rfl, trivial⟩ ?_
            refine WO_end ?_
            cases hx15
            refine WK.sub ?_ (WK.cls (fun _ h => h) hk16)
            exact ⟨rfl, rfl, rfl, rfl, rfl, trivial⟩
          · have hx15 := ifF hb71 hx15
            refine WO_loadB tbok 2 rfl rfl rfl rfl (fun _ h => h) rfl rfl ?_
            obtain ⟨y_29, hc72, hx15⟩ := bind_some hx15
            refine WO_call0 (.bool y_29) rfl rfl trivial rfl rfl rfl rfl St_closed ⟨29, #[], #[], rfl, callable_29, fun w hw => ⟨_, hw.satV, fiduciallaw44_valid_walk (OwnE.rd (E := (I1 .i64)) (k := 1) (fun _ => rfl) hL12 (fun _ hx => hw.memV (i := 1) rfl hx)) hc72⟩⟩ ?_
            refine WO_pure tbok 2 [(1, .pointer (some ⟨b2, 0, none⟩)), (2, .bool false), (3, .func (.func 32) #[] #[]), (4, .pointer (some ⟨b14, 0, none⟩)), (32, .bool (!y_29))] rfl ⟨rfl, rfl, rfl, rfl, rfl, trivial⟩ ?_
            refine WO_end ?_
            cases hx15
            refine WK.sub ?_ (WK.cls (fun _ h => h) hk16)
            exact ⟨rfl, rfl, rfl, rfl, rfl, trivial⟩
    · refine WK_region ?_
      refine WO_pure tbok 1 [(1, .pointer (some ⟨b2, 0, none⟩)), (2, .bool false), (12, .pointer (some ⟨b2, 3, none⟩))] rfl ⟨rfl, rfl, rfl, trivial⟩ ?_
      refine WO_loadB tbok 0 rfl rfl rfl rfl (fun _ h => h) rfl rfl ?_
      refine WO_pure tbok 3 [(1, .pointer (some ⟨b2, 0, none⟩)), (2, .bool false), (16, .bool (decide (600 < (p0_3.length : Int))))] rfl ⟨rfl, rfl, rfl, trivial⟩ ?_
      refine WO_split (d := 16) (b := decide (600 < (p0_3.length : Int))) rfl (fun hb73 => ?_) (fun hb73 => ?_)
      · have hx5 := ifT hb73 hx5
        refine WO_pure tbok 1 [(1, .pointer (some ⟨b2, 0, none⟩)), (2, .bool false), (16, .bool true)] rfl ⟨rfl, rfl, rfl, trivial⟩ ?_
        refine WO_skip rfl rfl ?_
        refine WO_pure tbok 2 [(1, .pointer (some ⟨b2, 0, none⟩)), (2, .bool false), (20, .bool true)] rfl ⟨rfl, rfl, rfl, trivial⟩ ?_
        refine WO_end ?_
        cases hx5
        refine WK.sub ?_ (WK.cls (fun _ h => h) hk6)
        exact ⟨rfl, rfl, rfl, trivial⟩
      · have hx5 := ifF hb73 hx5
        refine WO_loadB tbok 0 rfl rfl rfl rfl (fun _ h => h) rfl rfl ?_
        obtain ⟨y_30, hc74, hx5⟩ := bind_some hx5
        refine WO_call0 (.bool y_30) rfl rfl trivial rfl rfl rfl rfl St_closed ⟨29, #[], #[], rfl, callable_29, fun w hw => ⟨_, hw.sat, fiduciallaw44_valid_walk h_p0_3 hc74⟩⟩ ?_
        refine WO_pure tbok 2 [(1, .pointer (some ⟨b2, 0, none⟩)), (2, .bool false), (20, .bool (!y_30))] rfl ⟨rfl, rfl, rfl, trivial⟩ ?_
        refine WO_end ?_
        cases hx5
        refine WK.sub ?_ (WK.cls (fun _ h => h) hk6)
        exact ⟨rfl, rfl, rfl, trivial⟩
theorem slices_Chunk_c1_sint_walk {m : Mu} {p0 : List Int → Option Bool} {q0_0 : List Int} {q1_0 : Int} {p0v : Value} {a_q0_0 : Option Addr} {q_q0_0 c_q0_0 : Nat} {b_q0 : Nat} {b_q1 : Nat} (hp0 : ∀ (m1 : Mu), Le m m1 → ∀ (au1 : Option Addr) (qu1 cu1 : Nat) (u1 : List Int), SlR (FE (I1 .i64)) 1 m1 (.slice au1 qu1 cu1) u1 → ∀ (r : Bool), p0 u1 = some r → SpecV Try.prog p0v [.slice au1 qu1 cu1] m1 (fun v _ _ => v = .bool r)) (hb_q0 : m b_q0 = some (Ent.obj ⟨b_q0, 22, [.slice a_q0_0 q_q0_0 c_q0_0]⟩)) (h_q0_0 : SlR (FE (I1 .i64)) 1 m (.slice a_q0_0 q_q0_0 c_q0_0) q0_0) (hb_q1 : m b_q1 = some (Ent.obj ⟨b_q1, 3, [.int .i64 q1_0]⟩)) {r : Unit} (hm : slices_Chunk_c1_sint p0 q0_0 q1_0 = some r) :
    Go.E.Spec Try.prog 52 [p0v, .pointer (some ⟨b_q0, 0, none⟩), .pointer (some ⟨b_q1, 0, none⟩)] m (fun v _ _ => v = .tuple #[]) := by
  refine Spec_enter Try.func52 rfl rfl rfl (fun w0 => ?_)
  refine WK.sub (e' := [(0, p0v), (1, .pointer (some ⟨b_q0, 0, none⟩)), (2, .pointer (some ⟨b_q1, 0, none⟩))]) ⟨rfl, rfl, rfl, trivial⟩ ?_
  obtain rfl := SlR.qlen h_q0_0
  refine WK.sub (e' := [(0, p0v), (1, .pointer (some ⟨b_q0, 0, none⟩)), (2, .pointer (some ⟨b_q1, 0, none⟩))]) ⟨rfl, rfl, rfl, trivial⟩ ?_
  unfold slices_Chunk_c1_sint at hm
  refine WK_seq ?_
  refine WK_region ?_
  refine WO_pure tbok 1 [(0, p0v), (1, .pointer (some ⟨b_q0, 0, none⟩)), (2, .pointer (some ⟨b_q1, 0, none⟩)), (4, .int .i64 0)] rfl ⟨rfl, rfl, rfl, rfl, trivial⟩ ?_
  refine WO_end ?_
  obtain ⟨x2, hx3, hm⟩ := bind_some hm
  refine WK_join (β := Unit × Unit) (fun p => Sum.inr p.1 = x2) (fun p => []) (fun p => St w0 m m []) ?_ (fun hk4 => ?_)
  · rintro ⟨⟨⟩, ⟨⟩⟩ hq10
    subst hq10
    refine WK.sub (e' := []) trivial (WK.cls (C' := St w0 m m []) (fun _ h => h) ?_)
    cases hm
    exact WK_nil (ret_out (L := []) RLc_nil (List.nil_sublist _) rfl)
  · refine WK_block ?_
    refine WK_loop (S := Int) (G := Unit) (fun s => slices_Chunk_c1_sint_s1 p0 q0_0 q1_0 s) (fun s g => [(0, p0v), (1, .pointer (some ⟨b_q0, 0, none⟩)), (2, .pointer (some ⟨b_q1, 0, none⟩)), (4, .int .i64 s)]) (fun s g => St w0 m m []) (fun s g => True) FUEL 0 () x2 hx3 trivial ⟨rfl, rfl, rfl, rfl, trivial⟩ (fun _ h => h) ?_
    rintro s_1 ⟨⟩ o6 fl7 hm5 - hn8 hd9
    have hm5 : slices_Chunk_c1_sint_s1 p0 q0_0 q1_0 s_1 = some o6 := hm5
    unfold slices_Chunk_c1_sint_s1 at hm5
    refine WK.sub (e' := [(0, p0v), (1, .pointer (some ⟨b_q0, 0, none⟩)), (2, .pointer (some ⟨b_q1, 0, none⟩)), (4, .int .i64 s_1)]) ⟨rfl, rfl, rfl, rfl, trivial⟩ (WK.cls (C' := St w0 m m []) (fun _ h => h) ?_)
    refine WK_seq ?_
    refine WK_seq ?_
    refine WK_region ?_
    refine WO_pure tbok 1 [(0, p0v), (1, .pointer (some ⟨b_q0, 0, none⟩)), (2, .pointer (some ⟨b_q1, 0, none⟩)), (4, .int .i64 s_1), (6, .int .i64 s_1)] rfl ⟨rfl, rfl, rfl, rfl, rfl, trivial⟩ ?_
    refine WO_loadM tbok rfl rfl rfl rfl (fun _ h => St.sat h) hb_q0 rfl ?_
    refine WO_pure tbok 2 [(0, p0v), (1, .pointer (some ⟨b_q0, 0, none⟩)), (2, .pointer (some ⟨b_q1, 0, none⟩)), (4, .int .i64 s_1), (9, .bool (decide (s_1 < (q0_0.length : Int))))] rfl ⟨rfl, rfl, rfl, rfl, rfl, trivial⟩ ?_
    refine WO_end ?_
    refine WK_cond (b := decide (s_1 < (q0_0.length : Int))) rfl (fun hb11 => ?_) (fun hb11 => ?_)
    · have hm5 := ifT hb11 hm5
      refine WK_skip ?_
      refine WK_seq ?_
      refine WK_block ?_
      refine WK_seq ?_
      refine WK_draw 7 [0, 1, 2, 3, 4, 5, 6] follows_ok (by kernel_rfl) St_closed ?_
      refine WO_loadM tbok rfl rfl rfl rfl (fun _ h => St.sat h) hb_q1 rfl ?_
      refine WO_loadM tbok rfl rfl rfl rfl (fun _ h => St.sat h) hb_q0 rfl ?_
      refine WO_pure tbok 1 [(0, p0v), (1, .pointer (some ⟨b_q0, 0, none⟩)), (2, .pointer (some ⟨b_q1, 0, none⟩)), (4, .int .i64 s_1), (13, .int .i64 q1_0), (14, .slice a_q0_0 q0_0.length c_q0_0), (15, .int .i64 s_1)] rfl ⟨rfl, rfl, rfl, rfl, rfl, rfl, rfl, trivial⟩ ?_
      obtain ⟨hc12, hm5⟩ := chk_some hm5
      have hc12 : 0 ≤ (s_1 : Int) ∧ (s_1 : Int) ≤ (q0_0.length : Int) ∧ (q0_0.length : Int) ≤ (q0_0.length : Int) := hc12
      have hz16 : SlR (FE (I1 .i64)) 1 m (.slice a_q0_0 q0_0.length c_q0_0) q0_0 := h_q0_0
      refine WO_slice tbok (some (s_1 : Int)) none none (s_1 : Int).toNat q0_0.length rfl rfl rfl rfl rfl rfl rfl rfl rfl rfl rfl hz16 (by simp only [Option.getD_some] <;> omega) (by have := SlR.qlen hz16; simp only [Option.getD_none] <;> omega) (fun q hq => by cases hq) (by omega) (by omega) (fun hh => by cases hh) (fun a13 c14 h15 => ?_)
      refine WO_pure tbok 3 [(0, p0v), (1, .pointer (some ⟨b_q0, 0, none⟩)), (2, .pointer (some ⟨b_q1, 0, none⟩)), (4, .int .i64 s_1), (5, .int .i64 (if (((q0_0.take q0_0.length).drop (s_1 : Int).toNat).length : Int) < q1_0 then (((q0_0.take q0_0.length).drop (s_1 : Int).toNat).length : Int) else q1_0))] rfl ⟨rfl, rfl, rfl, rfl, rfl, trivial⟩ ?_
      refine WO_tail ?_
      refine WO_end ?_
      refine WK_seq ?_
      refine WK_region ?_
      refine WO_pure tbok 1 [(0, p0v), (1, .pointer (some ⟨b_q0, 0, none⟩)), (2, .pointer (some ⟨b_q1, 0, none⟩)), (4, .int .i64 s_1), (5, .int .i64 (if (((q0_0.take q0_0.length).drop (s_1 : Int).toNat).length : Int) < q1_0 then (((q0_0.take q0_0.length).drop (s_1 : Int).toNat).length : Int) else q1_0)), (19, p0v)] rfl ⟨rfl, rfl, rfl, rfl, rfl, rfl, trivial⟩ ?_
      refine WO_loadM tbok rfl rfl rfl rfl (fun _ h => St.sat h) hb_q0 rfl ?_
      refine WO_pure tbok 7 [(0, p0v), (1, .pointer (some ⟨b_q0, 0, none⟩)), (2, .pointer (some ⟨b_q1, 0, none⟩)), (4, .int .i64 s_1), (19, p0v), (20, .slice a_q0_0 q0_0.length c_q0_0), (21, .int .i64 s_1), (24, .int .i64 (w64 (s_1 + (if (((q0_0.take q0_0.length).drop (s_1 : Int).toNat).length : Int) < q1_0 then (((q0_0.take q0_0.length).drop (s_1 : Int).toNat).length : Int) else q1_0)))), (27, .int .i64 (w64 (s_1 + (if (((q0_0.take q0_0.length).drop (s_1 : Int).toNat).length : Int) < q1_0 then (((q0_0.take q0_0.length).drop (s_1 : Int).toNat).length : Int) else q1_0))))] rfl ⟨rfl, rfl, rfl, rfl, rfl, rfl, rfl, rfl, rfl, trivial⟩ ?_
      obtain ⟨hc18, hm5⟩ := chk_some hm5
      have hc18 : 0 ≤ (s_1 : Int) ∧ (s_1 : Int) ≤ (w64 (s_1 + (if (((q0_0.take q0_0.length).drop (s_1 : Int).toNat).length : Int) < q1_0 then (((q0_0.take q0_0.length).drop (s_1 : Int).toNat).length : Int) else q1_0)) : Int) ∧ (w64 (s_1 + (if (((q0_0.take q0_0.length).drop (s_1 : Int).toNat).length : Int) < q1_0 then (((q0_0.take q0_0.length).drop (s_1 : Int).toNat).length : Int) else q1_0)) : Int) ≤ (w64 (s_1 + (if (((q0_0.take q0_0.length).drop (s_1 : Int).toNat).length : Int) < q1_0 then (((q0_0.take q0_0.length).drop (s_1 : Int).toNat).length : Int) else q1_0)) : Int) ∧ (w64 (s_1 + (if (((q0_0.take q0_0.length).drop (s_1 : Int).toNat).length : Int) < q1_0 then (((q0_0.take q0_0.length).drop (s_1 : Int).toNat).length : Int) else q1_0)) : Int) ≤ (q0_0.length : Int) := hc18
      have hz22 : SlR (FE (I1 .i64)) 1 m (.slice a_q0_0 q0_0.length c_q0_0) q0_0 := h_q0_0
      refine WO_slice tbok (some (s_1 : Int)) (some (w64 (s_1 + (if (((q0_0.take q0_0.length).drop (s_1 : Int).toNat).length : Int) < q1_0 then (((q0_0.take q0_0.length).drop (s_1 : Int).toNat).length : Int) else q1_0)) : Int)) (some (w64 (s_1 + (if (((q0_0.take q0_0.length).drop (s_1 : Int).toNat).length : Int) < q1_0 then (((q0_0.take q0_0.length).drop (s_1 : Int).toNat).length : Int) else q1_0)) : Int)) (s_1 : Int).toNat (w64 (s_1 + (if (((q0_0.take q0_0.length).drop (s_1 : Int).toNat).length : Int) < q1_0 then (((q0_0.take q0_0.length).drop (s_1 : Int).toNat).length : Int) else q1_0)) : Int).toNat rfl rfl rfl rfl rfl rfl rfl rfl rfl rfl rfl hz22 (by simp only [Option.getD_some] <;> omega) (by simp only [Option.getD_some] <;> omega) (fun q hq => by cases hq; omega) (by omega) (by omega) (fun _ => rfl) (fun a19 c20 h21 => ?_)
      obtain ⟨y_2, hc24, hm5⟩ := bind_some hm5
      obtain ⟨f0, first0, cap0, hf0, hcal0, hsp0⟩ := hp0 _ (Le.refl _) _ _ _ ((q0_0.take (w64 (s_1 + (if (((q0_0.take q0_0.length).drop (s_1 : Int).toNat).length : Int) < q1_0 then (((q0_0.take q0_0.length).drop (s_1 : Int).toNat).length : Int) else q1_0)) : Int).toNat).drop (s_1 : Int).toNat) h21 _ hc24
      refine WO_call0 (.bool y_2) rfl rfl trivial rfl rfl rfl rfl St_closed ⟨f0, first0, cap0, hf0, hcal0, fun w hw => ⟨m, hw.sat, hsp0⟩⟩ ?_
      refine WO_pure tbok 1 [(0, p0v), (1, .pointer (some ⟨b_q0, 0, none⟩)), (2, .pointer (some ⟨b_q1, 0, none⟩)), (4, .int .i64 s_1), (30, .bool (!y_2))] rfl ⟨rfl, rfl, rfl, rfl, rfl, trivial⟩ ?_
      refine WO_end ?_
      refine WK_cond (b := !y_2) rfl (fun hb25 => ?_) (fun hb25 => ?_)
      · have hm5 := ifT hb25 hm5
        cases hm5
        have hq := hd9 _ rfl
        subst hq
        have hm : some _ = some _ := hm
        cases hm
        exact WK_ret (ret_out (L := []) RLc_nil (List.nil_sublist _) rfl)
      · have hm5 := ifF hb25 hm5
        refine WK_skip ?_
        refine WK_blk ?_
        refine WK_region ?_
        refine WO_pure tbok 1 [(0, p0v), (1, .pointer (some ⟨b_q0, 0, none⟩)), (2, .pointer (some ⟨b_q1, 0, none⟩)), (4, .int .i64 s_1), (10, .int .i64 s_1)] rfl ⟨rfl, rfl, rfl, rfl, rfl, trivial⟩ ?_
        refine WO_loadM tbok rfl rfl rfl rfl (fun _ h => St.sat h) hb_q1 rfl ?_
        refine WO_pure tbok 2 [(0, p0v), (1, .pointer (some ⟨b_q0, 0, none⟩)), (2, .pointer (some ⟨b_q1, 0, none⟩)), (4, .int .i64 (w64 (s_1 + q1_0)))] rfl ⟨rfl, rfl, rfl, rfl, trivial⟩ ?_
        refine WO_end ?_
        cases hm5
        refine WK.sub ?_ (WK.cls (fun _ h => h) (hn8 _ () rfl trivial))
        exact ⟨rfl, rfl, rfl, rfl, trivial⟩
    · have hm5 := ifF hb11 hm5
      refine WK_exit rfl ?_
      cases hm5
      refine WK.sub ?_ (WK.cls (fun _ h => h) (hk4 ((), ()) (hd9 _ rfl)))
      exact trivial
end Go.Proofs.Ytmeopehknkfnbaa
