import Derived.Test.YtcaeieofjchpjaaTab
import Derived.Test.YtcaeieofjchpjaaM
import Derived.Test.YtcaeieofjchpjaaW1
set_option linter.unusedVariables false
set_option maxRecDepth 100000
set_option maxHeartbeats 4000000
namespace Go.Proofs.Ytcaeieofjchpjaa
open Go.E Go.RowKit
attribute [local irreducible] Go.E.WO Go.E.WK
def terrain_Ground_Q (r : List Bool × Int) : Value → List Ent → Prop := fun v L => ∃ (a0 : Option Addr) (q0 c0 : Nat), v = .tuple #[.slice a0 q0 c0, .int .i64 r.2] ∧ OwnE 4 1 B1 (.slice a0 q0 c0) r.1 L
theorem terrain_Ground_walk {m : Mu} {p0_0 : Int} {p0_1 : Int} {p0_2 : Int} {p0_3 : Int} {p0_4 : Int} {p0_5 : List Int} {p1 : List Int} {p2 : List Int} {a_p0_5 : Option Addr} {q_p0_5 c_p0_5 : Nat} {a_p1 : Option Addr} {q_p1 c_p1 : Nat} {a_p2 : Option Addr} {q_p2 c_p2 : Nat} (h_p0_5 : SlR (FE (I1 .i64)) 1 m (.slice a_p0_5 q_p0_5 c_p0_5) p0_5) (h_p1 : SlR (FE (I1 .i64)) 1 m (.slice a_p1 q_p1 c_p1) p1) (h_p2 : SlR (FE (I1 .i64)) 1 m (.slice a_p2 q_p2 c_p2) p2) {r : List Bool × Int} (hm : terrain_Ground p0_0 p0_1 p0_2 p0_3 p0_4 p0_5 p1 p2 = some r) :
    Go.E.Spec Try.prog 18 [.agg #[.int .i64 p0_0, .int .i64 p0_1, .int .i64 p0_2, .int .i64 p0_3, .int .i64 p0_4, .slice a_p0_5 q_p0_5 c_p0_5], .slice a_p1 q_p1 c_p1, .slice a_p2 q_p2 c_p2] m (fun v _ L => terrain_Ground_Q r v L) := by
  refine Spec_enter Try.func18 rfl rfl rfl (fun w0 => ?_)
  refine WK.sub (e' := [(0, .agg #[.int .i64 p0_0, .int .i64 p0_1, .int .i64 p0_2, .int .i64 p0_3, .int .i64 p0_4, .slice a_p0_5 q_p0_5 c_p0_5]), (1, .slice a_p1 q_p1 c_p1), (2, .slice a_p2 q_p2 c_p2)]) ⟨rfl, rfl, rfl, trivial⟩ ?_
  obtain rfl := SlR.qlen h_p0_5
  obtain rfl := SlR.qlen h_p1
  obtain rfl := SlR.qlen h_p2
  refine WK.sub (e' := [(0, .agg #[.int .i64 p0_0, .int .i64 p0_1, .int .i64 p0_2, .int .i64 p0_3, .int .i64 p0_4, .slice a_p0_5 p0_5.length c_p0_5]), (1, .slice a_p1 p1.length c_p1), (2, .slice a_p2 p2.length c_p2)]) ⟨rfl, rfl, rfl, trivial⟩ ?_
  unfold terrain_Ground at hm
  refine WK_seq ?_
  refine WK_region ?_
  refine WO_box [.int .i64 p0_0, .int .i64 p0_1, .int .i64 p0_2, .int .i64 p0_3, .int .i64 p0_4, .slice a_p0_5 p0_5.length c_p0_5] rfl rfl trivial rfl rfl rfl (fun b4 => ?_)
  refine WO.cls (C' := St w0 m m [[⟨b4, 25, [.int .i64 p0_0, .int .i64 p0_1, .int .i64 p0_2, .int .i64 p0_3, .int .i64 p0_4, .slice a_p0_5 p0_5.length c_p0_5]⟩]]) (fun _ h => h) ?_
  refine WO_pure tbok 2 [(1, .slice a_p1 p1.length c_p1), (2, .slice a_p2 p2.length c_p2), (3, .pointer (some ⟨b4, 0, none⟩)), (6, .slice none 0 0), (7, .int .i64 0)] rfl ⟨rfl, rfl, rfl, rfl, rfl, trivial⟩ ?_
  refine WO_end ?_
  refine WK_seq ?_
  refine WK_seq ?_
  refine WK_region ?_
  refine WO_loadB tbok 0 rfl rfl rfl rfl (fun _ h => h) rfl rfl ?_
  obtain ⟨y_1, hc5, hm⟩ := bind_some hm
  refine WO_call0 (.int .i64 y_1) rfl rfl trivial rfl rfl rfl rfl St_closed ⟨16, #[], #[], rfl, callable_16, fun w hw => ⟨_, hw.sat, terrain_Check_walk h_p0_5 hc5⟩⟩ ?_
  refine WO_pure tbok 1 [(1, .slice a_p1 p1.length c_p1), (2, .slice a_p2 p2.length c_p2), (3, .pointer (some ⟨b4, 0, none⟩)), (6, .slice none 0 0), (7, .int .i64 0), (8, .int .i64 y_1)] rfl ⟨rfl, rfl, rfl, rfl, rfl, rfl, trivial⟩ ?_
  refine WO_end ?_
  refine WK_seq ?_
  refine WK_region ?_
  refine WO_pure tbok 2 [(1, .slice a_p1 p1.length c_p1), (2, .slice a_p2 p2.length c_p2), (3, .pointer (some ⟨b4, 0, none⟩)), (6, .slice none 0 0), (7, .int .i64 0), (8, .int .i64 y_1), (23, .bool (y_1 != 0))] rfl ⟨rfl, rfl, rfl, rfl, rfl, rfl, rfl, trivial⟩ ?_
  refine WO_end ?_
  refine WK_cond (b := y_1 != 0) rfl (fun hb6 => ?_) (fun hb6 => ?_)
  · have hm := ifT hb6 hm
    refine WK_seq ?_
    refine WK_region ?_
    refine WO_pure tbok 3 [(1, .slice a_p1 p1.length c_p1), (2, .slice a_p2 p2.length c_p2), (3, .pointer (some ⟨b4, 0, none⟩)), (6, .slice none 0 0), (7, .int .i64 y_1)] rfl ⟨rfl, rfl, rfl, rfl, rfl, trivial⟩ ?_
    refine WO_end ?_
    cases hm
    exact WK_ret (ret_out (L := []) (RLc_tmp rfl (RLc_tmp rfl RLc_nil)) (List.nil_sublist _) ⟨none, 0, 0, rfl, (OwnE.nil none)⟩)
  · have hm := ifF hb6 hm
    refine WK_skip ?_
    refine WK_seq ?_
    refine WK_seq ?_
    refine WK_region ?_
    refine WO_pure tbok 5 [(1, .slice a_p1 p1.length c_p1), (2, .slice a_p2 p2.length c_p2), (3, .pointer (some ⟨b4, 0, none⟩)), (6, .slice none 0 0), (7, .int .i64 0), (29, .bool ((p1.length : Int) != (p2.length : Int)))] rfl ⟨rfl, rfl, rfl, rfl, rfl, rfl, trivial⟩ ?_
    refine WO_end ?_
    refine WK_cond (b := (p1.length : Int) != (p2.length : Int)) rfl (fun hb7 => ?_) (fun hb7 => ?_)
    · have hm := ifT hb7 hm
      refine WK_seq ?_
      refine WK_region ?_
      refine WO_pure tbok 2 [(1, .slice a_p1 p1.length c_p1), (2, .slice a_p2 p2.length c_p2), (3, .pointer (some ⟨b4, 0, none⟩)), (6, .slice none 0 0), (7, .int .i64 4)] rfl ⟨rfl, rfl, rfl, rfl, rfl, trivial⟩ ?_
      refine WO_end ?_
      cases hm
      exact WK_ret (ret_out (L := []) (RLc_tmp rfl (RLc_tmp rfl RLc_nil)) (List.nil_sublist _) ⟨none, 0, 0, rfl, (OwnE.nil none)⟩)
    · have hm := ifF hb7 hm
      refine WK_skip ?_
      refine WK_seq ?_
      refine WK_seq ?_
      obtain ⟨s_2, hx8, hm⟩ := bind_some hm
      refine WK_meet [(1, .slice a_p1 p1.length c_p1), (2, .slice a_p2 p2.length c_p2), (3, .pointer (some ⟨b4, 0, none⟩)), (6, .slice none 0 0), (7, .int .i64 0), (37, .bool s_2)] (St w0 m m [[⟨b4, 25, [.int .i64 p0_0, .int .i64 p0_1, .int .i64 p0_2, .int .i64 p0_3, .int .i64 p0_4, .slice a_p0_5 p0_5.length c_p0_5]⟩]]) ?_ (fun hk9 => ?_)
      · refine WK_cond (b := s_2) rfl (fun hb10 => ?_) (fun hb10 => ?_)
        · have hm := ifT hb10 hm
          refine WK_seq ?_
          refine WK_region ?_
          refine WO_pure tbok 2 [(1, .slice a_p1 p1.length c_p1), (2, .slice a_p2 p2.length c_p2), (3, .pointer (some ⟨b4, 0, none⟩)), (6, .slice none 0 0), (7, .int .i64 2)] rfl ⟨rfl, rfl, rfl, rfl, rfl, trivial⟩ ?_
          refine WO_end ?_
          cases hm
          exact WK_ret (ret_out (L := []) (RLc_tmp rfl (RLc_tmp rfl RLc_nil)) (List.nil_sublist _) ⟨none, 0, 0, rfl, (OwnE.nil none)⟩)
        · have hm := ifF hb10 hm
          refine WK_skip ?_
          refine WK_seq ?_
          refine WK_seq ?_
          refine WK_region ?_
          refine WO_pure tbok 3 [(1, .slice a_p1 p1.length c_p1), (2, .slice a_p2 p2.length c_p2), (3, .pointer (some ⟨b4, 0, none⟩)), (6, .slice none 0 0), (7, .int .i64 0), (38, .slice a_p1 p1.length c_p1), (39, .int .i64 (p1.length : Int)), (40, .int .i64 0)] rfl ⟨rfl, rfl, rfl, rfl, rfl, rfl, rfl, rfl, trivial⟩ ?_
          refine WO_end ?_
          obtain ⟨x11, hx12, hm⟩ := bind_some hm
          refine WK_join (β := Unit × Unit) (fun p => Sum.inr p.1 = x11) (fun p => [(1, .slice a_p1 p1.length c_p1), (2, .slice a_p2 p2.length c_p2), (3, .pointer (some ⟨b4, 0, none⟩)), (6, .slice none 0 0), (7, .int .i64 0)]) (fun p => St w0 m m [[⟨b4, 25, [.int .i64 p0_0, .int .i64 p0_1, .int .i64 p0_2, .int .i64 p0_3, .int .i64 p0_4, .slice a_p0_5 p0_5.length c_p0_5]⟩]]) ?_ (fun hk13 => ?_)
          · rintro ⟨⟨⟩, ⟨⟩⟩ hq19
            subst hq19
            refine WK.sub (e' := [(1, .slice a_p1 p1.length c_p1), (2, .slice a_p2 p2.length c_p2), (3, .pointer (some ⟨b4, 0, none⟩)), (6, .slice none 0 0), (7, .int .i64 0)]) ⟨rfl, rfl, rfl, rfl, rfl, trivial⟩ (WK.cls (C' := St w0 m m [[⟨b4, 25, [.int .i64 p0_0, .int .i64 p0_1, .int .i64 p0_2, .int .i64 p0_3, .int .i64 p0_4, .slice a_p0_5 p0_5.length c_p0_5]⟩]]) (fun _ h => h) ?_)
            refine WK_seq ?_
            refine WK_seq ?_
            refine WK_region ?_
            refine WO_pure tbok 1 [(1, .slice a_p1 p1.length c_p1), (2, .slice a_p2 p2.length c_p2), (3, .pointer (some ⟨b4, 0, none⟩)), (6, .slice none 0 0), (7, .int .i64 0), (11, .int .i64 1)] rfl ⟨rfl, rfl, rfl, rfl, rfl, rfl, trivial⟩ ?_
            refine WO_end ?_
            obtain ⟨x20, hx21, hm⟩ := bind_some hm
            refine WK_join (β := Unit × Unit) (fun p => Sum.inr p.1 = x20) (fun p => [(1, .slice a_p1 p1.length c_p1), (2, .slice a_p2 p2.length c_p2), (3, .pointer (some ⟨b4, 0, none⟩)), (6, .slice none 0 0), (7, .int .i64 0)]) (fun p => St w0 m m [[⟨b4, 25, [.int .i64 p0_0, .int .i64 p0_1, .int .i64 p0_2, .int .i64 p0_3, .int .i64 p0_4, .slice a_p0_5 p0_5.length c_p0_5]⟩]]) ?_ (fun hk22 => ?_)
            · rintro ⟨⟨⟩, ⟨⟩⟩ hq28
              subst hq28
              refine WK.sub (e' := [(1, .slice a_p1 p1.length c_p1), (2, .slice a_p2 p2.length c_p2), (3, .pointer (some ⟨b4, 0, none⟩)), (6, .slice none 0 0), (7, .int .i64 0)]) ⟨rfl, rfl, rfl, rfl, rfl, trivial⟩ (WK.cls (C' := St w0 m m [[⟨b4, 25, [.int .i64 p0_0, .int .i64 p0_1, .int .i64 p0_2, .int .i64 p0_3, .int .i64 p0_4, .slice a_p0_5 p0_5.length c_p0_5]⟩]]) (fun _ h => h) ?_)
              refine WK_seq ?_
              refine WK_region ?_
              refine WO_pure tbok 1 [(1, .slice a_p1 p1.length c_p1), (2, .slice a_p2 p2.length c_p2), (3, .pointer (some ⟨b4, 0, none⟩)), (6, .slice none 0 0), (7, .int .i64 0), (82, .pointer (some ⟨b4, 5, none⟩))] rfl ⟨rfl, rfl, rfl, rfl, rfl, rfl, trivial⟩ ?_
              refine WO_loadB tbok 0 rfl rfl rfl rfl (fun _ h => h) rfl rfl ?_
              refine WO_pure tbok 1 [(1, .slice a_p1 p1.length c_p1), (2, .slice a_p2 p2.length c_p2), (3, .pointer (some ⟨b4, 0, none⟩)), (6, .slice none 0 0), (7, .int .i64 0), (84, .int .i64 (p0_5.length : Int))] rfl ⟨rfl, rfl, rfl, rfl, rfl, rfl, trivial⟩ ?_
              obtain ⟨hc29, hm⟩ := chk_some hm
              refine WO_make (E := B1) tbok (fun _ => rfl) (by decide) false rfl rfl trivial rfl rfl rfl rfl rfl rfl rfl rfl rfl (mk_ok (by decide) hc29) (fun b30 c31 L32 hL32 => ?_)
              refine WO.cls (C' := St w0 m m [[⟨b4, 25, [.int .i64 p0_0, .int .i64 p0_1, .int .i64 p0_2, .int .i64 p0_3, .int .i64 p0_4, .slice a_p0_5 p0_5.length c_p0_5]⟩], L32]) (fun _ h => h) ?_
              refine WO_pure tbok 1 [(1, .slice a_p1 p1.length c_p1), (2, .slice a_p2 p2.length c_p2), (3, .pointer (some ⟨b4, 0, none⟩)), (6, .slice none 0 0), (7, .int .i64 0), (12, .slice (some ⟨b30, 0, none⟩) ((List.replicate (p0_5.length : Int).toNat false).length) c31)] rfl ⟨rfl, rfl, rfl, rfl, rfl, rfl, trivial⟩ ?_
              refine WO_end ?_
              refine WK_seq ?_
              refine WK_seq ?_
              refine WK_region ?_
              refine WO_pure tbok 1 [(1, .slice a_p1 p1.length c_p1), (2, .slice a_p2 p2.length c_p2), (3, .pointer (some ⟨b4, 0, none⟩)), (6, .slice none 0 0), (7, .int .i64 0), (12, .slice (some ⟨b30, 0, none⟩) ((List.replicate (p0_5.length : Int).toNat false).length) c31), (86, .pointer (some ⟨b4, 5, none⟩))] rfl ⟨rfl, rfl, rfl, rfl, rfl, rfl, rfl, trivial⟩ ?_
              refine WO_loadB tbok 0 rfl rfl rfl rfl (fun _ h => h) rfl rfl ?_
              refine WO_pure tbok 2 [(1, .slice a_p1 p1.length c_p1), (2, .slice a_p2 p2.length c_p2), (3, .pointer (some ⟨b4, 0, none⟩)), (6, .slice none 0 0), (7, .int .i64 0), (12, .slice (some ⟨b30, 0, none⟩) ((List.replicate (p0_5.length : Int).toNat false).length) c31), (87, .slice a_p0_5 p0_5.length c_p0_5), (88, .int .i64 (p0_5.length : Int)), (89, .int .i64 0)] rfl ⟨rfl, rfl, rfl, rfl, rfl, rfl, rfl, rfl, rfl, trivial⟩ ?_
              refine WO_end ?_
              obtain ⟨x38, hx39, hm⟩ := bind_some hm
              refine WK_join (β := (List Bool) × (List Ent)) (fun p => p.1 = x38 ∧ OwnE 4 1 B1 (.slice (some ⟨b30, 0, none⟩) ((List.replicate (p0_5.length : Int).toNat false).length) c31) p.1 p.2) (fun p => [(1, .slice a_p1 p1.length c_p1), (2, .slice a_p2 p2.length c_p2), (3, .pointer (some ⟨b4, 0, none⟩)), (6, .slice none 0 0), (7, .int .i64 0), (12, .slice (some ⟨b30, 0, none⟩) ((List.replicate (p0_5.length : Int).toNat false).length) c31)]) (fun p => St w0 m m [[⟨b4, 25, [.int .i64 p0_0, .int .i64 p0_1, .int .i64 p0_2, .int .i64 p0_3, .int .i64 p0_4, .slice a_p0_5 p0_5.length c_p0_5]⟩], p.2]) ?_ (fun hk40 => ?_)
              · rintro ⟨l_7, L37⟩ ⟨hq46, hL37⟩
                subst hq46
                refine WK.sub (e' := [(1, .slice a_p1 p1.length c_p1), (2, .slice a_p2 p2.length c_p2), (3, .pointer (some ⟨b4, 0, none⟩)), (6, .slice none 0 0), (7, .int .i64 0), (12, .slice (some ⟨b30, 0, none⟩) ((List.replicate (p0_5.length : Int).toNat false).length) c31)]) ⟨rfl, rfl, rfl, rfl, rfl, rfl, trivial⟩ (WK.cls (C' := St w0 m m [[⟨b4, 25, [.int .i64 p0_0, .int .i64 p0_1, .int .i64 p0_2, .int .i64 p0_3, .int .i64 p0_4, .slice a_p0_5 p0_5.length c_p0_5]⟩], L37]) (fun _ h => h) ?_)
                refine WK_seq ?_
                refine WK_seq ?_
                refine WK_region ?_
                refine WO_pure tbok 3 [(2, .slice a_p2 p2.length c_p2), (3, .pointer (some ⟨b4, 0, none⟩)), (6, .slice none 0 0), (7, .int .i64 0), (12, .slice (some ⟨b30, 0, none⟩) ((List.replicate (p0_5.length : Int).toNat false).length) c31), (100, .slice a_p1 p1.length c_p1), (101, .int .i64 (p1.length : Int)), (102, .int .i64 0)] rfl ⟨rfl, rfl, rfl, rfl, rfl, rfl, rfl, rfl, trivial⟩ ?_
                refine WO_end ?_
                obtain ⟨x65, hx66, hm⟩ := bind_some hm
                refine WK_join (β := (List Bool × Int × Int × Int × Int × Int × List Int) × (Mu × List Ent × Option Addr × Nat × Nat)) (fun p => p.1 = x65 ∧ Le m p.2.1 ∧ OwnE 4 1 B1 (.slice (some ⟨b30, 0, none⟩) ((List.replicate (p0_5.length : Int).toNat false).length) c31) p.1.1 p.2.2.1 ∧ SlR (FE (I1 .i64)) 1 p.2.1 (.slice p.2.2.2.1 p.2.2.2.2.1 p.2.2.2.2.2) p.1.2.2.2.2.2.2) (fun p => [(6, .slice none 0 0), (7, .int .i64 0), (12, .slice (some ⟨b30, 0, none⟩) ((List.replicate (p0_5.length : Int).toNat false).length) c31)]) (fun p => St w0 m p.2.1 [[⟨b4, 25, [.int .i64 p.1.2.1, .int .i64 p.1.2.2.1, .int .i64 p.1.2.2.2.1, .int .i64 p.1.2.2.2.2.1, .int .i64 p.1.2.2.2.2.2.1, .slice p.2.2.2.1 p.2.2.2.2.1 p.2.2.2.2.2]⟩], p.2.2.1]) ?_ (fun hk67 => ?_)
                · rintro ⟨⟨l_16, s_17, s_18, s_19, s_20, s_21, l_22⟩, ⟨m56, L59, a60, q61, c62⟩⟩ ⟨hq73, hle57, hL59, h63⟩
                  subst hq73
                  have hqq : q61 = l_22.length := SlR.qlen h63
                  subst hqq
                  refine WK.sub (e' := [(6, .slice none 0 0), (7, .int .i64 0), (12, .slice (some ⟨b30, 0, none⟩) ((List.replicate (p0_5.length : Int).toNat false).length) c31)]) ⟨rfl, rfl, rfl, trivial⟩ (WK.cls (C' := St w0 m m56 [[⟨b4, 25, [.int .i64 s_17, .int .i64 s_18, .int .i64 s_19, .int .i64 s_20, .int .i64 s_21, .slice a60 ((l_22).length) c62]⟩], L59]) (fun _ h => h) ?_)
                  refine WK_seq ?_
                  refine WK_region ?_
                  refine WO_pure tbok 3 [(6, .slice (some ⟨b30, 0, none⟩) ((List.replicate (p0_5.length : Int).toNat false).length) c31), (7, .int .i64 0)] rfl ⟨rfl, rfl, trivial⟩ ?_
                  refine WO_end ?_
                  cases hm
                  exact WK_ret (ret_out (L := L59) (RLc_tmp rfl (RLc_tmp rfl RLc_nil)) (seg_sub 1 rfl) ⟨(some ⟨b30, 0, none⟩), ((List.replicate (p0_5.length : Int).toNat false).length), c31, rfl, hL59⟩)
                · refine WK_block ?_
                  refine WK_loop (S := List Bool × Int × Int × Int × Int × Int × Int × List Int) (G := Mu × List Ent × Option Addr × Nat × Nat) (fun s => terrain_Ground_s4 p1 p2 s.1 s.2.1 s.2.2.1 s.2.2.2.1 s.2.2.2.2.1 s.2.2.2.2.2.1 s.2.2.2.2.2.2.1 s.2.2.2.2.2.2.2) (fun s g => [(2, .slice a_p2 p2.length c_p2), (3, .pointer (some ⟨b4, 0, none⟩)), (6, .slice none 0 0), (7, .int .i64 0), (12, .slice (some ⟨b30, 0, none⟩) ((List.replicate (p0_5.length : Int).toNat false).length) c31), (100, .slice a_p1 p1.length c_p1), (101, .int .i64 (p1.length : Int)), (102, .int .i64 s.2.1)]) (fun s g => St w0 m g.1 [[⟨b4, 25, [.int .i64 s.2.2.1, .int .i64 s.2.2.2.1, .int .i64 s.2.2.2.2.1, .int .i64 s.2.2.2.2.2.1, .int .i64 s.2.2.2.2.2.2.1, .slice g.2.2.1 g.2.2.2.1 g.2.2.2.2]⟩], g.2.1]) (fun s g => Le m g.1 ∧ OwnE 4 1 B1 (.slice (some ⟨b30, 0, none⟩) ((List.replicate (p0_5.length : Int).toNat false).length) c31) s.1 g.2.1 ∧ SlR (FE (I1 .i64)) 1 g.1 (.slice g.2.2.1 g.2.2.2.1 g.2.2.2.2) s.2.2.2.2.2.2.2) FUEL (l_7, 0, p0_0, p0_1, p0_2, p0_3, p0_4, p0_5) (m, L37, a_p0_5, p0_5.length, c_p0_5) x65 hx66 ⟨(Le.refl _), hL37, h_p0_5⟩ ⟨rfl, rfl, rfl, rfl, rfl, rfl, rfl, rfl, trivial⟩ (fun _ h => h) ?_
                  rintro ⟨l_8, s_9, s_10, s_11, s_12, s_13, s_14, l_15⟩ ⟨m47, L50, a51, q52, c53⟩ o69 fl70 hm68 ⟨hle48, hL50, h54⟩ hn71 hd72
                  have hm68 : terrain_Ground_s4 p1 p2 l_8 s_9 s_10 s_11 s_12 s_13 s_14 l_15 = some o69 := hm68
                  unfold terrain_Ground_s4 at hm68
                  have hqq : q52 = l_15.length := SlR.qlen h54
                  subst hqq
                  refine WK.sub (e' := [(2, .slice a_p2 p2.length c_p2), (3, .pointer (some ⟨b4, 0, none⟩)), (6, .slice none 0 0), (7, .int .i64 0), (12, .slice (some ⟨b30, 0, none⟩) ((List.replicate (p0_5.length : Int).toNat false).length) c31), (100, .slice a_p1 p1.length c_p1), (101, .int .i64 (p1.length : Int)), (102, .int .i64 s_9)]) ⟨rfl, rfl, rfl, rfl, rfl, rfl, rfl, rfl, trivial⟩ (WK.cls (C' := St w0 m m47 [[⟨b4, 25, [.int .i64 s_10, .int .i64 s_11, .int .i64 s_12, .int .i64 s_13, .int .i64 s_14, .slice a51 ((l_15).length) c53]⟩], L50]) (fun _ h => h) ?_)
                  refine WK_seq ?_
                  refine WK_region ?_
                  refine WO_pure tbok 1 [(2, .slice a_p2 p2.length c_p2), (3, .pointer (some ⟨b4, 0, none⟩)), (6, .slice none 0 0), (7, .int .i64 0), (12, .slice (some ⟨b30, 0, none⟩) ((List.replicate (p0_5.length : Int).toNat false).length) c31), (100, .slice a_p1 p1.length c_p1), (101, .int .i64 (p1.length : Int)), (102, .int .i64 s_9), (103, .bool (decide (s_9 < (p1.length : Int))))] rfl ⟨rfl, rfl, rfl, rfl, rfl, rfl, rfl, rfl, rfl, trivial⟩ ?_
                  refine WO_end ?_
                  refine WK_seq ?_
                  refine WK_cond (b := decide (s_9 < (p1.length : Int))) rfl (fun hb74 => ?_) (fun hb74 => ?_)
                  · have hm68 := ifT hb74 hm68
                    refine WK_skip ?_
                    refine WK_seq ?_
                    refine WK_block ?_
                    refine WK_seq ?_
                    refine WK_region ?_
                    refine WO_pure tbok 1 [(2, .slice a_p2 p2.length c_p2), (3, .pointer (some ⟨b4, 0, none⟩)), (6, .slice none 0 0), (7, .int .i64 0), (12, .slice (some ⟨b30, 0, none⟩) ((List.replicate (p0_5.length : Int).toNat false).length) c31), (100, .slice a_p1 p1.length c_p1), (101, .int .i64 (p1.length : Int)), (102, .int .i64 s_9), (104, .int .i64 s_9)] rfl ⟨rfl, rfl, rfl, rfl, rfl, rfl, rfl, rfl, rfl, trivial⟩ ?_
                    obtain ⟨v_23, hy75, hm68⟩ := bind_some hm68
                    obtain ⟨hc76, hy75⟩ := ix_some hy75
                    refine WO_index tbok rfl rfl rfl rfl rfl rfl rfl rfl (SlR.addr (h_p1.mono (mono_FE _) hle48)) hc76 ?_
                    refine WO_loadE tbok rfl rfl rfl rfl (fun _ h => St.sat h) (h_p1.mono (mono_FE _) hle48) hy75 rfl ?_
                    refine WO_pure tbok 2 [(2, .slice a_p2 p2.length c_p2), (3, .pointer (some ⟨b4, 0, none⟩)), (6, .slice none 0 0), (7, .int .i64 0), (12, .slice (some ⟨b30, 0, none⟩) ((List.replicate (p0_5.length : Int).toNat false).length) c31), (15, .int .i64 s_9), (16, .int .i64 v_23), (100, .slice a_p1 p1.length c_p1), (101, .int .i64 (p1.length : Int)), (102, .int .i64 s_9)] rfl ⟨rfl, rfl, rfl, rfl, rfl, rfl, rfl, rfl, rfl, rfl, trivial⟩ ?_
                    refine WO_end ?_
                    refine WK_seq ?_
                    refine WK_region ?_
                    refine WO_loadB tbok 0 rfl rfl rfl rfl (fun _ h => h) rfl rfl ?_
                    refine WO_pure tbok 1 [(2, .slice a_p2 p2.length c_p2), (3, .pointer (some ⟨b4, 0, none⟩)), (6, .slice none 0 0), (7, .int .i64 0), (12, .slice (some ⟨b30, 0, none⟩) ((List.replicate (p0_5.length : Int).toNat false).length) c31), (15, .int .i64 s_9), (100, .slice a_p1 p1.length c_p1), (101, .int .i64 (p1.length : Int)), (102, .int .i64 s_9), (107, .agg #[.int .i64 s_10, .int .i64 s_11, .int .i64 s_12, .int .i64 s_13, .int .i64 s_14, .slice a51 ((l_15).length) c53]), (108, .int .i64 v_23)] rfl ⟨rfl, rfl, rfl, rfl, rfl, rfl, rfl, rfl, rfl, rfl, rfl, trivial⟩ ?_
                    obtain ⟨⟨y_24, y_25, y_26, y_27, y_28, y_29⟩, hc77, hm68⟩ := bind_some hm68
                    refine WO_call2 (terrain_opened_Q (y_24, y_25, y_26, y_27, y_28, y_29)) rfl rfl trivial rfl rfl rfl rfl ⟨50, #[], #[], rfl, callable_50, terrain_opened_walk h54 hc77⟩ (fun v82 m83 L81 hle84 hq => ?_)
                    obtain ⟨a78, qa78, c79, rfl, h85⟩ := hq
                    obtain rfl := SlR.qlen h85
                    refine WO.cls (C' := St w0 m m83 [[⟨b4, 25, [.int .i64 s_10, .int .i64 s_11, .int .i64 s_12, .int .i64 s_13, .int .i64 s_14, .slice a51 ((l_15).length) c53]⟩], L50, L81]) (fun _ h => h.sub (by simp)) ?_
                    refine WO_alloc tbok [.int .i64 0, .int .i64 0, .int .i64 0, .int .i64 0, .int .i64 0, .slice none 0 0] rfl rfl trivial rfl rfl rfl rfl (fun b86 => ?_)
                    refine WO.cls (C' := St w0 m m83 [[⟨b4, 25, [.int .i64 s_10, .int .i64 s_11, .int .i64 s_12, .int .i64 s_13, .int .i64 s_14, .slice a51 ((l_15).length) c53]⟩], L50, L81, [⟨b86, 25, [.int .i64 0, .int .i64 0, .int .i64 0, .int .i64 0, .int .i64 0, .slice none 0 0]⟩]]) (fun _ h => h) ?_
                    refine WO_storeB tbok 3 [.int .i64 y_24, .int .i64 y_25, .int .i64 y_26, .int .i64 y_27, .int .i64 y_28, .slice a78 ((y_29).length) c79] rfl rfl rfl rfl rfl rfl rfl ?_
                    refine WO.cls (C' := St w0 m m83 [[⟨b4, 25, [.int .i64 s_10, .int .i64 s_11, .int .i64 s_12, .int .i64 s_13, .int .i64 s_14, .slice a51 ((l_15).length) c53]⟩], L50, L81, [⟨b86, 25, [.int .i64 y_24, .int .i64 y_25, .int .i64 y_26, .int .i64 y_27, .int .i64 y_28, .slice a78 ((y_29).length) c79]⟩]]) (fun _ h => h) ?_
                    refine WO_end ?_
                    refine WK_seq ?_
                    refine WK_seq ?_
                    refine WK_region ?_
                    refine WO_pure tbok 1 [(2, .slice a_p2 p2.length c_p2), (3, .pointer (some ⟨b4, 0, none⟩)), (6, .slice none 0 0), (7, .int .i64 0), (12, .slice (some ⟨b30, 0, none⟩) ((List.replicate (p0_5.length : Int).toNat false).length) c31), (15, .int .i64 s_9), (17, .pointer (some ⟨b86, 0, none⟩)), (100, .slice a_p1 p1.length c_p1), (101, .int .i64 (p1.length : Int)), (102, .int .i64 s_9), (110, .pointer (some ⟨b4, 5, none⟩))] rfl ⟨rfl, rfl, rfl, rfl, rfl, rfl, rfl, rfl, rfl, rfl, rfl, trivial⟩ ?_
                    refine WO_loadB tbok 0 rfl rfl rfl rfl (fun _ h => h) rfl rfl ?_
                    refine WO_pure tbok 2 [(2, .slice a_p2 p2.length c_p2), (3, .pointer (some ⟨b4, 0, none⟩)), (6, .slice none 0 0), (7, .int .i64 0), (12, .slice (some ⟨b30, 0, none⟩) ((List.replicate (p0_5.length : Int).toNat false).length) c31), (15, .int .i64 s_9), (17, .pointer (some ⟨b86, 0, none⟩)), (100, .slice a_p1 p1.length c_p1), (101, .int .i64 (p1.length : Int)), (102, .int .i64 s_9), (111, .slice a51 ((l_15).length) c53), (112, .int .i64 ((l_15).length : Int)), (113, .int .i64 0)] rfl ⟨rfl, rfl, rfl, rfl, rfl, rfl, rfl, rfl, rfl, rfl, rfl, rfl, rfl, trivial⟩ ?_
                    refine WO_end ?_
                    obtain ⟨x91, hx92, hm68⟩ := bind_some hm68
                    refine WK_join (β := (List Bool) × (List Ent)) (fun p => p.1 = x91 ∧ OwnE 4 1 B1 (.slice (some ⟨b30, 0, none⟩) ((List.replicate (p0_5.length : Int).toNat false).length) c31) p.1 p.2) (fun p => [(2, .slice a_p2 p2.length c_p2), (3, .pointer (some ⟨b4, 0, none⟩)), (6, .slice none 0 0), (7, .int .i64 0), (12, .slice (some ⟨b30, 0, none⟩) ((List.replicate (p0_5.length : Int).toNat false).length) c31), (17, .pointer (some ⟨b86, 0, none⟩)), (100, .slice a_p1 p1.length c_p1), (101, .int .i64 (p1.length : Int)), (102, .int .i64 s_9)]) (fun p => St w0 m m83 [[⟨b4, 25, [.int .i64 s_10, .int .i64 s_11, .int .i64 s_12, .int .i64 s_13, .int .i64 s_14, .slice a51 ((l_15).length) c53]⟩], p.2, L81, [⟨b86, 25, [.int .i64 y_24, .int .i64 y_25, .int .i64 y_26, .int .i64 y_27, .int .i64 y_28, .slice a78 ((y_29).length) c79]⟩]]) ?_ (fun hk93 => ?_)
                    · rintro ⟨l_32, L90⟩ ⟨hq99, hL90⟩
                      subst hq99
                      refine WK.sub (e' := [(2, .slice a_p2 p2.length c_p2), (3, .pointer (some ⟨b4, 0, none⟩)), (6, .slice none 0 0), (7, .int .i64 0), (12, .slice (some ⟨b30, 0, none⟩) ((List.replicate (p0_5.length : Int).toNat false).length) c31), (17, .pointer (some ⟨b86, 0, none⟩)), (100, .slice a_p1 p1.length c_p1), (101, .int .i64 (p1.length : Int)), (102, .int .i64 s_9)]) ⟨rfl, rfl, rfl, rfl, rfl, rfl, rfl, rfl, rfl, trivial⟩ (WK.cls (C' := St w0 m m83 [[⟨b4, 25, [.int .i64 s_10, .int .i64 s_11, .int .i64 s_12, .int .i64 s_13, .int .i64 s_14, .slice a51 ((l_15).length) c53]⟩], L90, L81, [⟨b86, 25, [.int .i64 y_24, .int .i64 y_25, .int .i64 y_26, .int .i64 y_27, .int .i64 y_28, .slice a78 ((y_29).length) c79]⟩]]) (fun _ h => h) ?_)
                      refine WK_region ?_
                      refine WO_loadB tbok 3 rfl rfl rfl rfl (fun _ h => h) rfl rfl ?_
                      refine WO_storeB tbok 0 [.int .i64 y_24, .int .i64 y_25, .int .i64 y_26, .int .i64 y_27, .int .i64 y_28, .slice a78 ((y_29).length) c79] rfl rfl rfl rfl rfl rfl rfl ?_
                      refine WO.cls (C' := St w0 m m83 [[⟨b4, 25, [.int .i64 y_24, .int .i64 y_25, .int .i64 y_26, .int .i64 y_27, .int .i64 y_28, .slice a78 ((y_29).length) c79]⟩], L90, L81, [⟨b86, 25, [.int .i64 y_24, .int .i64 y_25, .int .i64 y_26, .int .i64 y_27, .int .i64 y_28, .slice a78 ((y_29).length) c79]⟩]]) (fun _ h => h) ?_
                      refine WO_end ?_
                      refine WK_blk ?_
                      refine WK_region ?_
                      refine WO_pure tbok 2 [(2, .slice a_p2 p2.length c_p2), (3, .pointer (some ⟨b4, 0, none⟩)), (6, .slice none 0 0), (7, .int .i64 0), (12, .slice (some ⟨b30, 0, none⟩) ((List.replicate (p0_5.length : Int).toNat false).length) c31), (100, .slice a_p1 p1.length c_p1), (101, .int .i64 (p1.length : Int)), (102, .int .i64 (w64 (s_9 + 1)))] rfl ⟨rfl, rfl, rfl, rfl, rfl, rfl, rfl, rfl, trivial⟩ ?_
                      refine WO_end ?_
                      cases hm68
                      refine WK.sub ?_ (WK.cls (fun _ h => St.take 2 h) (hn71 _ (m83, L90, a78, _, c79) rfl ⟨(hle48.trans hle84), hL90, h85⟩))
                      exact ⟨rfl, rfl, rfl, rfl, rfl, rfl, rfl, rfl, trivial⟩
                    · refine WK_block ?_
                      refine WK_loop (S := List Bool × Int) (G := List Ent) (fun s => terrain_Ground_s5 p2 s_9 l_15 y_29 s.1 s.2) (fun s g => [(2, .slice a_p2 p2.length c_p2), (3, .pointer (some ⟨b4, 0, none⟩)), (6, .slice none 0 0), (7, .int .i64 0), (12, .slice (some ⟨b30, 0, none⟩) ((List.replicate (p0_5.length : Int).toNat false).length) c31), (15, .int .i64 s_9), (17, .pointer (some ⟨b86, 0, none⟩)), (100, .slice a_p1 p1.length c_p1), (101, .int .i64 (p1.length : Int)), (102, .int .i64 s_9), (111, .slice a51 ((l_15).length) c53), (112, .int .i64 ((l_15).length : Int)), (113, .int .i64 s.2)]) (fun s g => St w0 m m83 [[⟨b4, 25, [.int .i64 s_10, .int .i64 s_11, .int .i64 s_12, .int .i64 s_13, .int .i64 s_14, .slice a51 ((l_15).length) c53]⟩], g, L81, [⟨b86, 25, [.int .i64 y_24, .int .i64 y_25, .int .i64 y_26, .int .i64 y_27, .int .i64 y_28, .slice a78 ((y_29).length) c79]⟩]]) (fun s g => OwnE 4 1 B1 (.slice (some ⟨b30, 0, none⟩) ((List.replicate (p0_5.length : Int).toNat false).length) c31) s.1 g) FUEL (l_8, 0) L50 x91 hx92 hL50 ⟨rfl, rfl, rfl, rfl, rfl, rfl, rfl, rfl, rfl, rfl, rfl, rfl, rfl, trivial⟩ (fun _ h => h) ?_
                      rintro ⟨l_30, s_31⟩ L88 o95 fl96 hm94 hL88 hn97 hd98
                      have hm94 : terrain_Ground_s5 p2 s_9 l_15 y_29 l_30 s_31 = some o95 := hm94
                      unfold terrain_Ground_s5 at hm94
                      refine WK.sub (e' := [(2, .slice a_p2 p2.length c_p2), (3, .pointer (some ⟨b4, 0, none⟩)), (6, .slice none 0 0), (7, .int .i64 0), (12, .slice (some ⟨b30, 0, none⟩) ((List.replicate (p0_5.length : Int).toNat false).length) c31), (15, .int .i64 s_9), (17, .pointer (some ⟨b86, 0, none⟩)), (100, .slice a_p1 p1.length c_p1), (101, .int .i64 (p1.length : Int)), (102, .int .i64 s_9), (111, .slice a51 ((l_15).length) c53), (112, .int .i64 ((l_15).length : Int)), (113, .int .i64 s_31)]) ⟨rfl, rfl, rfl, rfl, rfl, rfl, rfl, rfl, rfl, rfl, rfl, rfl, rfl, trivial⟩ (WK.cls (C' := St w0 m m83 [[⟨b4, 25, [.int .i64 s_10, .int .i64 s_11, .int .i64 s_12, .int .i64 s_13, .int .i64 s_14, .slice a51 ((l_15).length) c53]⟩], L88, L81, [⟨b86, 25, [.int .i64 y_24, .int .i64 y_25, .int .i64 y_26, .int .i64 y_27, .int .i64 y_28, .slice a78 ((y_29).length) c79]⟩]]) (fun _ h => h) ?_)
                      refine WK_seq ?_
                      refine WK_region ?_
                      refine WO_pure tbok 1 [(2, .slice a_p2 p2.length c_p2), (3, .pointer (some ⟨b4, 0, none⟩)), (6, .slice none 0 0), (7, .int .i64 0), (12, .slice (some ⟨b30, 0, none⟩) ((List.replicate (p0_5.length : Int).toNat false).length) c31), (15, .int .i64 s_9), (17, .pointer (some ⟨b86, 0, none⟩)), (100, .slice a_p1 p1.length c_p1), (101, .int .i64 (p1.length : Int)), (102, .int .i64 s_9), (111, .slice a51 ((l_15).length) c53), (112, .int .i64 ((l_15).length : Int)), (113, .int .i64 s_31), (114, .bool (decide (s_31 < ((l_15).length : Int))))] rfl ⟨rfl, rfl, rfl, rfl, rfl, rfl, rfl, rfl, rfl, rfl, rfl, rfl, rfl, rfl, trivial⟩ ?_
                      refine WO_end ?_
                      refine WK_seq ?_
                      refine WK_cond (b := decide (s_31 < ((l_15).length : Int))) rfl (fun hb100 => ?_) (fun hb100 => ?_)
                      · have hm94 := ifT hb100 hm94
                        refine WK_skip ?_
                        refine WK_seq ?_
                        refine WK_block ?_
                        refine WK_seq ?_
                        refine WK_region ?_
                        refine WO_pure tbok 1 [(2, .slice a_p2 p2.length c_p2), (3, .pointer (some ⟨b4, 0, none⟩)), (6, .slice none 0 0), (7, .int .i64 0), (12, .slice (some ⟨b30, 0, none⟩) ((List.replicate (p0_5.length : Int).toNat false).length) c31), (15, .int .i64 s_9), (17, .pointer (some ⟨b86, 0, none⟩)), (100, .slice a_p1 p1.length c_p1), (101, .int .i64 (p1.length : Int)), (102, .int .i64 s_9), (111, .slice a51 ((l_15).length) c53), (112, .int .i64 ((l_15).length : Int)), (113, .int .i64 s_31), (115, .int .i64 s_31)] rfl ⟨rfl, rfl, rfl, rfl, rfl, rfl, rfl, rfl, rfl, rfl, rfl, rfl, rfl, rfl, trivial⟩ ?_
                        obtain ⟨v_33, hy101, hm94⟩ := bind_some hm94
                        obtain ⟨hc102, hy101⟩ := ix_some hy101
                        refine WO_index tbok rfl rfl rfl rfl rfl rfl rfl rfl (SlR.addr (h54.mono (mono_FE _) hle84)) hc102 ?_
                        refine WO_loadE tbok rfl rfl rfl rfl (fun _ h => St.sat h) (h54.mono (mono_FE _) hle84) hy101 rfl ?_
                        refine WO_pure tbok 2 [(2, .slice a_p2 p2.length c_p2), (3, .pointer (some ⟨b4, 0, none⟩)), (6, .slice none 0 0), (7, .int .i64 0), (12, .slice (some ⟨b30, 0, none⟩) ((List.replicate (p0_5.length : Int).toNat false).length) c31), (15, .int .i64 s_9), (17, .pointer (some ⟨b86, 0, none⟩)), (18, .int .i64 s_31), (19, .int .i64 v_33), (100, .slice a_p1 p1.length c_p1), (101, .int .i64 (p1.length : Int)), (102, .int .i64 s_9), (111, .slice a51 ((l_15).length) c53), (112, .int .i64 ((l_15).length : Int)), (113, .int .i64 s_31)] rfl ⟨rfl, rfl, rfl, rfl, rfl, rfl, rfl, rfl, rfl, rfl, rfl, rfl, rfl, rfl, rfl, trivial⟩ ?_
                        refine WO_end ?_
                        refine WK_seq ?_
                        obtain ⟨s_34, hx103, hm94⟩ := bind_some hm94
                        refine WK_meet [(2, .slice a_p2 p2.length c_p2), (3, .pointer (some ⟨b4, 0, none⟩)), (6, .slice none 0 0), (7, .int .i64 0), (12, .slice (some ⟨b30, 0, none⟩) ((List.replicate (p0_5.length : Int).toNat false).length) c31), (15, .int .i64 s_9), (17, .pointer (some ⟨b86, 0, none⟩)), (18, .int .i64 s_31), (100, .slice a_p1 p1.length c_p1), (101, .int .i64 (p1.length : Int)), (102, .int .i64 s_9), (111, .slice a51 ((l_15).length) c53), (112, .int .i64 ((l_15).length : Int)), (113, .int .i64 s_31), (133, .bool s_34)] (St w0 m m83 [[⟨b4, 25, [.int .i64 s_10, .int .i64 s_11, .int .i64 s_12, .int .i64 s_13, .int .i64 s_14, .slice a51 ((l_15).length) c53]⟩], L88, L81, [⟨b86, 25, [.int .i64 y_24, .int .i64 y_25, .int .i64 y_26, .int .i64 y_27, .int .i64 y_28, .slice a78 ((y_29).length) c79]⟩]]) ?_ (fun hk104 => ?_)
                        · obtain ⟨l_35, hx107, hm94⟩ := bind_some hm94
                          refine WK_join (β := List Ent) (fun p => OwnE 4 1 B1 (.slice (some ⟨b30, 0, none⟩) ((List.replicate (p0_5.length : Int).toNat false).length) c31) l_35 p) (fun p => [(2, .slice a_p2 p2.length c_p2), (3, .pointer (some ⟨b4, 0, none⟩)), (6, .slice none 0 0), (7, .int .i64 0), (12, .slice (some ⟨b30, 0, none⟩) ((List.replicate (p0_5.length : Int).toNat false).length) c31), (15, .int .i64 s_9), (17, .pointer (some ⟨b86, 0, none⟩)), (100, .slice a_p1 p1.length c_p1), (101, .int .i64 (p1.length : Int)), (102, .int .i64 s_9), (111, .slice a51 ((l_15).length) c53), (112, .int .i64 ((l_15).length : Int)), (113, .int .i64 s_31)]) (fun p => St w0 m m83 [[⟨b4, 25, [.int .i64 s_10, .int .i64 s_11, .int .i64 s_12, .int .i64 s_13, .int .i64 s_14, .slice a51 ((l_15).length) c53]⟩], p, L81, [⟨b86, 25, [.int .i64 y_24, .int .i64 y_25, .int .i64 y_26, .int .i64 y_27, .int .i64 y_28, .slice a78 ((y_29).length) c79]⟩]]) ?_ (fun hk108 => ?_)
                          · rintro L106 hL106
                            refine WK.sub (e' := [(2, .slice a_p2 p2.length c_p2), (3, .pointer (some ⟨b4, 0, none⟩)), (6, .slice none 0 0), (7, .int .i64 0), (12, .slice (some ⟨b30, 0, none⟩) ((List.replicate (p0_5.length : Int).toNat false).length) c31), (15, .int .i64 s_9), (17, .pointer (some ⟨b86, 0, none⟩)), (100, .slice a_p1 p1.length c_p1), (101, .int .i64 (p1.length : Int)), (102, .int .i64 s_9), (111, .slice a51 ((l_15).length) c53), (112, .int .i64 ((l_15).length : Int)), (113, .int .i64 s_31)]) ⟨rfl, rfl, rfl, rfl, rfl, rfl, rfl, rfl, rfl, rfl, rfl, rfl, rfl, trivial⟩ (WK.cls (C' := St w0 m m83 [[⟨b4, 25, [.int .i64 s_10, .int .i64 s_11, .int .i64 s_12, .int .i64 s_13, .int .i64 s_14, .slice a51 ((l_15).length) c53]⟩], L106, L81, [⟨b86, 25, [.int .i64 y_24, .int .i64 y_25, .int .i64 y_26, .int .i64 y_27, .int .i64 y_28, .slice a78 ((y_29).length) c79]⟩]]) (fun _ h => h) ?_)
                            refine WK_blk ?_
                            refine WK_region ?_
                            refine WO_pure tbok 2 [(2, .slice a_p2 p2.length c_p2), (3, .pointer (some ⟨b4, 0, none⟩)), (6, .slice none 0 0), (7, .int .i64 0), (12, .slice (some ⟨b30, 0, none⟩) ((List.replicate (p0_5.length : Int).toNat false).length) c31), (15, .int .i64 s_9), (17, .pointer (some ⟨b86, 0, none⟩)), (100, .slice a_p1 p1.length c_p1), (101, .int .i64 (p1.length : Int)), (102, .int .i64 s_9), (111, .slice a51 ((l_15).length) c53), (112, .int .i64 ((l_15).length : Int)), (113, .int .i64 (w64 (s_31 + 1)))] rfl ⟨rfl, rfl, rfl, rfl, rfl, rfl, rfl, rfl, rfl, rfl, rfl, rfl, rfl, trivial⟩ ?_
                            refine WO_end ?_
                            cases hm94
                            refine WK.sub ?_ (WK.cls (fun _ h => h) (hn97 _ L106 rfl hL106))
                            exact ⟨rfl, rfl, rfl, rfl, rfl, rfl, rfl, rfl, rfl, rfl, rfl, rfl, rfl, trivial⟩
                          · refine WK_cond (b := s_34) rfl (fun hb109 => ?_) (fun hb109 => ?_)
                            · have hx107 := ifT hb109 hx107
                              refine WK_region ?_
                              refine WO_pure tbok 2 [(2, .slice a_p2 p2.length c_p2), (3, .pointer (some ⟨b4, 0, none⟩)), (6, .slice none 0 0), (7, .int .i64 0), (12, .slice (some ⟨b30, 0, none⟩) ((List.replicate (p0_5.length : Int).toNat false).length) c31), (15, .int .i64 s_9), (17, .pointer (some ⟨b86, 0, none⟩)), (100, .slice a_p1 p1.length c_p1), (101, .int .i64 (p1.length : Int)), (102, .int .i64 s_9), (111, .slice a51 ((l_15).length) c53), (112, .int .i64 ((l_15).length : Int)), (113, .int .i64 s_31), (134, .slice (some ⟨b30, 0, none⟩) ((List.replicate (p0_5.length : Int).toNat false).length) c31), (135, .int .i64 s_31)] rfl ⟨rfl, rfl, rfl, rfl, rfl, rfl, rfl, rfl, rfl, rfl, rfl, rfl, rfl, rfl, rfl, trivial⟩ ?_
                              obtain ⟨hc110, hx107⟩ := chk_some hx107
                              refine WO_index tbok rfl rfl rfl rfl rfl rfl rfl rfl (OwnE.addr hL88) (by simpa using hc110) ?_
                              refine WO_storeO (E := B1) tbok (fun _ => rfl) 1 false rfl rfl rfl rfl rfl hL88 rfl (by simpa using idx_lt hc110) rfl rfl rfl rfl (fun L111 hL111 => ?_)
                              refine WO.cls (C' := St w0 m m83 [[⟨b4, 25, [.int .i64 s_10, .int .i64 s_11, .int .i64 s_12, .int .i64 s_13, .int .i64 s_14, .slice a51 ((l_15).length) c53]⟩], L111, L81, [⟨b86, 25, [.int .i64 y_24, .int .i64 y_25, .int .i64 y_26, .int .i64 y_27, .int .i64 y_28, .slice a78 ((y_29).length) c79]⟩]]) (fun _ h => h) ?_
                              refine WO_end ?_
                              cases hx107
                              refine WK.sub ?_ (WK.cls (fun _ h => h) (hk108 L111 hL111))
                              exact ⟨rfl, rfl, rfl, rfl, rfl, rfl, rfl, rfl, rfl, rfl, rfl, rfl, rfl, trivial⟩
                            · have hx107 := ifF hb109 hx107
                              refine WK_skip ?_
                              cases hx107
                              refine WK.sub ?_ (WK.cls (fun _ h => h) (hk108 L88 hL88))
                              exact ⟨rfl, rfl, rfl, rfl, rfl, rfl, rfl, rfl, rfl, rfl, rfl, rfl, rfl, trivial⟩
                        · refine WK_draw 16 [0, 1, 2, 3, 4, 5, 6, 7, 8, 9, 10, 11, 12, 13, 14, 15] follows_ok (by kernel_rfl) St_closed ?_
                          refine WO_pure tbok 3 [(2, .slice a_p2 p2.length c_p2), (3, .pointer (some ⟨b4, 0, none⟩)), (6, .slice none 0 0), (7, .int .i64 0), (12, .slice (some ⟨b30, 0, none⟩) ((List.replicate (p0_5.length : Int).toNat false).length) c31), (15, .int .i64 s_9), (17, .pointer (some ⟨b86, 0, none⟩)), (18, .int .i64 s_31), (19, .int .i64 v_33), (100, .slice a_p1 p1.length c_p1), (101, .int .i64 (p1.length : Int)), (102, .int .i64 s_9), (111, .slice a51 ((l_15).length) c53), (112, .int .i64 ((l_15).length : Int)), (113, .int .i64 s_31), (120, .bool (v_33 != (-2147483648)))] rfl ⟨rfl, rfl, rfl, rfl, rfl, rfl, rfl, rfl, rfl, rfl, rfl, rfl, rfl, rfl, rfl, rfl, trivial⟩ ?_
                          refine WO_split (d := 120) (b := v_33 != (-2147483648)) rfl (fun hb113 => ?_) (fun hb113 => ?_)
                          · have hx103 := ifT hb113 hx103
                            refine WO_pure tbok 2 [(2, .slice a_p2 p2.length c_p2), (3, .pointer (some ⟨b4, 0, none⟩)), (6, .slice none 0 0), (7, .int .i64 0), (12, .slice (some ⟨b30, 0, none⟩) ((List.replicate (p0_5.length : Int).toNat false).length) c31), (15, .int .i64 s_9), (17, .pointer (some ⟨b86, 0, none⟩)), (18, .int .i64 s_31), (100, .slice a_p1 p1.length c_p1), (101, .int .i64 (p1.length : Int)), (102, .int .i64 s_9), (111, .slice a51 ((l_15).length) c53), (112, .int .i64 ((l_15).length : Int)), (113, .int .i64 s_31), (120, .bool true), (121, .int .i64 v_33), (122, .pointer (some ⟨b86, 5, none⟩))] rfl ⟨rfl, rfl, rfl, rfl, rfl, rfl, rfl, rfl, rfl, rfl, rfl, rfl, rfl, rfl, rfl, rfl, rfl, trivial⟩ ?_
                            refine WO_loadB tbok 3 rfl rfl rfl rfl (fun _ h => h) rfl rfl ?_
                            refine WO_pure tbok 1 [(2, .slice a_p2 p2.length c_p2), (3, .pointer (some ⟨b4, 0, none⟩)), (6, .slice none 0 0), (7, .int .i64 0), (12, .slice (some ⟨b30, 0, none⟩) ((List.replicate (p0_5.length : Int).toNat false).length) c31), (15, .int .i64 s_9), (17, .pointer (some ⟨b86, 0, none⟩)), (18, .int .i64 s_31), (100, .slice a_p1 p1.length c_p1), (101, .int .i64 (p1.length : Int)), (102, .int .i64 s_9), (111, .slice a51 ((l_15).length) c53), (112, .int .i64 ((l_15).length : Int)), (113, .int .i64 s_31), (120, .bool true), (121, .int .i64 v_33), (123, .slice a78 ((y_29).length) c79), (124, .int .i64 s_31)] rfl ⟨rfl, rfl, rfl, rfl, rfl, rfl, rfl, rfl, rfl, rfl, rfl, rfl, rfl, rfl, rfl, rfl, rfl, rfl, trivial⟩ ?_
                            obtain ⟨v_36, hy114, hx103⟩ := bind_some hx103
                            obtain ⟨hc115, hy114⟩ := ix_some hy114
                            refine WO_index tbok rfl rfl rfl rfl rfl rfl rfl rfl (SlR.addr h85) hc115 ?_
                            refine WO_loadE tbok rfl rfl rfl rfl (fun _ h => St.sat h) h85 hy114 rfl ?_
                            refine WO_pure tbok 2 [(2, .slice a_p2 p2.length c_p2), (3, .pointer (some ⟨b4, 0, none⟩)), (6, .slice none 0 0), (7, .int .i64 0), (12, .slice (some ⟨b30, 0, none⟩) ((List.replicate (p0_5.length : Int).toNat false).length) c31), (15, .int .i64 s_9), (17, .pointer (some ⟨b86, 0, none⟩)), (18, .int .i64 s_31), (100, .slice a_p1 p1.length c_p1), (101, .int .i64 (p1.length : Int)), (102, .int .i64 s_9), (111, .slice a51 ((l_15).length) c53), (112, .int .i64 ((l_15).length : Int)), (113, .int .i64 s_31), (120, .bool true), (121, .int .i64 v_33), (126, .int .i64 v_36), (127, .slice a_p2 p2.length c_p2), (128, .int .i64 s_9)] rfl ⟨rfl, rfl, rfl, rfl, rfl, rfl, rfl, rfl, rfl, rfl, rfl, rfl, rfl, rfl, rfl, rfl, rfl, rfl, rfl, trivial⟩ ?_
                            obtain ⟨v_37, hy116, hx103⟩ := bind_some hx103
                            obtain ⟨hc117, hy116⟩ := ix_some hy116
                            refine WO_index tbok rfl rfl rfl rfl rfl rfl rfl rfl (SlR.addr ((h_p2.mono (mono_FE _) hle48).mono (mono_FE _) hle84)) hc117 ?_
                            refine WO_loadE tbok rfl rfl rfl rfl (fun _ h => St.sat h) ((h_p2.mono (mono_FE _) hle48).mono (mono_FE _) hle84) hy116 rfl ?_
                            refine WO_pure tbok 3 [(2, .slice a_p2 p2.length c_p2), (3, .pointer (some ⟨b4, 0, none⟩)), (6, .slice none 0 0), (7, .int .i64 0), (12, .slice (some ⟨b30, 0, none⟩) ((List.replicate (p0_5.length : Int).toNat false).length) c31), (15, .int .i64 s_9), (17, .pointer (some ⟨b86, 0, none⟩)), (18, .int .i64 s_31), (100, .slice a_p1 p1.length c_p1), (101, .int .i64 (p1.length : Int)), (102, .int .i64 s_9), (111, .slice a51 ((l_15).length) c53), (112, .int .i64 ((l_15).length : Int)), (113, .int .i64 s_31), (133, .bool (decide ((w64 (v_36 + v_37)) < v_33)))] rfl ⟨rfl, rfl, rfl, rfl, rfl, rfl, rfl, rfl, rfl, rfl, rfl, rfl, rfl, rfl, rfl, trivial⟩ ?_
                            refine WO_tail ?_
                            refine WO_end ?_
                            cases hx103
                            refine WK.sub ?_ (WK.cls (fun _ h => h) hk104)
                            exact ⟨rfl, rfl, rfl, rfl, rfl, rfl, rfl, rfl, rfl, rfl, rfl, rfl, rfl, rfl, rfl, trivial⟩
                          · have hx103 := ifF hb113 hx103
                            refine WO_pure tbok 13 [(2, .slice a_p2 p2.length c_p2), (3, .pointer (some ⟨b4, 0, none⟩)), (6, .slice none 0 0), (7, .int .i64 0), (12, .slice (some ⟨b30, 0, none⟩) ((List.replicate (p0_5.length : Int).toNat false).length) c31), (15, .int .i64 s_9), (17, .pointer (some ⟨b86, 0, none⟩)), (18, .int .i64 s_31), (100, .slice a_p1 p1.length c_p1), (101, .int .i64 (p1.length : Int)), (102, .int .i64 s_9), (111, .slice a51 ((l_15).length) c53), (112, .int .i64 ((l_15).length : Int)), (113, .int .i64 s_31), (133, .bool false)] rfl ⟨rfl, rfl, rfl, rfl, rfl, rfl, rfl, rfl, rfl, rfl, rfl, rfl, rfl, rfl, rfl, trivial⟩ ?_
                            refine WO_tail ?_
                            refine WO_end ?_
                            cases hx103
                            refine WK.sub ?_ (WK.cls (fun _ h => h) hk104)
                            exact ⟨rfl, rfl, rfl, rfl, rfl, rfl, rfl, rfl, rfl, rfl, rfl, rfl, rfl, rfl, rfl, trivial⟩
                      · have hm94 := ifF hb100 hm94
                        refine WK_exit rfl ?_
                        cases hm94
                        refine WK.sub ?_ (WK.cls (fun _ h => h) (hk93 (l_30, L88) ⟨(hd98 _ rfl), hL88⟩))
                        exact ⟨rfl, rfl, rfl, rfl, rfl, rfl, rfl, rfl, rfl, trivial⟩
                  · have hm68 := ifF hb74 hm68
                    refine WK_exit rfl ?_
                    cases hm68
                    refine WK.sub ?_ (WK.cls (fun _ h => h) (hk67 ((l_8, s_10, s_11, s_12, s_13, s_14, l_15), (m47, L50, a51, _, c53)) ⟨(hd72 _ rfl), hle48, hL50, h54⟩))
                    exact ⟨rfl, rfl, rfl, trivial⟩
              · refine WK_block ?_
                refine WK_loop (S := List Bool × Int) (G := List Ent) (fun s => terrain_Ground_s3 p0_5 s.1 s.2) (fun s g => [(1, .slice a_p1 p1.length c_p1), (2, .slice a_p2 p2.length c_p2), (3, .pointer (some ⟨b4, 0, none⟩)), (6, .slice none 0 0), (7, .int .i64 0), (12, .slice (some ⟨b30, 0, none⟩) ((List.replicate (p0_5.length : Int).toNat false).length) c31), (87, .slice a_p0_5 p0_5.length c_p0_5), (88, .int .i64 (p0_5.length : Int)), (89, .int .i64 s.2)]) (fun s g => St w0 m m [[⟨b4, 25, [.int .i64 p0_0, .int .i64 p0_1, .int .i64 p0_2, .int .i64 p0_3, .int .i64 p0_4, .slice a_p0_5 p0_5.length c_p0_5]⟩], g]) (fun s g => OwnE 4 1 B1 (.slice (some ⟨b30, 0, none⟩) ((List.replicate (p0_5.length : Int).toNat false).length) c31) s.1 g) FUEL ((List.replicate (p0_5.length : Int).toNat false), 0) L32 x38 hx39 hL32 ⟨rfl, rfl, rfl, rfl, rfl, rfl, rfl, rfl, rfl, trivial⟩ (fun _ h => h) ?_
                rintro ⟨l_5, s_6⟩ L35 o42 fl43 hm41 hL35 hn44 hd45
                have hm41 : terrain_Ground_s3 p0_5 l_5 s_6 = some o42 := hm41
                unfold terrain_Ground_s3 at hm41
                refine WK.sub (e' := [(1, .slice a_p1 p1.length c_p1), (2, .slice a_p2 p2.length c_p2), (3, .pointer (some ⟨b4, 0, none⟩)), (6, .slice none 0 0), (7, .int .i64 0), (12, .slice (some ⟨b30, 0, none⟩) ((List.replicate (p0_5.length : Int).toNat false).length) c31), (87, .slice a_p0_5 p0_5.length c_p0_5), (88, .int .i64 (p0_5.length : Int)), (89, .int .i64 s_6)]) ⟨rfl, rfl, rfl, rfl, rfl, rfl, rfl, rfl, rfl, trivial⟩ (WK.cls (C' := St w0 m m [[⟨b4, 25, [.int .i64 p0_0, .int .i64 p0_1, .int .i64 p0_2, .int .i64 p0_3, .int .i64 p0_4, .slice a_p0_5 p0_5.length c_p0_5]⟩], L35]) (fun _ h => h) ?_)
                refine WK_seq ?_
                refine WK_region ?_
                refine WO_pure tbok 1 [(1, .slice a_p1 p1.length c_p1), (2, .slice a_p2 p2.length c_p2), (3, .pointer (some ⟨b4, 0, none⟩)), (6, .slice none 0 0), (7, .int .i64 0), (12, .slice (some ⟨b30, 0, none⟩) ((List.replicate (p0_5.length : Int).toNat false).length) c31), (87, .slice a_p0_5 p0_5.length c_p0_5), (88, .int .i64 (p0_5.length : Int)), (89, .int .i64 s_6), (90, .bool (decide (s_6 < (p0_5.length : Int))))] rfl ⟨rfl, rfl, rfl, rfl, rfl, rfl, rfl, rfl, rfl, rfl, trivial⟩ ?_
                refine WO_end ?_
                refine WK_seq ?_
                refine WK_cond (b := decide (s_6 < (p0_5.length : Int))) rfl (fun hb118 => ?_) (fun hb118 => ?_)
                · have hm41 := ifT hb118 hm41
                  refine WK_skip ?_
                  refine WK_seq ?_
                  refine WK_block ?_
                  refine WK_seq ?_
                  refine WK_region ?_
                  refine WO_pure tbok 1 [(1, .slice a_p1 p1.length c_p1), (2, .slice a_p2 p2.length c_p2), (3, .pointer (some ⟨b4, 0, none⟩)), (6, .slice none 0 0), (7, .int .i64 0), (12, .slice (some ⟨b30, 0, none⟩) ((List.replicate (p0_5.length : Int).toNat false).length) c31), (87, .slice a_p0_5 p0_5.length c_p0_5), (88, .int .i64 (p0_5.length : Int)), (89, .int .i64 s_6), (91, .int .i64 s_6)] rfl ⟨rfl, rfl, rfl, rfl, rfl, rfl, rfl, rfl, rfl, rfl, trivial⟩ ?_
                  obtain ⟨v_38, hy119, hm41⟩ := bind_some hm41
                  obtain ⟨hc120, hy119⟩ := ix_some hy119
                  refine WO_index tbok rfl rfl rfl rfl rfl rfl rfl rfl (SlR.addr h_p0_5) hc120 ?_
                  refine WO_loadE tbok rfl rfl rfl rfl (fun _ h => St.sat h) h_p0_5 hy119 rfl ?_
                  refine WO_pure tbok 2 [(1, .slice a_p1 p1.length c_p1), (2, .slice a_p2 p2.length c_p2), (3, .pointer (some ⟨b4, 0, none⟩)), (6, .slice none 0 0), (7, .int .i64 0), (12, .slice (some ⟨b30, 0, none⟩) ((List.replicate (p0_5.length : Int).toNat false).length) c31), (13, .int .i64 s_6), (14, .int .i64 v_38), (87, .slice a_p0_5 p0_5.length c_p0_5), (88, .int .i64 (p0_5.length : Int)), (89, .int .i64 s_6)] rfl ⟨rfl, rfl, rfl, rfl, rfl, rfl, rfl, rfl, rfl, rfl, rfl, trivial⟩ ?_
                  refine WO_end ?_
                  refine WK_region ?_
                  refine WO_pure tbok 4 [(1, .slice a_p1 p1.length c_p1), (2, .slice a_p2 p2.length c_p2), (3, .pointer (some ⟨b4, 0, none⟩)), (6, .slice none 0 0), (7, .int .i64 0), (12, .slice (some ⟨b30, 0, none⟩) ((List.replicate (p0_5.length : Int).toNat false).length) c31), (87, .slice a_p0_5 p0_5.length c_p0_5), (88, .int .i64 (p0_5.length : Int)), (89, .int .i64 s_6), (94, .slice (some ⟨b30, 0, none⟩) ((List.replicate (p0_5.length : Int).toNat false).length) c31), (95, .int .i64 s_6), (97, .bool (v_38 != (-2147483648)))] rfl ⟨rfl, rfl, rfl, rfl, rfl, rfl, rfl, rfl, rfl, rfl, rfl, rfl, trivial⟩ ?_
                  obtain ⟨hc121, hm41⟩ := chk_some hm41
                  refine WO_index tbok rfl rfl rfl rfl rfl rfl rfl rfl (OwnE.addr hL35) (by simpa using hc121) ?_
                  refine WO_storeO (E := B1) tbok (fun _ => rfl) 1 (v_38 != (-2147483648)) rfl rfl rfl rfl rfl hL35 rfl (by simpa using idx_lt hc121) rfl rfl rfl rfl (fun L122 hL122 => ?_)
                  refine WO.cls (C' := St w0 m m [[⟨b4, 25, [.int .i64 p0_0, .int .i64 p0_1, .int .i64 p0_2, .int .i64 p0_3, .int .i64 p0_4, .slice a_p0_5 p0_5.length c_p0_5]⟩], L122]) (fun _ h => h) ?_
                  refine WO_end ?_
                  refine WK_blk ?_
                  refine WK_region ?_
                  refine WO_pure tbok 2 [(1, .slice a_p1 p1.length c_p1), (2, .slice a_p2 p2.length c_p2), (3, .pointer (some ⟨b4, 0, none⟩)), (6, .slice none 0 0), (7, .int .i64 0), (12, .slice (some ⟨b30, 0, none⟩) ((List.replicate (p0_5.length : Int).toNat false).length) c31), (87, .slice a_p0_5 p0_5.length c_p0_5), (88, .int .i64 (p0_5.length : Int)), (89, .int .i64 (w64 (s_6 + 1)))] rfl ⟨rfl, rfl, rfl, rfl, rfl, rfl, rfl, rfl, rfl, trivial⟩ ?_
                  refine WO_end ?_
                  cases hm41
                  refine WK.sub ?_ (WK.cls (fun _ h => h) (hn44 _ L122 rfl hL122))
                  exact ⟨rfl, rfl, rfl, rfl, rfl, rfl, rfl, rfl, rfl, trivial⟩
                · have hm41 := ifF hb118 hm41
                  refine WK_exit rfl ?_
                  cases hm41
                  refine WK.sub ?_ (WK.cls (fun _ h => h) (hk40 (l_5, L35) ⟨(hd45 _ rfl), hL35⟩))
                  exact ⟨rfl, rfl, rfl, rfl, rfl, rfl, trivial⟩
            · refine WK_block ?_
              refine WK_loop (S := Int) (G := Unit) (fun s => terrain_Ground_s2 p1 s) (fun s g => [(1, .slice a_p1 p1.length c_p1), (2, .slice a_p2 p2.length c_p2), (3, .pointer (some ⟨b4, 0, none⟩)), (6, .slice none 0 0), (7, .int .i64 0), (11, .int .i64 s)]) (fun s g => St w0 m m [[⟨b4, 25, [.int .i64 p0_0, .int .i64 p0_1, .int .i64 p0_2, .int .i64 p0_3, .int .i64 p0_4, .slice a_p0_5 p0_5.length c_p0_5]⟩]]) (fun s g => True) FUEL 1 () x20 hx21 trivial ⟨rfl, rfl, rfl, rfl, rfl, rfl, trivial⟩ (fun _ h => h) ?_
              rintro s_4 ⟨⟩ o24 fl25 hm23 - hn26 hd27
              have hm23 : terrain_Ground_s2 p1 s_4 = some o24 := hm23
              unfold terrain_Ground_s2 at hm23
              refine WK.sub (e' := [(1, .slice a_p1 p1.length c_p1), (2, .slice a_p2 p2.length c_p2), (3, .pointer (some ⟨b4, 0, none⟩)), (6, .slice none 0 0), (7, .int .i64 0), (11, .int .i64 s_4)]) ⟨rfl, rfl, rfl, rfl, rfl, rfl, trivial⟩ (WK.cls (C' := St w0 m m [[⟨b4, 25, [.int .i64 p0_0, .int .i64 p0_1, .int .i64 p0_2, .int .i64 p0_3, .int .i64 p0_4, .slice a_p0_5 p0_5.length c_p0_5]⟩]]) (fun _ h => h) ?_)
              refine WK_seq ?_
              refine WK_seq ?_
              refine WK_region ?_
              refine WO_pure tbok 4 [(1, .slice a_p1 p1.length c_p1), (2, .slice a_p2 p2.length c_p2), (3, .pointer (some ⟨b4, 0, none⟩)), (6, .slice none 0 0), (7, .int .i64 0), (11, .int .i64 s_4), (69, .bool (decide (s_4 < (p1.length : Int))))] rfl ⟨rfl, rfl, rfl, rfl, rfl, rfl, rfl, trivial⟩ ?_
              refine WO_end ?_
              refine WK_cond (b := decide (s_4 < (p1.length : Int))) rfl (fun hb124 => ?_) (fun hb124 => ?_)
              · have hm23 := ifT hb124 hm23
                refine WK_skip ?_
                refine WK_seq ?_
                refine WK_block ?_
                refine WK_seq ?_
                refine WK_draw 10 [0, 1, 2, 3, 4, 5, 6, 7, 8, 9] follows_ok (by kernel_rfl) St_closed ?_
                refine WO_pure tbok 2 [(1, .slice a_p1 p1.length c_p1), (2, .slice a_p2 p2.length c_p2), (3, .pointer (some ⟨b4, 0, none⟩)), (6, .slice none 0 0), (7, .int .i64 0), (11, .int .i64 s_4), (72, .slice a_p1 p1.length c_p1), (73, .int .i64 s_4)] rfl ⟨rfl, rfl, rfl, rfl, rfl, rfl, rfl, rfl, trivial⟩ ?_
                obtain ⟨v_39, hy125, hm23⟩ := bind_some hm23
                obtain ⟨hc126, hy125⟩ := ix_some hy125
                refine WO_index tbok rfl rfl rfl rfl rfl rfl rfl rfl (SlR.addr h_p1) hc126 ?_
                refine WO_loadE tbok rfl rfl rfl rfl (fun _ h => St.sat h) h_p1 hy125 rfl ?_
                refine WO_pure tbok 3 [(1, .slice a_p1 p1.length c_p1), (2, .slice a_p2 p2.length c_p2), (3, .pointer (some ⟨b4, 0, none⟩)), (6, .slice none 0 0), (7, .int .i64 0), (11, .int .i64 s_4), (75, .int .i64 v_39), (76, .slice a_p1 p1.length c_p1), (78, .int .i64 (w64 (s_4 - 1)))] rfl ⟨rfl, rfl, rfl, rfl, rfl, rfl, rfl, rfl, rfl, trivial⟩ ?_
                obtain ⟨v_40, hy127, hm23⟩ := bind_some hm23
                obtain ⟨hc128, hy127⟩ := ix_some hy127
                refine WO_index tbok rfl rfl rfl rfl rfl rfl rfl rfl (SlR.addr h_p1) hc128 ?_
                refine WO_loadE tbok rfl rfl rfl rfl (fun _ h => St.sat h) h_p1 hy127 rfl ?_
                refine WO_pure tbok 1 [(1, .slice a_p1 p1.length c_p1), (2, .slice a_p2 p2.length c_p2), (3, .pointer (some ⟨b4, 0, none⟩)), (6, .slice none 0 0), (7, .int .i64 0), (11, .int .i64 s_4), (81, .bool (decide (v_39 ≤ v_40)))] rfl ⟨rfl, rfl, rfl, rfl, rfl, rfl, rfl, trivial⟩ ?_
                refine WO_tail ?_
                refine WO_end ?_
                refine WK_cond (b := decide (v_39 ≤ v_40)) rfl (fun hb129 => ?_) (fun hb129 => ?_)
                · have hm23 := ifT hb129 hm23
                  refine WK_seq ?_
                  refine WK_region ?_
                  refine WO_pure tbok 2 [(1, .slice a_p1 p1.length c_p1), (2, .slice a_p2 p2.length c_p2), (3, .pointer (some ⟨b4, 0, none⟩)), (6, .slice none 0 0), (7, .int .i64 5), (11, .int .i64 s_4)] rfl ⟨rfl, rfl, rfl, rfl, rfl, rfl, trivial⟩ ?_
                  refine WO_end ?_
                  cases hm23
                  have hq := hd27 _ rfl
                  subst hq
                  have hm : some _ = some _ := hm
                  cases hm
                  exact WK_ret (ret_out (L := []) (RLc_tmp rfl (RLc_tmp rfl RLc_nil)) (List.nil_sublist _) ⟨none, 0, 0, rfl, (OwnE.nil none)⟩)
                · have hm23 := ifF hb129 hm23
                  refine WK_skip ?_
                  refine WK_blk ?_
                  refine WK_region ?_
                  refine WO_pure tbok 3 [(1, .slice a_p1 p1.length c_p1), (2, .slice a_p2 p2.length c_p2), (3, .pointer (some ⟨b4, 0, none⟩)), (6, .slice none 0 0), (7, .int .i64 0), (11, .int .i64 (w64 (s_4 + 1)))] rfl ⟨rfl, rfl, rfl, rfl, rfl, rfl, trivial⟩ ?_
                  refine WO_end ?_
                  cases hm23
                  refine WK.sub ?_ (WK.cls (fun _ h => h) (hn26 _ () rfl trivial))
                  exact ⟨rfl, rfl, rfl, rfl, rfl, rfl, trivial⟩
              · have hm23 := ifF hb124 hm23
                refine WK_exit rfl ?_
                cases hm23
                refine WK.sub ?_ (WK.cls (fun _ h => h) (hk22 ((), ()) (hd27 _ rfl)))
                exact ⟨rfl, rfl, rfl, rfl, rfl, trivial⟩
          · refine WK_block ?_
            refine WK_loop (S := Int) (G := Unit) (fun s => terrain_Ground_s1 p1 p2 s) (fun s g => [(1, .slice a_p1 p1.length c_p1), (2, .slice a_p2 p2.length c_p2), (3, .pointer (some ⟨b4, 0, none⟩)), (6, .slice none 0 0), (7, .int .i64 0), (38, .slice a_p1 p1.length c_p1), (39, .int .i64 (p1.length : Int)), (40, .int .i64 s)]) (fun s g => St w0 m m [[⟨b4, 25, [.int .i64 p0_0, .int .i64 p0_1, .int .i64 p0_2, .int .i64 p0_3, .int .i64 p0_4, .slice a_p0_5 p0_5.length c_p0_5]⟩]]) (fun s g => True) FUEL 0 () x11 hx12 trivial ⟨rfl, rfl, rfl, rfl, rfl, rfl, rfl, rfl, trivial⟩ (fun _ h => h) ?_
            rintro s_3 ⟨⟩ o15 fl16 hm14 - hn17 hd18
            have hm14 : terrain_Ground_s1 p1 p2 s_3 = some o15 := hm14
            unfold terrain_Ground_s1 at hm14
            refine WK.sub (e' := [(1, .slice a_p1 p1.length c_p1), (2, .slice a_p2 p2.length c_p2), (3, .pointer (some ⟨b4, 0, none⟩)), (6, .slice none 0 0), (7, .int .i64 0), (38, .slice a_p1 p1.length c_p1), (39, .int .i64 (p1.length : Int)), (40, .int .i64 s_3)]) ⟨rfl, rfl, rfl, rfl, rfl, rfl, rfl, rfl, trivial⟩ (WK.cls (C' := St w0 m m [[⟨b4, 25, [.int .i64 p0_0, .int .i64 p0_1, .int .i64 p0_2, .int .i64 p0_3, .int .i64 p0_4, .slice a_p0_5 p0_5.length c_p0_5]⟩]]) (fun _ h => h) ?_)
            refine WK_seq ?_
            refine WK_region ?_
            refine WO_pure tbok 1 [(1, .slice a_p1 p1.length c_p1), (2, .slice a_p2 p2.length c_p2), (3, .pointer (some ⟨b4, 0, none⟩)), (6, .slice none 0 0), (7, .int .i64 0), (38, .slice a_p1 p1.length c_p1), (39, .int .i64 (p1.length : Int)), (40, .int .i64 s_3), (41, .bool (decide (s_3 < (p1.length : Int))))] rfl ⟨rfl, rfl, rfl, rfl, rfl, rfl, rfl, rfl, rfl, trivial⟩ ?_
            refine WO_end ?_
            refine WK_seq ?_
            refine WK_cond (b := decide (s_3 < (p1.length : Int))) rfl (fun hb130 => ?_) (fun hb130 => ?_)
            · have hm14 := ifT hb130 hm14
              refine WK_skip ?_
              refine WK_seq ?_
              refine WK_block ?_
              refine WK_seq ?_
              refine WK_region ?_
              refine WO_pure tbok 1 [(1, .slice a_p1 p1.length c_p1), (2, .slice a_p2 p2.length c_p2), (3, .pointer (some ⟨b4, 0, none⟩)), (6, .slice none 0 0), (7, .int .i64 0), (38, .slice a_p1 p1.length c_p1), (39, .int .i64 (p1.length : Int)), (40, .int .i64 s_3), (42, .int .i64 s_3)] rfl ⟨rfl, rfl, rfl, rfl, rfl, rfl, rfl, rfl, rfl, trivial⟩ ?_
              obtain ⟨v_41, hy131, hm14⟩ := bind_some hm14
              obtain ⟨hc132, hy131⟩ := ix_some hy131
              refine WO_index tbok rfl rfl rfl rfl rfl rfl rfl rfl (SlR.addr h_p1) hc132 ?_
              refine WO_loadE tbok rfl rfl rfl rfl (fun _ h => St.sat h) h_p1 hy131 rfl ?_
              refine WO_pure tbok 2 [(1, .slice a_p1 p1.length c_p1), (2, .slice a_p2 p2.length c_p2), (3, .pointer (some ⟨b4, 0, none⟩)), (6, .slice none 0 0), (7, .int .i64 0), (9, .int .i64 s_3), (10, .int .i64 v_41), (38, .slice a_p1 p1.length c_p1), (39, .int .i64 (p1.length : Int)), (40, .int .i64 s_3)] rfl ⟨rfl, rfl, rfl, rfl, rfl, rfl, rfl, rfl, rfl, rfl, trivial⟩ ?_
              refine WO_end ?_
              refine WK_seq ?_
              obtain ⟨s_42, hx133, hm14⟩ := bind_some hm14
              refine WK_meet [(1, .slice a_p1 p1.length c_p1), (2, .slice a_p2 p2.length c_p2), (3, .pointer (some ⟨b4, 0, none⟩)), (6, .slice none 0 0), (7, .int .i64 0), (38, .slice a_p1 p1.length c_p1), (39, .int .i64 (p1.length : Int)), (40, .int .i64 s_3), (64, .bool s_42)] (St w0 m m [[⟨b4, 25, [.int .i64 p0_0, .int .i64 p0_1, .int .i64 p0_2, .int .i64 p0_3, .int .i64 p0_4, .slice a_p0_5 p0_5.length c_p0_5]⟩]]) ?_ (fun hk134 => ?_)
              · refine WK_cond (b := s_42) rfl (fun hb135 => ?_) (fun hb135 => ?_)
                · have hm14 := ifT hb135 hm14
                  refine WK_seq ?_
                  refine WK_region ?_
                  refine WO_pure tbok 2 [(1, .slice a_p1 p1.length c_p1), (2, .slice a_p2 p2.length c_p2), (3, .pointer (some ⟨b4, 0, none⟩)), (6, .slice none 0 0), (7, .int .i64 2), (38, .slice a_p1 p1.length c_p1), (39, .int .i64 (p1.length : Int)), (40, .int .i64 s_3)] rfl ⟨rfl, rfl, rfl, rfl, rfl, rfl, rfl, rfl, trivial⟩ ?_
                  refine WO_end ?_
                  cases hm14
                  have hq := hd18 _ rfl
                  subst hq
                  have hm : some _ = some _ := hm
                  cases hm
                  exact WK_ret (ret_out (L := []) (RLc_tmp rfl (RLc_tmp rfl RLc_nil)) (List.nil_sublist _) ⟨none, 0, 0, rfl, (OwnE.nil none)⟩)
                · have hm14 := ifF hb135 hm14
                  refine WK_skip ?_
                  refine WK_blk ?_
                  refine WK_region ?_
                  refine WO_pure tbok 2 [(1, .slice a_p1 p1.length c_p1), (2, .slice a_p2 p2.length c_p2), (3, .pointer (some ⟨b4, 0, none⟩)), (6, .slice none 0 0), (7, .int .i64 0), (38, .slice a_p1 p1.length c_p1), (39, .int .i64 (p1.length : Int)), (40, .int .i64 (w64 (s_3 + 1)))] rfl ⟨rfl, rfl, rfl, rfl, rfl, rfl, rfl, rfl, trivial⟩ ?_
                  refine WO_end ?_
                  cases hm14
                  refine WK.sub ?_ (WK.cls (fun _ h => h) (hn17 _ () rfl trivial))
                  exact ⟨rfl, rfl, rfl, rfl, rfl, rfl, rfl, rfl, trivial⟩
              · refine WK_region ?_
                refine WO_pure tbok 3 [(1, .slice a_p1 p1.length c_p1), (2, .slice a_p2 p2.length c_p2), (3, .pointer (some ⟨b4, 0, none⟩)), (6, .slice none 0 0), (7, .int .i64 0), (9, .int .i64 s_3), (10, .int .i64 v_41), (38, .slice a_p1 p1.length c_p1), (39, .int .i64 (p1.length : Int)), (40, .int .i64 s_3), (47, .bool (decide (v_41 < 1)))] rfl ⟨rfl, rfl, rfl, rfl, rfl, rfl, rfl, rfl, rfl, rfl, rfl, trivial⟩ ?_
                refine WO_split (d := 47) (b := decide (v_41 < 1)) rfl (fun hb136 => ?_) (fun hb136 => ?_)
                · have hx133 := ifT hb136 hx133
                  refine WO_pure tbok 17 [(1, .slice a_p1 p1.length c_p1), (2, .slice a_p2 p2.length c_p2), (3, .pointer (some ⟨b4, 0, none⟩)), (6, .slice none 0 0), (7, .int .i64 0), (38, .slice a_p1 p1.length c_p1), (39, .int .i64 (p1.length : Int)), (40, .int .i64 s_3), (64, .bool true)] rfl ⟨rfl, rfl, rfl, rfl, rfl, rfl, rfl, rfl, rfl, trivial⟩ ?_
                  refine WO_end ?_
                  cases hx133
                  refine WK.sub ?_ (WK.cls (fun _ h => h) hk134)
                  exact ⟨rfl, rfl, rfl, rfl, rfl, rfl, rfl, rfl, rfl, trivial⟩
                · have hx133 := ifF hb136 hx133
                  refine WO_pure tbok 4 [(1, .slice a_p1 p1.length c_p1), (2, .slice a_p2 p2.length c_p2), (3, .pointer (some ⟨b4, 0, none⟩)), (6, .slice none 0 0), (7, .int .i64 0), (9, .int .i64 s_3), (38, .slice a_p1 p1.length c_p1), (39, .int .i64 (p1.length : Int)), (40, .int .i64 s_3), (51, .bool (decide (8 < v_41)))] rfl ⟨rfl, rfl, rfl, rfl, rfl, rfl, rfl, rfl, rfl, rfl, trivial⟩ ?_
                  refine WO_split (d := 51) (b := decide (8 < v_41)) rfl (fun hb137 => ?_) (fun hb137 => ?_)
                  · have hx133 := ifT hb137 hx133
                    refine WO_pure tbok 13 [(1, .slice a_p1 p1.length c_p1), (2, .slice a_p2 p2.length c_p2), (3, .pointer (some ⟨b4, 0, none⟩)), (6, .slice none 0 0), (7, .int .i64 0), (38, .slice a_p1 p1.length c_p1), (39, .int .i64 (p1.length : Int)), (40, .int .i64 s_3), (64, .bool true)] rfl ⟨rfl, rfl, rfl, rfl, rfl, rfl, rfl, rfl, rfl, trivial⟩ ?_
                    refine WO_end ?_
                    cases hx133
                    refine WK.sub ?_ (WK.cls (fun _ h => h) hk134)
                    exact ⟨rfl, rfl, rfl, rfl, rfl, rfl, rfl, rfl, rfl, trivial⟩
                  · have hx133 := ifF hb137 hx133
                    refine WO_pure tbok 2 [(1, .slice a_p1 p1.length c_p1), (2, .slice a_p2 p2.length c_p2), (3, .pointer (some ⟨b4, 0, none⟩)), (6, .slice none 0 0), (7, .int .i64 0), (9, .int .i64 s_3), (38, .slice a_p1 p1.length c_p1), (39, .int .i64 (p1.length : Int)), (40, .int .i64 s_3), (51, .bool false), (52, .slice a_p2 p2.length c_p2), (53, .int .i64 s_3)] rfl ⟨rfl, rfl, rfl, rfl, rfl, rfl, rfl, rfl, rfl, rfl, rfl, rfl, trivial⟩ ?_
                    obtain ⟨v_43, hy138, hx133⟩ := bind_some hx133
                    obtain ⟨hc139, hy138⟩ := ix_some hy138
                    refine WO_index tbok rfl rfl rfl rfl rfl rfl rfl rfl (SlR.addr h_p2) hc139 ?_
                    refine WO_loadE tbok rfl rfl rfl rfl (fun _ h => St.sat h) h_p2 hy138 rfl ?_
                    refine WO_pure tbok 3 [(1, .slice a_p1 p1.length c_p1), (2, .slice a_p2 p2.length c_p2), (3, .pointer (some ⟨b4, 0, none⟩)), (6, .slice none 0 0), (7, .int .i64 0), (9, .int .i64 s_3), (38, .slice a_p1 p1.length c_p1), (39, .int .i64 (p1.length : Int)), (40, .int .i64 s_3), (58, .bool (decide (v_43 < 0)))] rfl ⟨rfl, rfl, rfl, rfl, rfl, rfl, rfl, rfl, rfl, rfl, trivial⟩ ?_
                    refine WO_split (d := 58) (b := decide (v_43 < 0)) rfl (fun hb140 => ?_) (fun hb140 => ?_)
                    · have hx133 := ifT hb140 hx133
                      refine WO_pure tbok 6 [(1, .slice a_p1 p1.length c_p1), (2, .slice a_p2 p2.length c_p2), (3, .pointer (some ⟨b4, 0, none⟩)), (6, .slice none 0 0), (7, .int .i64 0), (38, .slice a_p1 p1.length c_p1), (39, .int .i64 (p1.length : Int)), (40, .int .i64 s_3), (64, .bool true)] rfl ⟨rfl, rfl, rfl, rfl, rfl, rfl, rfl, rfl, rfl, trivial⟩ ?_
                      refine WO_end ?_
                      cases hx133
                      refine WK.sub ?_ (WK.cls (fun _ h => h) hk134)
                      exact ⟨rfl, rfl, rfl, rfl, rfl, rfl, rfl, rfl, rfl, trivial⟩
                    · have hx133 := ifF hb140 hx133
                      refine WO_pure tbok 2 [(1, .slice a_p1 p1.length c_p1), (2, .slice a_p2 p2.length c_p2), (3, .pointer (some ⟨b4, 0, none⟩)), (6, .slice none 0 0), (7, .int .i64 0), (38, .slice a_p1 p1.length c_p1), (39, .int .i64 (p1.length : Int)), (40, .int .i64 s_3), (58, .bool false), (59, .slice a_p2 p2.length c_p2), (60, .int .i64 s_3)] rfl ⟨rfl, rfl, rfl, rfl, rfl, rfl, rfl, rfl, rfl, rfl, rfl, trivial⟩ ?_
                      obtain ⟨v_44, hy141, hx133⟩ := bind_some hx133
                      obtain ⟨hc142, hy141⟩ := ix_some hy141
                      refine WO_index tbok rfl rfl rfl rfl rfl rfl rfl rfl (SlR.addr h_p2) hc142 ?_
                      refine WO_loadE tbok rfl rfl rfl rfl (fun _ h => St.sat h) h_p2 hy141 rfl ?_
                      refine WO_pure tbok 2 [(1, .slice a_p1 p1.length c_p1), (2, .slice a_p2 p2.length c_p2), (3, .pointer (some ⟨b4, 0, none⟩)), (6, .slice none 0 0), (7, .int .i64 0), (38, .slice a_p1 p1.length c_p1), (39, .int .i64 (p1.length : Int)), (40, .int .i64 s_3), (64, .bool (decide (1048576 < v_44)))] rfl ⟨rfl, rfl, rfl, rfl, rfl, rfl, rfl, rfl, rfl, trivial⟩ ?_
                      refine WO_end ?_
                      cases hx133
                      refine WK.sub ?_ (WK.cls (fun _ h => h) hk134)
                      exact ⟨rfl, rfl, rfl, rfl, rfl, rfl, rfl, rfl, rfl, trivial⟩
            · have hm14 := ifF hb130 hm14
              refine WK_exit rfl ?_
              cases hm14
              refine WK.sub ?_ (WK.cls (fun _ h => h) (hk13 ((), ()) (hd18 _ rfl)))
              exact ⟨rfl, rfl, rfl, rfl, rfl, trivial⟩
      · refine WK_region ?_
        refine WO_pure tbok 4 [(1, .slice a_p1 p1.length c_p1), (2, .slice a_p2 p2.length c_p2), (3, .pointer (some ⟨b4, 0, none⟩)), (6, .slice none 0 0), (7, .int .i64 0), (33, .bool (decide ((p1.length : Int) < 1)))] rfl ⟨rfl, rfl, rfl, rfl, rfl, rfl, trivial⟩ ?_
        refine WO_split (d := 33) (b := decide ((p1.length : Int) < 1)) rfl (fun hb143 => ?_) (fun hb143 => ?_)
        · have hx8 := ifT hb143 hx8
          refine WO_pure tbok 4 [(1, .slice a_p1 p1.length c_p1), (2, .slice a_p2 p2.length c_p2), (3, .pointer (some ⟨b4, 0, none⟩)), (6, .slice none 0 0), (7, .int .i64 0), (37, .bool true)] rfl ⟨rfl, rfl, rfl, rfl, rfl, rfl, trivial⟩ ?_
          refine WO_end ?_
          cases hx8
          refine WK.sub ?_ (WK.cls (fun _ h => h) hk9)
          exact ⟨rfl, rfl, rfl, rfl, rfl, rfl, trivial⟩
        · have hx8 := ifF hb143 hx8
          refine WO_pure tbok 4 [(1, .slice a_p1 p1.length c_p1), (2, .slice a_p2 p2.length c_p2), (3, .pointer (some ⟨b4, 0, none⟩)), (6, .slice none 0 0), (7, .int .i64 0), (37, .bool (decide (8 < (p1.length : Int))))] rfl ⟨rfl, rfl, rfl, rfl, rfl, rfl, trivial⟩ ?_
          refine WO_end ?_
          cases hx8
          refine WK.sub ?_ (WK.cls (fun _ h => h) hk9)
          exact ⟨rfl, rfl, rfl, rfl, rfl, rfl, trivial⟩
def slices_Clone_sint_Q (r : List Int) : Value → List Ent → Prop := fun v L => ∃ (a0 : Option Addr) (q0 c0 : Nat), v = .slice a0 q0 c0 ∧ OwnE 3 1 (I1 .i64) (.slice a0 q0 c0) r L
theorem slices_Clone_sint_walk {m : Mu} {p0 : List Int} {a_p0 : Option Addr} {q_p0 c_p0 : Nat} (h_p0 : SlR (FE (I1 .i64)) 1 m (.slice a_p0 q_p0 c_p0) p0) {r : List Int} (hm : slices_Clone_sint p0 = some r) :
    Go.E.Spec Try.prog 23 [.slice a_p0 q_p0 c_p0] m (fun v _ L => slices_Clone_sint_Q r v L) := by
  refine Spec_enter Try.func23 rfl rfl rfl (fun w0 => ?_)
  refine WK.sub (e' := [(0, .slice a_p0 q_p0 c_p0)]) ⟨rfl, trivial⟩ ?_
  obtain rfl := SlR.qlen h_p0
  refine WK.sub (e' := [(0, .slice a_p0 p0.length c_p0)]) ⟨rfl, trivial⟩ ?_
  cases a_p0 with
  | none =>
    obtain ⟨hx, _, hc⟩ := SlR.none_nil h_p0
    subst hx
    subst hc
    unfold slices_Clone_sint at hm
    obtain ⟨_, hm⟩ := chk_some hm
    refine WK_seq ?_
    refine WK_region ?_
    refine WO_pure tbok 1 [(0, .slice none 0 0), (2, .slice none 0 0)] rfl ⟨rfl, rfl, trivial⟩ ?_
    refine WO_end ?_
    refine WK_seq ?_
    refine WK_seq ?_
    refine WK_region ?_
    refine WO_pure tbok 1 [(0, .slice none 0 0), (2, .slice none 0 0), (3, .slice none 0 0)] rfl ⟨rfl, rfl, rfl, trivial⟩ ?_
    refine WO_eqnil tbok rfl rfl rfl rfl rfl rfl rfl ?_
    refine WO_end ?_
    refine WK_condT rfl ?_
    refine WK_seq ?_
    refine WK_region ?_
    refine WO_pure tbok 1 [(0, .slice none 0 0), (2, .slice none 0 0)] rfl ⟨rfl, rfl, trivial⟩ ?_
    refine WO_end ?_
    cases hm
    exact WK_ret (ret_out (L := []) (RLc_tmp rfl RLc_nil) (List.nil_sublist _) ⟨none, 0, 0, rfl, (OwnE.nil none)⟩)
  | some ad =>
    unfold slices_Clone_sint at hm
    refine WK_seq ?_
    refine WK_region ?_
    refine WO_pure tbok 1 [(0, .slice (some ad) p0.length c_p0), (2, .slice none 0 0)] rfl ⟨rfl, rfl, trivial⟩ ?_
    refine WO_end ?_
    refine WK_seq ?_
    refine WK_seq ?_
    refine WK_region ?_
    refine WO_pure tbok 1 [(0, .slice (some ad) p0.length c_p0), (2, .slice none 0 0), (3, .slice (some ad) p0.length c_p0)] rfl ⟨rfl, rfl, rfl, trivial⟩ ?_
    refine WO_eqnil tbok rfl rfl rfl rfl rfl rfl rfl ?_
    refine WO_end ?_
    refine WK_condF rfl ?_
    refine WK_skip ?_
    refine WK_seq ?_
    refine WK_region ?_
    refine WO_bslice (E := (I1 .i64)) tbok (fun _ => rfl) (by decide) [] ([] : List Int) rfl rfl trivial rfl rfl rfl rfl rfl rfl rfl rfl rfl rfl rfl rfl (fun b2 hb2 => ?_)
    refine WO.cls (C' := St w0 m m [[⟨b2, 3, ([] : List Int).flatMap (I1 .i64)⟩]]) (fun _ h => h) ?_
    refine WO_pure tbok 1 [(2, .slice none 0 0), (5, .slice (some ⟨b2, 0, none⟩) 0 0), (6, .slice (some ad) p0.length c_p0)] rfl ⟨rfl, rfl, rfl, trivial⟩ ?_
    obtain ⟨hc4, hm⟩ := chk_some hm
    refine WO_appendS (E := (I1 .i64)) tbok (fun _ => rfl) (by decide) (fun _ => rfl) 0 p0 rfl rfl rfl rfl rfl rfl rfl rfl rfl rfl rfl rfl hb2 rfl (fun w hw => ⟨_, hw.sat, h_p0⟩) (ap_ok (by decide) hc4) (ap_max hc4) (fun a5 c6 L7 hL7 => ?_)
    refine WO.cls (C' := St w0 m m [L7]) (fun _ h => h) ?_
    refine WO_pure tbok 1 [(2, .slice a5 ((([] : List Int) ++ p0).length) c6)] rfl ⟨rfl, trivial⟩ ?_
    refine WO_end ?_
    cases hm
    exact WK_ret (ret_out (L := L7) (RLc_tmp rfl RLc_nil) (seg_sub 0 rfl) ⟨a5, ((([] : List Int) ++ p0).length), c6, rfl, hL7⟩)
def terrain_Fill_Q (r : Int × Int × Int × Int × Int × List Int × Int) : Value → Mu → List Ent → Prop := fun v m L => ∃ (a0 : Option Addr) (q0 c0 : Nat), v = .tuple #[.agg #[.int .i64 r.1, .int .i64 r.2.1, .int .i64 r.2.2.1, .int .i64 r.2.2.2.1, .int .i64 r.2.2.2.2.1, .slice a0 q0 c0], .int .i64 r.2.2.2.2.2.2] ∧ SlR (FE (I1 .i64)) 1 m (.slice a0 q0 c0) r.2.2.2.2.2.1
theorem terrain_Fill_walk {m : Mu} {p0_0 : Int} {p0_1 : Int} {p0_2 : Int} {p0_3 : Int} {p0_4 : Int} {p0_5 : List Int} {a_p0_5 : Option Addr} {q_p0_5 c_p0_5 : Nat} (h_p0_5 : SlR (FE (I1 .i64)) 1 m (.slice a_p0_5 q_p0_5 c_p0_5) p0_5) {r : Int × Int × Int × Int × Int × List Int × Int} (hm : terrain_Fill p0_0 p0_1 p0_2 p0_3 p0_4 p0_5 = some r) :
    Go.E.Spec Try.prog 35 [.agg #[.int .i64 p0_0, .int .i64 p0_1, .int .i64 p0_2, .int .i64 p0_3, .int .i64 p0_4, .slice a_p0_5 q_p0_5 c_p0_5]] m (terrain_Fill_Q r) := by
  refine Spec_enter Try.func35 rfl rfl rfl (fun w0 => ?_)
  refine WK.sub (e' := [(0, .agg #[.int .i64 p0_0, .int .i64 p0_1, .int .i64 p0_2, .int .i64 p0_3, .int .i64 p0_4, .slice a_p0_5 q_p0_5 c_p0_5])]) ⟨rfl, trivial⟩ ?_
  obtain rfl := SlR.qlen h_p0_5
  refine WK.sub (e' := [(0, .agg #[.int .i64 p0_0, .int .i64 p0_1, .int .i64 p0_2, .int .i64 p0_3, .int .i64 p0_4, .slice a_p0_5 p0_5.length c_p0_5])]) ⟨rfl, trivial⟩ ?_
  unfold terrain_Fill at hm
  refine WK_seq ?_
  refine WK_region ?_
  refine WO_box [.int .i64 p0_0, .int .i64 p0_1, .int .i64 p0_2, .int .i64 p0_3, .int .i64 p0_4, .slice a_p0_5 p0_5.length c_p0_5] rfl rfl trivial rfl rfl rfl (fun b2 => ?_)
  refine WO.cls (C' := St w0 m m [[⟨b2, 25, [.int .i64 p0_0, .int .i64 p0_1, .int .i64 p0_2, .int .i64 p0_3, .int .i64 p0_4, .slice a_p0_5 p0_5.length c_p0_5]⟩]]) (fun _ h => h) ?_
  refine WO_alloc tbok [.int .i64 0, .int .i64 0, .int .i64 0, .int .i64 0, .int .i64 0, .slice none 0 0] rfl rfl trivial rfl rfl rfl rfl (fun b3 => ?_)
  refine WO.cls (C' := St w0 m m [[⟨b2, 25, [.int .i64 p0_0, .int .i64 p0_1, .int .i64 p0_2, .int .i64 p0_3, .int .i64 p0_4, .slice a_p0_5 p0_5.length c_p0_5]⟩], [⟨b3, 25, [.int .i64 0, .int .i64 0, .int .i64 0, .int .i64 0, .int .i64 0, .slice none 0 0]⟩]]) (fun _ h => h) ?_
  refine WO_pure tbok 1 [(1, .pointer (some ⟨b2, 0, none⟩)), (2, .pointer (some ⟨b3, 0, none⟩)), (3, .int .i64 0)] rfl ⟨rfl, rfl, rfl, trivial⟩ ?_
  refine WO_end ?_
  refine WK_seq ?_
  refine WK_seq ?_
  refine WK_region ?_
  refine WO_loadB tbok 0 rfl rfl rfl rfl (fun _ h => h) rfl rfl ?_
  obtain ⟨y_1, hc4, hm⟩ := bind_some hm
  refine WO_call0 (.int .i64 y_1) rfl rfl trivial rfl rfl rfl rfl St_closed ⟨16, #[], #[], rfl, callable_16, fun w hw => ⟨_, hw.sat, terrain_Check_walk h_p0_5 hc4⟩⟩ ?_
  refine WO_pure tbok 1 [(1, .pointer (some ⟨b2, 0, none⟩)), (2, .pointer (some ⟨b3, 0, none⟩)), (3, .int .i64 0), (4, .int .i64 y_1)] rfl ⟨rfl, rfl, rfl, rfl, trivial⟩ ?_
  refine WO_end ?_
  refine WK_seq ?_
  refine WK_region ?_
  refine WO_pure tbok 2 [(1, .pointer (some ⟨b2, 0, none⟩)), (2, .pointer (some ⟨b3, 0, none⟩)), (3, .int .i64 0), (4, .int .i64 y_1), (18, .bool (y_1 != 0))] rfl ⟨rfl, rfl, rfl, rfl, rfl, trivial⟩ ?_
  refine WO_end ?_
  refine WK_cond (b := y_1 != 0) rfl (fun hb5 => ?_) (fun hb5 => ?_)
  · have hm := ifT hb5 hm
    refine WK_seq ?_
    refine WK_region ?_
    refine WO_pure tbok 2 [(1, .pointer (some ⟨b2, 0, none⟩)), (2, .pointer (some ⟨b3, 0, none⟩)), (3, .int .i64 0), (19, .agg #[.int .i64 0, .int .i64 0, .int .i64 0, .int .i64 0, .int .i64 0, .slice none 0 0]), (20, .int .i64 y_1)] rfl ⟨rfl, rfl, rfl, rfl, rfl, trivial⟩ ?_
    refine WO_storeB tbok 1 [.int .i64 0, .int .i64 0, .int .i64 0, .int .i64 0, .int .i64 0, .slice none 0 0] rfl rfl rfl rfl rfl rfl rfl ?_
    refine WO.cls (C' := St w0 m m [[⟨b2, 25, [.int .i64 p0_0, .int .i64 p0_1, .int .i64 p0_2, .int .i64 p0_3, .int .i64 p0_4, .slice a_p0_5 p0_5.length c_p0_5]⟩], [⟨b3, 25, [.int .i64 0, .int .i64 0, .int .i64 0, .int .i64 0, .int .i64 0, .slice none 0 0]⟩]]) (fun _ h => h) ?_
    refine WO_pure tbok 1 [(1, .pointer (some ⟨b2, 0, none⟩)), (2, .pointer (some ⟨b3, 0, none⟩)), (3, .int .i64 y_1)] rfl ⟨rfl, rfl, rfl, trivial⟩ ?_
    refine WO_end ?_
    cases hm
    exact WK_ret (ret_out (L := []) (RLc_cell tbok 1 rfl rfl rfl (RLc_tmp rfl RLc_nil)) (List.nil_sublist _) ⟨none, 0, 0, rfl, SlR_nil⟩)
  · have hm := ifF hb5 hm
    refine WK_skip ?_
    refine WK_seq ?_
    refine WK_region ?_
    refine WO_pure tbok 1 [(1, .pointer (some ⟨b2, 0, none⟩)), (2, .pointer (some ⟨b3, 0, none⟩)), (3, .int .i64 0), (21, .pointer (some ⟨b2, 5, none⟩))] rfl ⟨rfl, rfl, rfl, rfl, trivial⟩ ?_
    refine WO_loadB tbok 0 rfl rfl rfl rfl (fun _ h => h) rfl rfl ?_
    obtain ⟨y_2, hc6, hm⟩ := bind_some hm
    refine WO_call1 (slices_Clone_sint_Q y_2) rfl rfl trivial rfl rfl rfl rfl ⟨23, #[], #[], rfl, callable_23, fun w hw => ⟨_, hw.sat, slices_Clone_sint_walk h_p0_5 hc6⟩⟩ (fun v11 L10 hq => ?_)
    obtain ⟨a7, qa7, c8, rfl, hL10⟩ := hq
    obtain rfl := OwnE.qlen hL10
    refine WO.cls (C' := St w0 m m [[⟨b2, 25, [.int .i64 p0_0, .int .i64 p0_1, .int .i64 p0_2, .int .i64 p0_3, .int .i64 p0_4, .slice a_p0_5 p0_5.length c_p0_5]⟩], [⟨b3, 25, [.int .i64 0, .int .i64 0, .int .i64 0, .int .i64 0, .int .i64 0, .slice none 0 0]⟩], L10]) (fun _ h => h) ?_
    refine WO_pure tbok 1 [(1, .pointer (some ⟨b2, 0, none⟩)), (2, .pointer (some ⟨b3, 0, none⟩)), (3, .int .i64 0), (5, .slice a7 ((y_2).length) c8)] rfl ⟨rfl, rfl, rfl, rfl, trivial⟩ ?_
    refine WO_end ?_
    refine WK_seq ?_
    refine WK_region ?_
    refine WO_pure tbok 1 [(1, .pointer (some ⟨b2, 0, none⟩)), (2, .pointer (some ⟨b3, 0, none⟩)), (3, .int .i64 0), (5, .slice a7 ((y_2).length) c8), (6, .bool false)] rfl ⟨rfl, rfl, rfl, rfl, rfl, trivial⟩ ?_
    refine WO_end ?_
    refine WK_seq ?_
    refine WK_seq ?_
    refine WK_region ?_
    refine WO_pure tbok 1 [(1, .pointer (some ⟨b2, 0, none⟩)), (2, .pointer (some ⟨b3, 0, none⟩)), (3, .int .i64 0), (5, .slice a7 ((y_2).length) c8), (6, .bool false), (24, .pointer (some ⟨b2, 5, none⟩))] rfl ⟨rfl, rfl, rfl, rfl, rfl, rfl, trivial⟩ ?_
    refine WO_loadB tbok 0 rfl rfl rfl rfl (fun _ h => h) rfl rfl ?_
    refine WO_pure tbok 2 [(1, .pointer (some ⟨b2, 0, none⟩)), (2, .pointer (some ⟨b3, 0, none⟩)), (3, .int .i64 0), (5, .slice a7 ((y_2).length) c8), (6, .bool false), (25, .slice a_p0_5 p0_5.length c_p0_5), (26, .int .i64 (p0_5.length : Int)), (27, .int .i64 0)] rfl ⟨rfl, rfl, rfl, rfl, rfl, rfl, rfl, rfl, trivial⟩ ?_
    refine WO_end ?_
    obtain ⟨x16, hx17, hm⟩ := bind_some hm
    refine WK_join (β := (List Int × Bool) × (List Ent)) (fun p => p.1 = x16 ∧ OwnE 3 1 (I1 .i64) (.slice a7 ((y_2).length) c8) p.1.1 p.2) (fun p => [(1, .pointer (some ⟨b2, 0, none⟩)), (2, .pointer (some ⟨b3, 0, none⟩)), (3, .int .i64 0), (5, .slice a7 ((y_2).length) c8), (6, .bool p.1.2)]) (fun p => St w0 m m [[⟨b2, 25, [.int .i64 p0_0, .int .i64 p0_1, .int .i64 p0_2, .int .i64 p0_3, .int .i64 p0_4, .slice a_p0_5 p0_5.length c_p0_5]⟩], [⟨b3, 25, [.int .i64 0, .int .i64 0, .int .i64 0, .int .i64 0, .int .i64 0, .slice none 0 0]⟩], p.2]) ?_ (fun hk18 => ?_)
    · rintro ⟨⟨l_6, s_7⟩, L15⟩ ⟨hq24, hL15⟩
      subst hq24
      refine WK.sub (e' := [(1, .pointer (some ⟨b2, 0, none⟩)), (2, .pointer (some ⟨b3, 0, none⟩)), (3, .int .i64 0), (5, .slice a7 ((y_2).length) c8), (6, .bool s_7)]) ⟨rfl, rfl, rfl, rfl, rfl, trivial⟩ (WK.cls (C' := St w0 m m [[⟨b2, 25, [.int .i64 p0_0, .int .i64 p0_1, .int .i64 p0_2, .int .i64 p0_3, .int .i64 p0_4, .slice a_p0_5 p0_5.length c_p0_5]⟩], [⟨b3, 25, [.int .i64 0, .int .i64 0, .int .i64 0, .int .i64 0, .int .i64 0, .slice none 0 0]⟩], L15]) (fun _ h => h) ?_)
      refine WK_seq ?_
      refine WK_seq ?_
      refine WK_region ?_
      refine WO_pure tbok 2 [(1, .pointer (some ⟨b2, 0, none⟩)), (2, .pointer (some ⟨b3, 0, none⟩)), (3, .int .i64 0), (5, .slice a7 ((y_2).length) c8), (102, .bool (!s_7))] rfl ⟨rfl, rfl, rfl, rfl, rfl, trivial⟩ ?_
      refine WO_end ?_
      refine WK_cond (b := !s_7) rfl (fun hb25 => ?_) (fun hb25 => ?_)
      · have hm := ifT hb25 hm
        refine WK_seq ?_
        refine WK_region ?_
        refine WO_pure tbok 1 [(1, .pointer (some ⟨b2, 0, none⟩)), (2, .pointer (some ⟨b3, 0, none⟩)), (3, .int .i64 0), (5, .slice a7 ((y_2).length) c8), (103, .agg #[.int .i64 0, .int .i64 0, .int .i64 0, .int .i64 0, .int .i64 0, .slice none 0 0])] rfl ⟨rfl, rfl, rfl, rfl, rfl, trivial⟩ ?_
        refine WO_storeB tbok 1 [.int .i64 0, .int .i64 0, .int .i64 0, .int .i64 0, .int .i64 0, .slice none 0 0] rfl rfl rfl rfl rfl rfl rfl ?_
        refine WO.cls (C' := St w0 m m [[⟨b2, 25, [.int .i64 p0_0, .int .i64 p0_1, .int .i64 p0_2, .int .i64 p0_3, .int .i64 p0_4, .slice a_p0_5 p0_5.length c_p0_5]⟩], [⟨b3, 25, [.int .i64 0, .int .i64 0, .int .i64 0, .int .i64 0, .int .i64 0, .slice none 0 0]⟩], L15]) (fun _ h => h) ?_
        refine WO_pure tbok 1 [(1, .pointer (some ⟨b2, 0, none⟩)), (2, .pointer (some ⟨b3, 0, none⟩)), (3, .int .i64 6), (5, .slice a7 ((y_2).length) c8)] rfl ⟨rfl, rfl, rfl, rfl, trivial⟩ ?_
        refine WO_end ?_
        cases hm
        exact WK_ret (ret_out (L := []) (RLc_cell tbok 1 rfl rfl rfl (RLc_tmp rfl RLc_nil)) (List.nil_sublist _) ⟨none, 0, 0, rfl, SlR_nil⟩)
      · have hm := ifF hb25 hm
        refine WK_skip ?_
        refine WK_seq ?_
        refine WK_region ?_
        refine WO_loadB tbok 0 rfl rfl rfl rfl (fun _ h => h) rfl rfl ?_
        refine WO_pure tbok 1 [(2, .pointer (some ⟨b3, 0, none⟩)), (3, .int .i64 0), (104, .agg #[.int .i64 p0_0, .int .i64 p0_1, .int .i64 p0_2, .int .i64 p0_3, .int .i64 p0_4, .slice a_p0_5 p0_5.length c_p0_5]), (105, .slice a7 ((y_2).length) c8)] rfl ⟨rfl, rfl, rfl, rfl, trivial⟩ ?_
        refine WO_freeze 2 rfl (fun m26 hle27 hmm28 => ?_)
        refine WO.cls (C' := St w0 m m26 [[⟨b2, 25, [.int .i64 p0_0, .int .i64 p0_1, .int .i64 p0_2, .int .i64 p0_3, .int .i64 p0_4, .slice a_p0_5 p0_5.length c_p0_5]⟩], [⟨b3, 25, [.int .i64 0, .int .i64 0, .int .i64 0, .int .i64 0, .int .i64 0, .slice none 0 0]⟩], []]) (fun _ h => h) ?_
        obtain ⟨⟨y_8, y_9, y_10, y_11, y_12, y_13⟩, hc29, hm⟩ := bind_some hm
        refine WO_call2 (terrain_with_Q (y_8, y_9, y_10, y_11, y_12, y_13)) rfl rfl trivial rfl rfl rfl rfl ⟨44, #[], #[], rfl, callable_44, terrain_with_walk (h_p0_5.mono (mono_FE _) hle27) (OwnE.rd (E := (I1 .i64)) (k := 1) (fun _ => rfl) hL15 hmm28) hc29⟩ (fun v34 m35 L33 hle36 hq => ?_)
        obtain ⟨a30, qa30, c31, rfl, h37⟩ := hq
        obtain rfl := SlR.qlen h37
        refine WO.cls (C' := St w0 m m35 [[⟨b2, 25, [.int .i64 p0_0, .int .i64 p0_1, .int .i64 p0_2, .int .i64 p0_3, .int .i64 p0_4, .slice a_p0_5 p0_5.length c_p0_5]⟩], [⟨b3, 25, [.int .i64 0, .int .i64 0, .int .i64 0, .int .i64 0, .int .i64 0, .slice none 0 0]⟩], [], L33]) (fun _ h => h.sub (by simp)) ?_
        refine WO_storeB tbok 1 [.int .i64 y_8, .int .i64 y_9, .int .i64 y_10, .int .i64 y_11, .int .i64 y_12, .slice a30 ((y_13).length) c31] rfl rfl rfl rfl rfl rfl rfl ?_
        refine WO.cls (C' := St w0 m m35 [[⟨b2, 25, [.int .i64 p0_0, .int .i64 p0_1, .int .i64 p0_2, .int .i64 p0_3, .int .i64 p0_4, .slice a_p0_5 p0_5.length c_p0_5]⟩], [⟨b3, 25, [.int .i64 y_8, .int .i64 y_9, .int .i64 y_10, .int .i64 y_11, .int .i64 y_12, .slice a30 ((y_13).length) c31]⟩], [], L33]) (fun _ h => h) ?_
        refine WO_pure tbok 1 [(2, .pointer (some ⟨b3, 0, none⟩)), (3, .int .i64 0)] rfl ⟨rfl, rfl, trivial⟩ ?_
        refine WO_end ?_
        cases hm
        exact WK_ret (ret_out (L := []) (RLc_cell tbok 1 rfl rfl rfl (RLc_tmp rfl RLc_nil)) (List.nil_sublist _) ⟨a30, _, c31, rfl, h37⟩)
    · refine WK_block ?_
      refine WK_loop (S := List Int × Bool × Int) (G := List Ent) (fun s => terrain_Fill_s1 p0_3 p0_5 s.1 s.2.1 s.2.2) (fun s g => [(1, .pointer (some ⟨b2, 0, none⟩)), (2, .pointer (some ⟨b3, 0, none⟩)), (3, .int .i64 0), (5, .slice a7 ((y_2).length) c8), (6, .bool s.2.1), (25, .slice a_p0_5 p0_5.length c_p0_5), (26, .int .i64 (p0_5.length : Int)), (27, .int .i64 s.2.2)]) (fun s g => St w0 m m [[⟨b2, 25, [.int .i64 p0_0, .int .i64 p0_1, .int .i64 p0_2, .int .i64 p0_3, .int .i64 p0_4, .slice a_p0_5 p0_5.length c_p0_5]⟩], [⟨b3, 25, [.int .i64 0, .int .i64 0, .int .i64 0, .int .i64 0, .int .i64 0, .slice none 0 0]⟩], g]) (fun s g => OwnE 3 1 (I1 .i64) (.slice a7 ((y_2).length) c8) s.1 g) FUEL (y_2, false, 0) L10 x16 hx17 hL10 ⟨rfl, rfl, rfl, rfl, rfl, rfl, rfl, rfl, trivial⟩ (fun _ h => h) ?_
      rintro ⟨l_3, s_4, s_5⟩ L13 o20 fl21 hm19 hL13 hn22 hd23
      have hm19 : terrain_Fill_s1 p0_3 p0_5 l_3 s_4 s_5 = some o20 := hm19
      unfold terrain_Fill_s1 at hm19
      refine WK.sub (e' := [(1, .pointer (some ⟨b2, 0, none⟩)), (2, .pointer (some ⟨b3, 0, none⟩)), (3, .int .i64 0), (5, .slice a7 ((y_2).length) c8), (6, .bool s_4), (25, .slice a_p0_5 p0_5.length c_p0_5), (26, .int .i64 (p0_5.length : Int)), (27, .int .i64 s_5)]) ⟨rfl, rfl, rfl, rfl, rfl, rfl, rfl, rfl, trivial⟩ (WK.cls (C' := St w0 m m [[⟨b2, 25, [.int .i64 p0_0, .int .i64 p0_1, .int .i64 p0_2, .int .i64 p0_3, .int .i64 p0_4, .slice a_p0_5 p0_5.length c_p0_5]⟩], [⟨b3, 25, [.int .i64 0, .int .i64 0, .int .i64 0, .int .i64 0, .int .i64 0, .slice none 0 0]⟩], L13]) (fun _ h => h) ?_)
      refine WK_seq ?_
      refine WK_region ?_
      refine WO_pure tbok 1 [(1, .pointer (some ⟨b2, 0, none⟩)), (2, .pointer (some ⟨b3, 0, none⟩)), (3, .int .i64 0), (5, .slice a7 ((y_2).length) c8), (6, .bool s_4), (25, .slice a_p0_5 p0_5.length c_p0_5), (26, .int .i64 (p0_5.length : Int)), (27, .int .i64 s_5), (28, .bool (decide (s_5 < (p0_5.length : Int))))] rfl ⟨rfl, rfl, rfl, rfl, rfl, rfl, rfl, rfl, rfl, trivial⟩ ?_
      refine WO_end ?_
      refine WK_seq ?_
      refine WK_cond (b := decide (s_5 < (p0_5.length : Int))) rfl (fun hb38 => ?_) (fun hb38 => ?_)
      · have hm19 := ifT hb38 hm19
        refine WK_skip ?_
        refine WK_seq ?_
        refine WK_block ?_
        refine WK_seq ?_
        refine WK_region ?_
        refine WO_pure tbok 1 [(1, .pointer (some ⟨b2, 0, none⟩)), (2, .pointer (some ⟨b3, 0, none⟩)), (3, .int .i64 0), (5, .slice a7 ((y_2).length) c8), (6, .bool s_4), (25, .slice a_p0_5 p0_5.length c_p0_5), (26, .int .i64 (p0_5.length : Int)), (27, .int .i64 s_5), (29, .int .i64 s_5)] rfl ⟨rfl, rfl, rfl, rfl, rfl, rfl, rfl, rfl, rfl, trivial⟩ ?_
        obtain ⟨v_14, hy39, hm19⟩ := bind_some hm19
        obtain ⟨hc40, hy39⟩ := ix_some hy39
        refine WO_index tbok rfl rfl rfl rfl rfl rfl rfl rfl (SlR.addr h_p0_5) hc40 ?_
        refine WO_loadE tbok rfl rfl rfl rfl (fun _ h => St.sat h) h_p0_5 hy39 rfl ?_
        refine WO_pure tbok 2 [(1, .pointer (some ⟨b2, 0, none⟩)), (2, .pointer (some ⟨b3, 0, none⟩)), (3, .int .i64 0), (5, .slice a7 ((y_2).length) c8), (6, .bool s_4), (7, .int .i64 s_5), (8, .int .i64 v_14), (25, .slice a_p0_5 p0_5.length c_p0_5), (26, .int .i64 (p0_5.length : Int)), (27, .int .i64 s_5)] rfl ⟨rfl, rfl, rfl, rfl, rfl, rfl, rfl, rfl, rfl, rfl, trivial⟩ ?_
        refine WO_end ?_
        refine WK_seq ?_
        refine WK_seq ?_
        refine WK_region ?_
        refine WO_pure tbok 2 [(1, .pointer (some ⟨b2, 0, none⟩)), (2, .pointer (some ⟨b3, 0, none⟩)), (3, .int .i64 0), (5, .slice a7 ((y_2).length) c8), (6, .bool s_4), (7, .int .i64 s_5), (25, .slice a_p0_5 p0_5.length c_p0_5), (26, .int .i64 (p0_5.length : Int)), (27, .int .i64 s_5), (33, .bool (v_14 != (-2147483648)))] rfl ⟨rfl, rfl, rfl, rfl, rfl, rfl, rfl, rfl, rfl, rfl, trivial⟩ ?_
        refine WO_end ?_
        refine WK_cond (b := v_14 != (-2147483648)) rfl (fun hb41 => ?_) (fun hb41 => ?_)
        · have hm19 := ifT hb41 hm19
          refine WK_seq ?_
          refine WK_region ?_
          refine WO_pure tbok 1 [(1, .pointer (some ⟨b2, 0, none⟩)), (2, .pointer (some ⟨b3, 0, none⟩)), (3, .int .i64 0), (5, .slice a7 ((y_2).length) c8), (6, .bool true), (7, .int .i64 s_5), (25, .slice a_p0_5 p0_5.length c_p0_5), (26, .int .i64 (p0_5.length : Int)), (27, .int .i64 s_5)] rfl ⟨rfl, rfl, rfl, rfl, rfl, rfl, rfl, rfl, rfl, trivial⟩ ?_
          refine WO_end ?_
          refine WK_exit rfl ?_
          refine WK_region ?_
          refine WO_pure tbok 2 [(1, .pointer (some ⟨b2, 0, none⟩)), (2, .pointer (some ⟨b3, 0, none⟩)), (3, .int .i64 0), (5, .slice a7 ((y_2).length) c8), (6, .bool true), (25, .slice a_p0_5 p0_5.length c_p0_5), (26, .int .i64 (p0_5.length : Int)), (27, .int .i64 (w64 (s_5 + 1)))] rfl ⟨rfl, rfl, rfl, rfl, rfl, rfl, rfl, rfl, trivial⟩ ?_
          refine WO_end ?_
          cases hm19
          refine WK.sub ?_ (WK.cls (fun _ h => h) (hn22 _ L13 rfl hL13))
          exact ⟨rfl, rfl, rfl, rfl, rfl, rfl, rfl, rfl, trivial⟩
        · have hm19 := ifF hb41 hm19
          refine WK_skip ?_
          refine WK_seq ?_
          refine WK_region ?_
          refine WO_pure tbok 1 [(1, .pointer (some ⟨b2, 0, none⟩)), (2, .pointer (some ⟨b3, 0, none⟩)), (3, .int .i64 0), (5, .slice a7 ((y_2).length) c8), (6, .bool s_4), (7, .int .i64 s_5), (9, .int .i64 0), (25, .slice a_p0_5 p0_5.length c_p0_5), (26, .int .i64 (p0_5.length : Int)), (27, .int .i64 s_5)] rfl ⟨rfl, rfl, rfl, rfl, rfl, rfl, rfl, rfl, rfl, rfl, trivial⟩ ?_
          refine WO_end ?_
          refine WK_seq ?_
          refine WK_region ?_
          refine WO_pure tbok 1 [(1, .pointer (some ⟨b2, 0, none⟩)), (2, .pointer (some ⟨b3, 0, none⟩)), (3, .int .i64 0), (5, .slice a7 ((y_2).length) c8), (6, .bool s_4), (7, .int .i64 s_5), (9, .int .i64 0), (25, .slice a_p0_5 p0_5.length c_p0_5), (26, .int .i64 (p0_5.length : Int)), (27, .int .i64 s_5), (34, .pointer (some ⟨b2, 5, none⟩))] rfl ⟨rfl, rfl, rfl, rfl, rfl, rfl, rfl, rfl, rfl, rfl, rfl, trivial⟩ ?_
          refine WO_loadB tbok 0 rfl rfl rfl rfl (fun _ h => h) rfl rfl ?_
          refine WO_pure tbok 2 [(1, .pointer (some ⟨b2, 0, none⟩)), (2, .pointer (some ⟨b3, 0, none⟩)), (3, .int .i64 0), (5, .slice a7 ((y_2).length) c8), (6, .bool s_4), (7, .int .i64 s_5), (9, .int .i64 0), (25, .slice a_p0_5 p0_5.length c_p0_5), (26, .int .i64 (p0_5.length : Int)), (27, .int .i64 s_5), (35, .slice a_p0_5 p0_5.length c_p0_5), (36, .int .i64 (p0_5.length : Int)), (37, .int .i64 0)] rfl ⟨rfl, rfl, rfl, rfl, rfl, rfl, rfl, rfl, rfl, rfl, rfl, rfl, rfl, trivial⟩ ?_
          refine WO_end ?_
          obtain ⟨x46, hx47, hm19⟩ := bind_some hm19
          refine WK_join (β := (List Int) × (List Ent)) (fun p => p.1 = x46 ∧ OwnE 3 1 (I1 .i64) (.slice a7 ((y_2).length) c8) p.1 p.2) (fun p => [(1, .pointer (some ⟨b2, 0, none⟩)), (2, .pointer (some ⟨b3, 0, none⟩)), (3, .int .i64 0), (5, .slice a7 ((y_2).length) c8), (6, .bool s_4), (25, .slice a_p0_5 p0_5.length c_p0_5), (26, .int .i64 (p0_5.length : Int)), (27, .int .i64 s_5)]) (fun p => St w0 m m [[⟨b2, 25, [.int .i64 p0_0, .int .i64 p0_1, .int .i64 p0_2, .int .i64 p0_3, .int .i64 p0_4, .slice a_p0_5 p0_5.length c_p0_5]⟩], [⟨b3, 25, [.int .i64 0, .int .i64 0, .int .i64 0, .int .i64 0, .int .i64 0, .slice none 0 0]⟩], p.2]) ?_ (fun hk48 => ?_)
          · rintro ⟨l_18, L45⟩ ⟨hq54, hL45⟩
            subst hq54
            refine WK.sub (e' := [(1, .pointer (some ⟨b2, 0, none⟩)), (2, .pointer (some ⟨b3, 0, none⟩)), (3, .int .i64 0), (5, .slice a7 ((y_2).length) c8), (6, .bool s_4), (25, .slice a_p0_5 p0_5.length c_p0_5), (26, .int .i64 (p0_5.length : Int)), (27, .int .i64 s_5)]) ⟨rfl, rfl, rfl, rfl, rfl, rfl, rfl, rfl, trivial⟩ (WK.cls (C' := St w0 m m [[⟨b2, 25, [.int .i64 p0_0, .int .i64 p0_1, .int .i64 p0_2, .int .i64 p0_3, .int .i64 p0_4, .slice a_p0_5 p0_5.length c_p0_5]⟩], [⟨b3, 25, [.int .i64 0, .int .i64 0, .int .i64 0, .int .i64 0, .int .i64 0, .slice none 0 0]⟩], L45]) (fun _ h => h) ?_)
            refine WK_blk ?_
            refine WK_region ?_
            refine WO_pure tbok 2 [(1, .pointer (some ⟨b2, 0, none⟩)), (2, .pointer (some ⟨b3, 0, none⟩)), (3, .int .i64 0), (5, .slice a7 ((y_2).length) c8), (6, .bool s_4), (25, .slice a_p0_5 p0_5.length c_p0_5), (26, .int .i64 (p0_5.length : Int)), (27, .int .i64 (w64 (s_5 + 1)))] rfl ⟨rfl, rfl, rfl, rfl, rfl, rfl, rfl, rfl, trivial⟩ ?_
            refine WO_end ?_
            cases hm19
            refine WK.sub ?_ (WK.cls (fun _ h => h) (hn22 _ L45 rfl hL45))
            exact ⟨rfl, rfl, rfl, rfl, rfl, rfl, rfl, rfl, trivial⟩
          · refine WK_block ?_
            refine WK_loop (S := List Int × Int × Int) (G := List Ent) (fun s => terrain_Fill_s2 p0_3 p0_5 s_5 s.1 s.2.1 s.2.2) (fun s g => [(1, .pointer (some ⟨b2, 0, none⟩)), (2, .pointer (some ⟨b3, 0, none⟩)), (3, .int .i64 0), (5, .slice a7 ((y_2).length) c8), (6, .bool s_4), (7, .int .i64 s_5), (9, .int .i64 s.2.1), (25, .slice a_p0_5 p0_5.length c_p0_5), (26, .int .i64 (p0_5.length : Int)), (27, .int .i64 s_5), (35, .slice a_p0_5 p0_5.length c_p0_5), (36, .int .i64 (p0_5.length : Int)), (37, .int .i64 s.2.2)]) (fun s g => St w0 m m [[⟨b2, 25, [.int .i64 p0_0, .int .i64 p0_1, .int .i64 p0_2, .int .i64 p0_3, .int .i64 p0_4, .slice a_p0_5 p0_5.length c_p0_5]⟩], [⟨b3, 25, [.int .i64 0, .int .i64 0, .int .i64 0, .int .i64 0, .int .i64 0, .slice none 0 0]⟩], g]) (fun s g => OwnE 3 1 (I1 .i64) (.slice a7 ((y_2).length) c8) s.1 g) FUEL (l_3, 0, 0) L13 x46 hx47 hL13 ⟨rfl, rfl, rfl, rfl, rfl, rfl, rfl, rfl, rfl, rfl, rfl, rfl, rfl, trivial⟩ (fun _ h => h) ?_
            rintro ⟨l_15, s_16, s_17⟩ L43 o50 fl51 hm49 hL43 hn52 hd53
            have hm49 : terrain_Fill_s2 p0_3 p0_5 s_5 l_15 s_16 s_17 = some o50 := hm49
            unfold terrain_Fill_s2 at hm49
            refine WK.sub (e' := [(1, .pointer (some ⟨b2, 0, none⟩)), (2, .pointer (some ⟨b3, 0, none⟩)), (3, .int .i64 0), (5, .slice a7 ((y_2).length) c8), (6, .bool s_4), (7, .int .i64 s_5), (9, .int .i64 s_16), (25, .slice a_p0_5 p0_5.length c_p0_5), (26, .int .i64 (p0_5.length : Int)), (27, .int .i64 s_5), (35, .slice a_p0_5 p0_5.length c_p0_5), (36, .int .i64 (p0_5.length : Int)), (37, .int .i64 s_17)]) ⟨rfl, rfl, rfl, rfl, rfl, rfl, rfl, rfl, rfl, rfl, rfl, rfl, rfl, trivial⟩ (WK.cls (C' := St w0 m m [[⟨b2, 25, [.int .i64 p0_0, .int .i64 p0_1, .int .i64 p0_2, .int .i64 p0_3, .int .i64 p0_4, .slice a_p0_5 p0_5.length c_p0_5]⟩], [⟨b3, 25, [.int .i64 0, .int .i64 0, .int .i64 0, .int .i64 0, .int .i64 0, .slice none 0 0]⟩], L43]) (fun _ h => h) ?_)
            refine WK_seq ?_
            refine WK_region ?_
            refine WO_pure tbok 1 [(1, .pointer (some ⟨b2, 0, none⟩)), (2, .pointer (some ⟨b3, 0, none⟩)), (3, .int .i64 0), (5, .slice a7 ((y_2).length) c8), (6, .bool s_4), (7, .int .i64 s_5), (9, .int .i64 s_16), (25, .slice a_p0_5 p0_5.length c_p0_5), (26, .int .i64 (p0_5.length : Int)), (27, .int .i64 s_5), (35, .slice a_p0_5 p0_5.length c_p0_5), (36, .int .i64 (p0_5.length : Int)), (37, .int .i64 s_17), (38, .bool (decide (s_17 < (p0_5.length : Int))))] rfl ⟨rfl, rfl, rfl, rfl, rfl, rfl, rfl, rfl, rfl, rfl, rfl, rfl, rfl, rfl, trivial⟩ ?_
            refine WO_end ?_
            refine WK_seq ?_
            refine WK_cond (b := decide (s_17 < (p0_5.length : Int))) rfl (fun hb55 => ?_) (fun hb55 => ?_)
            · have hm49 := ifT hb55 hm49
              refine WK_skip ?_
              refine WK_seq ?_
              refine WK_block ?_
              refine WK_seq ?_
              refine WK_region ?_
              refine WO_pure tbok 1 [(1, .pointer (some ⟨b2, 0, none⟩)), (2, .pointer (some ⟨b3, 0, none⟩)), (3, .int .i64 0), (5, .slice a7 ((y_2).length) c8), (6, .bool s_4), (7, .int .i64 s_5), (9, .int .i64 s_16), (25, .slice a_p0_5 p0_5.length c_p0_5), (26, .int .i64 (p0_5.length : Int)), (27, .int .i64 s_5), (35, .slice a_p0_5 p0_5.length c_p0_5), (36, .int .i64 (p0_5.length : Int)), (37, .int .i64 s_17), (39, .int .i64 s_17)] rfl ⟨rfl, rfl, rfl, rfl, rfl, rfl, rfl, rfl, rfl, rfl, rfl, rfl, rfl, rfl, trivial⟩ ?_
              obtain ⟨v_19, hy56, hm49⟩ := bind_some hm49
              obtain ⟨hc57, hy56⟩ := ix_some hy56
              refine WO_index tbok rfl rfl rfl rfl rfl rfl rfl rfl (SlR.addr h_p0_5) hc57 ?_
              refine WO_loadE tbok rfl rfl rfl rfl (fun _ h => St.sat h) h_p0_5 hy56 rfl ?_
              refine WO_pure tbok 2 [(1, .pointer (some ⟨b2, 0, none⟩)), (2, .pointer (some ⟨b3, 0, none⟩)), (3, .int .i64 0), (5, .slice a7 ((y_2).length) c8), (6, .bool s_4), (7, .int .i64 s_5), (9, .int .i64 s_16), (10, .int .i64 s_17), (11, .int .i64 v_19), (25, .slice a_p0_5 p0_5.length c_p0_5), (26, .int .i64 (p0_5.length : Int)), (27, .int .i64 s_5), (35, .slice a_p0_5 p0_5.length c_p0_5), (36, .int .i64 (p0_5.length : Int)), (37, .int .i64 s_17)] rfl ⟨rfl, rfl, rfl, rfl, rfl, rfl, rfl, rfl, rfl, rfl, rfl, rfl, rfl, rfl, rfl, trivial⟩ ?_
              refine WO_end ?_
              refine WK_seq ?_
              refine WK_seq ?_
              refine WK_region ?_
              refine WO_pure tbok 2 [(1, .pointer (some ⟨b2, 0, none⟩)), (2, .pointer (some ⟨b3, 0, none⟩)), (3, .int .i64 0), (5, .slice a7 ((y_2).length) c8), (6, .bool s_4), (7, .int .i64 s_5), (9, .int .i64 s_16), (10, .int .i64 s_17), (11, .int .i64 v_19), (25, .slice a_p0_5 p0_5.length c_p0_5), (26, .int .i64 (p0_5.length : Int)), (27, .int .i64 s_5), (35, .slice a_p0_5 p0_5.length c_p0_5), (36, .int .i64 (p0_5.length : Int)), (37, .int .i64 s_17), (43, .bool (v_19 == (-2147483648)))] rfl ⟨rfl, rfl, rfl, rfl, rfl, rfl, rfl, rfl, rfl, rfl, rfl, rfl, rfl, rfl, rfl, rfl, trivial⟩ ?_
              refine WO_end ?_
              refine WK_cond (b := v_19 == (-2147483648)) rfl (fun hb58 => ?_) (fun hb58 => ?_)
              · have hm49 := ifT hb58 hm49
                refine WK_exit rfl ?_
                refine WK_region ?_
                refine WO_pure tbok 2 [(1, .pointer (some ⟨b2, 0, none⟩)), (2, .pointer (some ⟨b3, 0, none⟩)), (3, .int .i64 0), (5, .slice a7 ((y_2).length) c8), (6, .bool s_4), (7, .int .i64 s_5), (9, .int .i64 s_16), (25, .slice a_p0_5 p0_5.length c_p0_5), (26, .int .i64 (p0_5.length : Int)), (27, .int .i64 s_5), (35, .slice a_p0_5 p0_5.length c_p0_5), (36, .int .i64 (p0_5.length : Int)), (37, .int .i64 (w64 (s_17 + 1)))] rfl ⟨rfl, rfl, rfl, rfl, rfl, rfl, rfl, rfl, rfl, rfl, rfl, rfl, rfl, trivial⟩ ?_
                refine WO_end ?_
                cases hm49
                refine WK.sub ?_ (WK.cls (fun _ h => h) (hn52 _ L43 rfl hL43))
                exact ⟨rfl, rfl, rfl, rfl, rfl, rfl, rfl, rfl, rfl, rfl, rfl, rfl, rfl, trivial⟩
              · have hm49 := ifF hb58 hm49
                refine WK_skip ?_
                refine WK_seq ?_
                refine WK_draw 20 [0, 1, 2, 3, 4, 5, 6, 7, 8, 9, 10, 11, 12, 13, 14, 15, 16, 17, 18, 19] follows_ok (by kernel_rfl) St_closed ?_
                refine WO_pure tbok 2 [(1, .pointer (some ⟨b2, 0, none⟩)), (2, .pointer (some ⟨b3, 0, none⟩)), (3, .int .i64 0), (5, .slice a7 ((y_2).length) c8), (6, .bool s_4), (7, .int .i64 s_5), (9, .int .i64 s_16), (10, .int .i64 s_17), (11, .int .i64 v_19), (25, .slice a_p0_5 p0_5.length c_p0_5), (26, .int .i64 (p0_5.length : Int)), (27, .int .i64 s_5), (35, .slice a_p0_5 p0_5.length c_p0_5), (36, .int .i64 (p0_5.length : Int)), (37, .int .i64 s_17), (44, .int .i64 s_5), (45, .pointer (some ⟨b2, 3, none⟩))] rfl ⟨rfl, rfl, rfl, rfl, rfl, rfl, rfl, rfl, rfl, rfl, rfl, rfl, rfl, rfl, rfl, rfl, rfl, trivial⟩ ?_
                refine WO_loadB tbok 0 rfl rfl rfl rfl (fun _ h => h) rfl rfl ?_
                obtain ⟨hc59, hm49⟩ := chk_some hm49
                refine WO_rem rfl rfl rfl rfl rfl hc59 ?_
                refine WO_pure tbok 2 [(1, .pointer (some ⟨b2, 0, none⟩)), (2, .pointer (some ⟨b3, 0, none⟩)), (3, .int .i64 0), (5, .slice a7 ((y_2).length) c8), (6, .bool s_4), (7, .int .i64 s_5), (9, .int .i64 s_16), (10, .int .i64 s_17), (11, .int .i64 v_19), (25, .slice a_p0_5 p0_5.length c_p0_5), (26, .int .i64 (p0_5.length : Int)), (27, .int .i64 s_5), (35, .slice a_p0_5 p0_5.length c_p0_5), (36, .int .i64 (p0_5.length : Int)), (37, .int .i64 s_17), (47, .int .i64 (Int.tmod s_5 p0_3)), (48, .int .i64 s_17), (49, .pointer (some ⟨b2, 3, none⟩))] rfl ⟨rfl, rfl, rfl, rfl, rfl, rfl, rfl, rfl, rfl, rfl, rfl, rfl, rfl, rfl, rfl, rfl, rfl, rfl, trivial⟩ ?_
                refine WO_loadB tbok 0 rfl rfl rfl rfl (fun _ h => h) rfl rfl ?_
                obtain ⟨hc60, hm49⟩ := chk_some hm49
                refine WO_rem rfl rfl rfl rfl rfl hc60 ?_
                refine WO_pure tbok 3 [(1, .pointer (some ⟨b2, 0, none⟩)), (2, .pointer (some ⟨b3, 0, none⟩)), (3, .int .i64 0), (5, .slice a7 ((y_2).length) c8), (6, .bool s_4), (7, .int .i64 s_5), (9, .int .i64 s_16), (10, .int .i64 s_17), (11, .int .i64 v_19), (25, .slice a_p0_5 p0_5.length c_p0_5), (26, .int .i64 (p0_5.length : Int)), (27, .int .i64 s_5), (35, .slice a_p0_5 p0_5.length c_p0_5), (36, .int .i64 (p0_5.length : Int)), (37, .int .i64 s_17), (52, .int .i64 (w64 ((Int.tmod s_5 p0_3) - (Int.tmod s_17 p0_3)))), (53, .int .i64 s_5), (54, .pointer (some ⟨b2, 3, none⟩))] rfl ⟨rfl, rfl, rfl, rfl, rfl, rfl, rfl, rfl, rfl, rfl, rfl, rfl, rfl, rfl, rfl, rfl, rfl, rfl, trivial⟩ ?_
                refine WO_loadB tbok 0 rfl rfl rfl rfl (fun _ h => h) rfl rfl ?_
                obtain ⟨hc61, hm49⟩ := chk_some hm49
                refine WO_quo rfl rfl rfl rfl rfl hc61 ?_
                refine WO_pure tbok 2 [(1, .pointer (some ⟨b2, 0, none⟩)), (2, .pointer (some ⟨b3, 0, none⟩)), (3, .int .i64 0), (5, .slice a7 ((y_2).length) c8), (6, .bool s_4), (7, .int .i64 s_5), (9, .int .i64 s_16), (11, .int .i64 v_19), (25, .slice a_p0_5 p0_5.length c_p0_5), (26, .int .i64 (p0_5.length : Int)), (27, .int .i64 s_5), (35, .slice a_p0_5 p0_5.length c_p0_5), (36, .int .i64 (p0_5.length : Int)), (37, .int .i64 s_17), (52, .int .i64 (w64 ((Int.tmod s_5 p0_3) - (Int.tmod s_17 p0_3)))), (56, .int .i64 (w64 (Int.tdiv s_5 p0_3))), (57, .int .i64 s_17), (58, .pointer (some ⟨b2, 3, none⟩))] rfl ⟨rfl, rfl, rfl, rfl, rfl, rfl, rfl, rfl, rfl, rfl, rfl, rfl, rfl, rfl, rfl, rfl, rfl, rfl, trivial⟩ ?_
                refine WO_loadB tbok 0 rfl rfl rfl rfl (fun _ h => h) rfl rfl ?_
                obtain ⟨hc62, hm49⟩ := chk_some hm49
                refine WO_quo rfl rfl rfl rfl rfl hc62 ?_
                refine WO_pure tbok 3 [(1, .pointer (some ⟨b2, 0, none⟩)), (2, .pointer (some ⟨b3, 0, none⟩)), (3, .int .i64 0), (5, .slice a7 ((y_2).length) c8), (6, .bool s_4), (7, .int .i64 s_5), (9, .int .i64 s_16), (11, .int .i64 v_19), (12, .int .i64 (w64 ((Int.tmod s_5 p0_3) - (Int.tmod s_17 p0_3)))), (13, .int .i64 (w64 ((w64 (Int.tdiv s_5 p0_3)) - (w64 (Int.tdiv s_17 p0_3))))), (25, .slice a_p0_5 p0_5.length c_p0_5), (26, .int .i64 (p0_5.length : Int)), (27, .int .i64 s_5), (35, .slice a_p0_5 p0_5.length c_p0_5), (36, .int .i64 (p0_5.length : Int)), (37, .int .i64 s_17)] rfl ⟨rfl, rfl, rfl, rfl, rfl, rfl, rfl, rfl, rfl, rfl, rfl, rfl, rfl, rfl, rfl, rfl, trivial⟩ ?_
                refine WO_tail ?_
                refine WO_end ?_
                refine WK_seq ?_
                refine WK_region ?_
                refine WO_pure tbok 10 [(1, .pointer (some ⟨b2, 0, none⟩)), (2, .pointer (some ⟨b3, 0, none⟩)), (3, .int .i64 0), (5, .slice a7 ((y_2).length) c8), (6, .bool s_4), (7, .int .i64 s_5), (9, .int .i64 s_16), (11, .int .i64 v_19), (14, .int .i64 (w64 ((if (w64 ((Int.tmod s_5 p0_3) - (Int.tmod s_17 p0_3))) < (w64 (0 - (w64 ((Int.tmod s_5 p0_3) - (Int.tmod s_17 p0_3))))) then (w64 (0 - (w64 ((Int.tmod s_5 p0_3) - (Int.tmod s_17 p0_3))))) else (w64 ((Int.tmod s_5 p0_3) - (Int.tmod s_17 p0_3)))) + (if (w64 ((w64 (Int.tdiv s_5 p0_3)) - (w64 (Int.tdiv s_17 p0_3)))) < (w64 (0 - (w64 ((w64 (Int.tdiv s_5 p0_3)) - (w64 (Int.tdiv s_17 p0_3)))))) then (w64 (0 - (w64 ((w64 (Int.tdiv s_5 p0_3)) - (w64 (Int.tdiv s_17 p0_3)))))) else (w64 ((w64 (Int.tdiv s_5 p0_3)) - (w64 (Int.tdiv s_17 p0_3)))))))), (25, .slice a_p0_5 p0_5.length c_p0_5), (26, .int .i64 (p0_5.length : Int)), (27, .int .i64 s_5), (35, .slice a_p0_5 p0_5.length c_p0_5), (36, .int .i64 (p0_5.length : Int)), (37, .int .i64 s_17)] rfl ⟨rfl, rfl, rfl, rfl, rfl, rfl, rfl, rfl, rfl, rfl, rfl, rfl, rfl, rfl, rfl, trivial⟩ ?_
                refine WO_end ?_
                refine WK_seq ?_
                obtain ⟨s_20, hx63, hm49⟩ := bind_some hm49
                refine WK_meet [(1, .pointer (some ⟨b2, 0, none⟩)), (2, .pointer (some ⟨b3, 0, none⟩)), (3, .int .i64 0), (5, .slice a7 ((y_2).length) c8), (6, .bool s_4), (7, .int .i64 s_5), (9, .int .i64 s_16), (11, .int .i64 v_19), (14, .int .i64 (w64 ((if (w64 ((Int.tmod s_5 p0_3) - (Int.tmod s_17 p0_3))) < (w64 (0 - (w64 ((Int.tmod s_5 p0_3) - (Int.tmod s_17 p0_3))))) then (w64 (0 - (w64 ((Int.tmod s_5 p0_3) - (Int.tmod s_17 p0_3))))) else (w64 ((Int.tmod s_5 p0_3) - (Int.tmod s_17 p0_3)))) + (if (w64 ((w64 (Int.tdiv s_5 p0_3)) - (w64 (Int.tdiv s_17 p0_3)))) < (w64 (0 - (w64 ((w64 (Int.tdiv s_5 p0_3)) - (w64 (Int.tdiv s_17 p0_3)))))) then (w64 (0 - (w64 ((w64 (Int.tdiv s_5 p0_3)) - (w64 (Int.tdiv s_17 p0_3)))))) else (w64 ((w64 (Int.tdiv s_5 p0_3)) - (w64 (Int.tdiv s_17 p0_3)))))))), (25, .slice a_p0_5 p0_5.length c_p0_5), (26, .int .i64 (p0_5.length : Int)), (27, .int .i64 s_5), (35, .slice a_p0_5 p0_5.length c_p0_5), (36, .int .i64 (p0_5.length : Int)), (37, .int .i64 s_17), (93, .bool s_20)] (St w0 m m [[⟨b2, 25, [.int .i64 p0_0, .int .i64 p0_1, .int .i64 p0_2, .int .i64 p0_3, .int .i64 p0_4, .slice a_p0_5 p0_5.length c_p0_5]⟩], [⟨b3, 25, [.int .i64 0, .int .i64 0, .int .i64 0, .int .i64 0, .int .i64 0, .slice none 0 0]⟩], L43]) ?_ (fun hk64 => ?_)
                · obtain ⟨⟨l_21, s_22⟩, hx67, hm49⟩ := bind_some hm49
                  refine WK_join (β := List Ent) (fun p => OwnE 3 1 (I1 .i64) (.slice a7 ((y_2).length) c8) l_21 p) (fun p => [(1, .pointer (some ⟨b2, 0, none⟩)), (2, .pointer (some ⟨b3, 0, none⟩)), (3, .int .i64 0), (5, .slice a7 ((y_2).length) c8), (6, .bool s_4), (7, .int .i64 s_5), (9, .int .i64 s_22), (25, .slice a_p0_5 p0_5.length c_p0_5), (26, .int .i64 (p0_5.length : Int)), (27, .int .i64 s_5), (35, .slice a_p0_5 p0_5.length c_p0_5), (36, .int .i64 (p0_5.length : Int)), (37, .int .i64 s_17)]) (fun p => St w0 m m [[⟨b2, 25, [.int .i64 p0_0, .int .i64 p0_1, .int .i64 p0_2, .int .i64 p0_3, .int .i64 p0_4, .slice a_p0_5 p0_5.length c_p0_5]⟩], [⟨b3, 25, [.int .i64 0, .int .i64 0, .int .i64 0, .int .i64 0, .int .i64 0, .slice none 0 0]⟩], p]) ?_ (fun hk68 => ?_)
                  · rintro L66 hL66
                    refine WK.sub (e' := [(1, .pointer (some ⟨b2, 0, none⟩)), (2, .pointer (some ⟨b3, 0, none⟩)), (3, .int .i64 0), (5, .slice a7 ((y_2).length) c8), (6, .bool s_4), (7, .int .i64 s_5), (9, .int .i64 s_22), (25, .slice a_p0_5 p0_5.length c_p0_5), (26, .int .i64 (p0_5.length : Int)), (27, .int .i64 s_5), (35, .slice a_p0_5 p0_5.length c_p0_5), (36, .int .i64 (p0_5.length : Int)), (37, .int .i64 s_17)]) ⟨rfl, rfl, rfl, rfl, rfl, rfl, rfl, rfl, rfl, rfl, rfl, rfl, rfl, trivial⟩ (WK.cls (C' := St w0 m m [[⟨b2, 25, [.int .i64 p0_0, .int .i64 p0_1, .int .i64 p0_2, .int .i64 p0_3, .int .i64 p0_4, .slice a_p0_5 p0_5.length c_p0_5]⟩], [⟨b3, 25, [.int .i64 0, .int .i64 0, .int .i64 0, .int .i64 0, .int .i64 0, .slice none 0 0]⟩], L66]) (fun _ h => h) ?_)
                    refine WK_blk ?_
                    refine WK_region ?_
                    refine WO_pure tbok 2 [(1, .pointer (some ⟨b2, 0, none⟩)), (2, .pointer (some ⟨b3, 0, none⟩)), (3, .int .i64 0), (5, .slice a7 ((y_2).length) c8), (6, .bool s_4), (7, .int .i64 s_5), (9, .int .i64 s_22), (25, .slice a_p0_5 p0_5.length c_p0_5), (26, .int .i64 (p0_5.length : Int)), (27, .int .i64 s_5), (35, .slice a_p0_5 p0_5.length c_p0_5), (36, .int .i64 (p0_5.length : Int)), (37, .int .i64 (w64 (s_17 + 1)))] rfl ⟨rfl, rfl, rfl, rfl, rfl, rfl, rfl, rfl, rfl, rfl, rfl, rfl, rfl, trivial⟩ ?_
                    refine WO_end ?_
                    cases hm49
                    refine WK.sub ?_ (WK.cls (fun _ h => h) (hn52 _ L66 rfl hL66))
                    exact ⟨rfl, rfl, rfl, rfl, rfl, rfl, rfl, rfl, rfl, rfl, rfl, rfl, rfl, trivial⟩
                  · refine WK_cond (b := s_20) rfl (fun hb69 => ?_) (fun hb69 => ?_)
                    · have hx67 := ifT hb69 hx67
                      refine WK_region ?_
                      refine WO_pure tbok 4 [(1, .pointer (some ⟨b2, 0, none⟩)), (2, .pointer (some ⟨b3, 0, none⟩)), (3, .int .i64 0), (5, .slice a7 ((y_2).length) c8), (6, .bool s_4), (7, .int .i64 s_5), (9, .int .i64 s_16), (25, .slice a_p0_5 p0_5.length c_p0_5), (26, .int .i64 (p0_5.length : Int)), (27, .int .i64 s_5), (35, .slice a_p0_5 p0_5.length c_p0_5), (36, .int .i64 (p0_5.length : Int)), (37, .int .i64 s_17), (94, .slice a7 ((y_2).length) c8), (95, .int .i64 s_5), (96, .int .i64 v_19), (97, .int .i64 (w64 ((if (w64 ((Int.tmod s_5 p0_3) - (Int.tmod s_17 p0_3))) < (w64 (0 - (w64 ((Int.tmod s_5 p0_3) - (Int.tmod s_17 p0_3))))) then (w64 (0 - (w64 ((Int.tmod s_5 p0_3) - (Int.tmod s_17 p0_3))))) else (w64 ((Int.tmod s_5 p0_3) - (Int.tmod s_17 p0_3)))) + (if (w64 ((w64 (Int.tdiv s_5 p0_3)) - (w64 (Int.tdiv s_17 p0_3)))) < (w64 (0 - (w64 ((w64 (Int.tdiv s_5 p0_3)) - (w64 (Int.tdiv s_17 p0_3)))))) then (w64 (0 - (w64 ((w64 (Int.tdiv s_5 p0_3)) - (w64 (Int.tdiv s_17 p0_3)))))) else (w64 ((w64 (Int.tdiv s_5 p0_3)) - (w64 (Int.tdiv s_17 p0_3))))))))] rfl ⟨rfl, rfl, rfl, rfl, rfl, rfl, rfl, rfl, rfl, rfl, rfl, rfl, rfl, rfl, rfl, rfl, rfl, trivial⟩ ?_
                      obtain ⟨hc70, hx67⟩ := chk_some hx67
                      refine WO_index tbok rfl rfl rfl rfl rfl rfl rfl rfl (OwnE.addr hL43) (by simpa using hc70) ?_
                      refine WO_storeO (E := (I1 .i64)) tbok (fun _ => rfl) 2 v_19 rfl rfl rfl rfl rfl hL43 rfl (by simpa using idx_lt hc70) rfl rfl rfl rfl (fun L71 hL71 => ?_)
                      refine WO.cls (C' := St w0 m m [[⟨b2, 25, [.int .i64 p0_0, .int .i64 p0_1, .int .i64 p0_2, .int .i64 p0_3, .int .i64 p0_4, .slice a_p0_5 p0_5.length c_p0_5]⟩], [⟨b3, 25, [.int .i64 0, .int .i64 0, .int .i64 0, .int .i64 0, .int .i64 0, .slice none 0 0]⟩], L71]) (fun _ h => h) ?_
                      refine WO_pure tbok 1 [(1, .pointer (some ⟨b2, 0, none⟩)), (2, .pointer (some ⟨b3, 0, none⟩)), (3, .int .i64 0), (5, .slice a7 ((y_2).length) c8), (6, .bool s_4), (7, .int .i64 s_5), (9, .int .i64 (w64 ((if (w64 ((Int.tmod s_5 p0_3) - (Int.tmod s_17 p0_3))) < (w64 (0 - (w64 ((Int.tmod s_5 p0_3) - (Int.tmod s_17 p0_3))))) then (w64 (0 - (w64 ((Int.tmod s_5 p0_3) - (Int.tmod s_17 p0_3))))) else (w64 ((Int.tmod s_5 p0_3) - (Int.tmod s_17 p0_3)))) + (if (w64 ((w64 (Int.tdiv s_5 p0_3)) - (w64 (Int.tdiv s_17 p0_3)))) < (w64 (0 - (w64 ((w64 (Int.tdiv s_5 p0_3)) - (w64 (Int.tdiv s_17 p0_3)))))) then (w64 (0 - (w64 ((w64 (Int.tdiv s_5 p0_3)) - (w64 (Int.tdiv s_17 p0_3)))))) else (w64 ((w64 (Int.tdiv s_5 p0_3)) - (w64 (Int.tdiv s_17 p0_3)))))))), (25, .slice a_p0_5 p0_5.length c_p0_5), (26, .int .i64 (p0_5.length : Int)), (27, .int .i64 s_5), (35, .slice a_p0_5 p0_5.length c_p0_5), (36, .int .i64 (p0_5.length : Int)), (37, .int .i64 s_17)] rfl ⟨rfl, rfl, rfl, rfl, rfl, rfl, rfl, rfl, rfl, rfl, rfl, rfl, rfl, trivial⟩ ?_
                      refine WO_end ?_
                      cases hx67
                      refine WK.sub ?_ (WK.cls (fun _ h => h) (hk68 L71 hL71))
                      exact ⟨rfl, rfl, rfl, rfl, rfl, rfl, rfl, rfl, rfl, rfl, rfl, rfl, rfl, trivial⟩
                    · have hx67 := ifF hb69 hx67
                      refine WK_skip ?_
                      cases hx67
                      refine WK.sub ?_ (WK.cls (fun _ h => h) (hk68 L43 hL43))
                      exact ⟨rfl, rfl, rfl, rfl, rfl, rfl, rfl, rfl, rfl, rfl, rfl, rfl, rfl, trivial⟩
                · refine WK_region ?_
                  refine WO_pure tbok 2 [(1, .pointer (some ⟨b2, 0, none⟩)), (2, .pointer (some ⟨b3, 0, none⟩)), (3, .int .i64 0), (5, .slice a7 ((y_2).length) c8), (6, .bool s_4), (7, .int .i64 s_5), (9, .int .i64 s_16), (11, .int .i64 v_19), (14, .int .i64 (w64 ((if (w64 ((Int.tmod s_5 p0_3) - (Int.tmod s_17 p0_3))) < (w64 (0 - (w64 ((Int.tmod s_5 p0_3) - (Int.tmod s_17 p0_3))))) then (w64 (0 - (w64 ((Int.tmod s_5 p0_3) - (Int.tmod s_17 p0_3))))) else (w64 ((Int.tmod s_5 p0_3) - (Int.tmod s_17 p0_3)))) + (if (w64 ((w64 (Int.tdiv s_5 p0_3)) - (w64 (Int.tdiv s_17 p0_3)))) < (w64 (0 - (w64 ((w64 (Int.tdiv s_5 p0_3)) - (w64 (Int.tdiv s_17 p0_3)))))) then (w64 (0 - (w64 ((w64 (Int.tdiv s_5 p0_3)) - (w64 (Int.tdiv s_17 p0_3)))))) else (w64 ((w64 (Int.tdiv s_5 p0_3)) - (w64 (Int.tdiv s_17 p0_3)))))))), (25, .slice a_p0_5 p0_5.length c_p0_5), (26, .int .i64 (p0_5.length : Int)), (27, .int .i64 s_5), (35, .slice a_p0_5 p0_5.length c_p0_5), (36, .int .i64 (p0_5.length : Int)), (37, .int .i64 s_17), (71, .slice a7 ((y_2).length) c8), (72, .int .i64 s_5)] rfl ⟨rfl, rfl, rfl, rfl, rfl, rfl, rfl, rfl, rfl, rfl, rfl, rfl, rfl, rfl, rfl, rfl, rfl, trivial⟩ ?_
                  obtain ⟨v_23, hy73, hx63⟩ := bind_some hx63
                  obtain ⟨hc74, hy73⟩ := ix_some hy73
                  refine WO_index tbok rfl rfl rfl rfl rfl rfl rfl rfl (OwnE.addr hL43) (by simpa using hc74) ?_
                  refine WO_loadO (E := (I1 .i64)) tbok (fun _ => rfl) 2 rfl rfl rfl rfl (fun _ h => h) hL43 rfl hy73 rfl ?_
                  refine WO_pure tbok 2 [(1, .pointer (some ⟨b2, 0, none⟩)), (2, .pointer (some ⟨b3, 0, none⟩)), (3, .int .i64 0), (5, .slice a7 ((y_2).length) c8), (6, .bool s_4), (7, .int .i64 s_5), (9, .int .i64 s_16), (11, .int .i64 v_19), (14, .int .i64 (w64 ((if (w64 ((Int.tmod s_5 p0_3) - (Int.tmod s_17 p0_3))) < (w64 (0 - (w64 ((Int.tmod s_5 p0_3) - (Int.tmod s_17 p0_3))))) then (w64 (0 - (w64 ((Int.tmod s_5 p0_3) - (Int.tmod s_17 p0_3))))) else (w64 ((Int.tmod s_5 p0_3) - (Int.tmod s_17 p0_3)))) + (if (w64 ((w64 (Int.tdiv s_5 p0_3)) - (w64 (Int.tdiv s_17 p0_3)))) < (w64 (0 - (w64 ((w64 (Int.tdiv s_5 p0_3)) - (w64 (Int.tdiv s_17 p0_3)))))) then (w64 (0 - (w64 ((w64 (Int.tdiv s_5 p0_3)) - (w64 (Int.tdiv s_17 p0_3)))))) else (w64 ((w64 (Int.tdiv s_5 p0_3)) - (w64 (Int.tdiv s_17 p0_3)))))))), (25, .slice a_p0_5 p0_5.length c_p0_5), (26, .int .i64 (p0_5.length : Int)), (27, .int .i64 s_5), (35, .slice a_p0_5 p0_5.length c_p0_5), (36, .int .i64 (p0_5.length : Int)), (37, .int .i64 s_17), (76, .bool (v_23 == (-2147483648)))] rfl ⟨rfl, rfl, rfl, rfl, rfl, rfl, rfl, rfl, rfl, rfl, rfl, rfl, rfl, rfl, rfl, rfl, trivial⟩ ?_
                  refine WO_split (d := 76) (b := v_23 == (-2147483648)) rfl (fun hb75 => ?_) (fun hb75 => ?_)
                  · have hx63 := ifT hb75 hx63
                    refine WO_pure tbok 17 [(1, .pointer (some ⟨b2, 0, none⟩)), (2, .pointer (some ⟨b3, 0, none⟩)), (3, .int .i64 0), (5, .slice a7 ((y_2).length) c8), (6, .bool s_4), (7, .int .i64 s_5), (9, .int .i64 s_16), (11, .int .i64 v_19), (14, .int .i64 (w64 ((if (w64 ((Int.tmod s_5 p0_3) - (Int.tmod s_17 p0_3))) < (w64 (0 - (w64 ((Int.tmod s_5 p0_3) - (Int.tmod s_17 p0_3))))) then (w64 (0 - (w64 ((Int.tmod s_5 p0_3) - (Int.tmod s_17 p0_3))))) else (w64 ((Int.tmod s_5 p0_3) - (Int.tmod s_17 p0_3)))) + (if (w64 ((w64 (Int.tdiv s_5 p0_3)) - (w64 (Int.tdiv s_17 p0_3)))) < (w64 (0 - (w64 ((w64 (Int.tdiv s_5 p0_3)) - (w64 (Int.tdiv s_17 p0_3)))))) then (w64 (0 - (w64 ((w64 (Int.tdiv s_5 p0_3)) - (w64 (Int.tdiv s_17 p0_3)))))) else (w64 ((w64 (Int.tdiv s_5 p0_3)) - (w64 (Int.tdiv s_17 p0_3)))))))), (25, .slice a_p0_5 p0_5.length c_p0_5), (26, .int .i64 (p0_5.length : Int)), (27, .int .i64 s_5), (35, .slice a_p0_5 p0_5.length c_p0_5), (36, .int .i64 (p0_5.length : Int)), (37, .int .i64 s_17), (93, .bool true)] rfl ⟨rfl, rfl, rfl, rfl, rfl, rfl, rfl, rfl, rfl, rfl, rfl, rfl, rfl, rfl, rfl, rfl, trivial⟩ ?_
                    refine WO_end ?_
                    cases hx63
                    refine WK.sub ?_ (WK.cls (fun _ h => h) hk64)
                    exact ⟨rfl, rfl, rfl, rfl, rfl, rfl, rfl, rfl, rfl, rfl, rfl, rfl, rfl, rfl, rfl, rfl, trivial⟩
                  · have hx63 := ifF hb75 hx63
                    refine WO_pure tbok 5 [(1, .pointer (some ⟨b2, 0, none⟩)), (2, .pointer (some ⟨b3, 0, none⟩)), (3, .int .i64 0), (5, .slice a7 ((y_2).length) c8), (6, .bool s_4), (7, .int .i64 s_5), (9, .int .i64 s_16), (11, .int .i64 v_19), (14, .int .i64 (w64 ((if (w64 ((Int.tmod s_5 p0_3) - (Int.tmod s_17 p0_3))) < (w64 (0 - (w64 ((Int.tmod s_5 p0_3) - (Int.tmod s_17 p0_3))))) then (w64 (0 - (w64 ((Int.tmod s_5 p0_3) - (Int.tmod s_17 p0_3))))) else (w64 ((Int.tmod s_5 p0_3) - (Int.tmod s_17 p0_3)))) + (if (w64 ((w64 (Int.tdiv s_5 p0_3)) - (w64 (Int.tdiv s_17 p0_3)))) < (w64 (0 - (w64 ((w64 (Int.tdiv s_5 p0_3)) - (w64 (Int.tdiv s_17 p0_3)))))) then (w64 (0 - (w64 ((w64 (Int.tdiv s_5 p0_3)) - (w64 (Int.tdiv s_17 p0_3)))))) else (w64 ((w64 (Int.tdiv s_5 p0_3)) - (w64 (Int.tdiv s_17 p0_3)))))))), (25, .slice a_p0_5 p0_5.length c_p0_5), (26, .int .i64 (p0_5.length : Int)), (27, .int .i64 s_5), (35, .slice a_p0_5 p0_5.length c_p0_5), (36, .int .i64 (p0_5.length : Int)), (37, .int .i64 s_17), (81, .bool (decide ((w64 ((if (w64 ((Int.tmod s_5 p0_3) - (Int.tmod s_17 p0_3))) < (w64 (0 - (w64 ((Int.tmod s_5 p0_3) - (Int.tmod s_17 p0_3))))) then (w64 (0 - (w64 ((Int.tmod s_5 p0_3) - (Int.tmod s_17 p0_3))))) else (w64 ((Int.tmod s_5 p0_3) - (Int.tmod s_17 p0_3)))) + (if (w64 ((w64 (Int.tdiv s_5 p0_3)) - (w64 (Int.tdiv s_17 p0_3)))) < (w64 (0 - (w64 ((w64 (Int.tdiv s_5 p0_3)) - (w64 (Int.tdiv s_17 p0_3)))))) then (w64 (0 - (w64 ((w64 (Int.tdiv s_5 p0_3)) - (w64 (Int.tdiv s_17 p0_3)))))) else (w64 ((w64 (Int.tdiv s_5 p0_3)) - (w64 (Int.tdiv s_17 p0_3))))))) < s_16)))] rfl ⟨rfl, rfl, rfl, rfl, rfl, rfl, rfl, rfl, rfl, rfl, rfl, rfl, rfl, rfl, rfl, rfl, trivial⟩ ?_
                    refine WO_split (d := 81) (b := decide ((w64 ((if (w64 ((Int.tmod s_5 p0_3) - (Int.tmod s_17 p0_3))) < (w64 (0 - (w64 ((Int.tmod s_5 p0_3) - (Int.tmod s_17 p0_3))))) then (w64 (0 - (w64 ((Int.tmod s_5 p0_3) - (Int.tmod s_17 p0_3))))) else (w64 ((Int.tmod s_5 p0_3) - (Int.tmod s_17 p0_3)))) + (if (w64 ((w64 (Int.tdiv s_5 p0_3)) - (w64 (Int.tdiv s_17 p0_3)))) < (w64 (0 - (w64 ((w64 (Int.tdiv s_5 p0_3)) - (w64 (Int.tdiv s_17 p0_3)))))) then (w64 (0 - (w64 ((w64 (Int.tdiv s_5 p0_3)) - (w64 (Int.tdiv s_17 p0_3)))))) else (w64 ((w64 (Int.tdiv s_5 p0_3)) - (w64 (Int.tdiv s_17 p0_3))))))) < s_16)) rfl (fun hb76 => ?_) (fun hb76 => ?_)
                    · have hx63 := ifT hb76 hx63
                      refine WO_pure tbok 12 [(1, .pointer (some ⟨b2, 0, none⟩)), (2, .pointer (some ⟨b3, 0, none⟩)), (3, .int .i64 0), (5, .slice a7 ((y_2).length) c8), (6, .bool s_4), (7, .int .i64 s_5), (9, .int .i64 s_16), (11, .int .i64 v_19), (14, .int .i64 (w64 ((if (w64 ((Int.tmod s_5 p0_3) - (Int.tmod s_17 p0_3))) < (w64 (0 - (w64 ((Int.tmod s_5 p0_3) - (Int.tmod s_17 p0_3))))) then (w64 (0 - (w64 ((Int.tmod s_5 p0_3) - (Int.tmod s_17 p0_3))))) else (w64 ((Int.tmod s_5 p0_3) - (Int.tmod s_17 p0_3)))) + (if (w64 ((w64 (Int.tdiv s_5 p0_3)) - (w64 (Int.tdiv s_17 p0_3)))) < (w64 (0 - (w64 ((w64 (Int.tdiv s_5 p0_3)) - (w64 (Int.tdiv s_17 p0_3)))))) then (w64 (0 - (w64 ((w64 (Int.tdiv s_5 p0_3)) - (w64 (Int.tdiv s_17 p0_3)))))) else (w64 ((w64 (Int.tdiv s_5 p0_3)) - (w64 (Int.tdiv s_17 p0_3)))))))), (25, .slice a_p0_5 p0_5.length c_p0_5), (26, .int .i64 (p0_5.length : Int)), (27, .int .i64 s_5), (35, .slice a_p0_5 p0_5.length c_p0_5), (36, .int .i64 (p0_5.length : Int)), (37, .int .i64 s_17), (93, .bool true)] rfl ⟨rfl, rfl, rfl, rfl, rfl, rfl, rfl, rfl, rfl, rfl, rfl, rfl, rfl, rfl, rfl, rfl, trivial⟩ ?_
                      refine WO_end ?_
                      cases hx63
                      refine WK.sub ?_ (WK.cls (fun _ h => h) hk64)
                      exact ⟨rfl, rfl, rfl, rfl, rfl, rfl, rfl, rfl, rfl, rfl, rfl, rfl, rfl, rfl, rfl, rfl, trivial⟩
                    · have hx63 := ifF hb76 hx63
                      refine WO_pure tbok 4 [(1, .pointer (some ⟨b2, 0, none⟩)), (2, .pointer (some ⟨b3, 0, none⟩)), (3, .int .i64 0), (5, .slice a7 ((y_2).length) c8), (6, .bool s_4), (7, .int .i64 s_5), (9, .int .i64 s_16), (11, .int .i64 v_19), (14, .int .i64 (w64 ((if (w64 ((Int.tmod s_5 p0_3) - (Int.tmod s_17 p0_3))) < (w64 (0 - (w64 ((Int.tmod s_5 p0_3) - (Int.tmod s_17 p0_3))))) then (w64 (0 - (w64 ((Int.tmod s_5 p0_3) - (Int.tmod s_17 p0_3))))) else (w64 ((Int.tmod s_5 p0_3) - (Int.tmod s_17 p0_3)))) + (if (w64 ((w64 (Int.tdiv s_5 p0_3)) - (w64 (Int.tdiv s_17 p0_3)))) < (w64 (0 - (w64 ((w64 (Int.tdiv s_5 p0_3)) - (w64 (Int.tdiv s_17 p0_3)))))) then (w64 (0 - (w64 ((w64 (Int.tdiv s_5 p0_3)) - (w64 (Int.tdiv s_17 p0_3)))))) else (w64 ((w64 (Int.tdiv s_5 p0_3)) - (w64 (Int.tdiv s_17 p0_3)))))))), (25, .slice a_p0_5 p0_5.length c_p0_5), (26, .int .i64 (p0_5.length : Int)), (27, .int .i64 s_5), (35, .slice a_p0_5 p0_5.length c_p0_5), (36, .int .i64 (p0_5.length : Int)), (37, .int .i64 s_17), (81, .bool false), (85, .bool ((w64 ((if (w64 ((Int.tmod s_5 p0_3) - (Int.tmod s_17 p0_3))) < (w64 (0 - (w64 ((Int.tmod s_5 p0_3) - (Int.tmod s_17 p0_3))))) then (w64 (0 - (w64 ((Int.tmod s_5 p0_3) - (Int.tmod s_17 p0_3))))) else (w64 ((Int.tmod s_5 p0_3) - (Int.tmod s_17 p0_3)))) + (if (w64 ((w64 (Int.tdiv s_5 p0_3)) - (w64 (Int.tdiv s_17 p0_3)))) < (w64 (0 - (w64 ((w64 (Int.tdiv s_5 p0_3)) - (w64 (Int.tdiv s_17 p0_3)))))) then (w64 (0 - (w64 ((w64 (Int.tdiv s_5 p0_3)) - (w64 (Int.tdiv s_17 p0_3)))))) else (w64 ((w64 (Int.tdiv s_5 p0_3)) - (w64 (Int.tdiv s_17 p0_3))))))) == s_16))] rfl ⟨rfl, rfl, rfl, rfl, rfl, rfl, rfl, rfl, rfl, rfl, rfl, rfl, rfl, rfl, rfl, rfl, rfl, trivial⟩ ?_
                      refine WO_split (d := 85) (b := (w64 ((if (w64 ((Int.tmod s_5 p0_3) - (Int.tmod s_17 p0_3))) < (w64 (0 - (w64 ((Int.tmod s_5 p0_3) - (Int.tmod s_17 p0_3))))) then (w64 (0 - (w64 ((Int.tmod s_5 p0_3) - (Int.tmod s_17 p0_3))))) else (w64 ((Int.tmod s_5 p0_3) - (Int.tmod s_17 p0_3)))) + (if (w64 ((w64 (Int.tdiv s_5 p0_3)) - (w64 (Int.tdiv s_17 p0_3)))) < (w64 (0 - (w64 ((w64 (Int.tdiv s_5 p0_3)) - (w64 (Int.tdiv s_17 p0_3)))))) then (w64 (0 - (w64 ((w64 (Int.tdiv s_5 p0_3)) - (w64 (Int.tdiv s_17 p0_3)))))) else (w64 ((w64 (Int.tdiv s_5 p0_3)) - (w64 (Int.tdiv s_17 p0_3))))))) == s_16) rfl (fun hb77 => ?_) (fun hb77 => ?_)
                      · have hx63 := ifT hb77 hx63
                        refine WO_pure tbok 3 [(1, .pointer (some ⟨b2, 0, none⟩)), (2, .pointer (some ⟨b3, 0, none⟩)), (3, .int .i64 0), (5, .slice a7 ((y_2).length) c8), (6, .bool s_4), (7, .int .i64 s_5), (9, .int .i64 s_16), (11, .int .i64 v_19), (14, .int .i64 (w64 ((if (w64 ((Int.tmod s_5 p0_3) - (Int.tmod s_17 p0_3))) < (w64 (0 - (w64 ((Int.tmod s_5 p0_3) - (Int.tmod s_17 p0_3))))) then (w64 (0 - (w64 ((Int.tmod s_5 p0_3) - (Int.tmod s_17 p0_3))))) else (w64 ((Int.tmod s_5 p0_3) - (Int.tmod s_17 p0_3)))) + (if (w64 ((w64 (Int.tdiv s_5 p0_3)) - (w64 (Int.tdiv s_17 p0_3)))) < (w64 (0 - (w64 ((w64 (Int.tdiv s_5 p0_3)) - (w64 (Int.tdiv s_17 p0_3)))))) then (w64 (0 - (w64 ((w64 (Int.tdiv s_5 p0_3)) - (w64 (Int.tdiv s_17 p0_3)))))) else (w64 ((w64 (Int.tdiv s_5 p0_3)) - (w64 (Int.tdiv s_17 p0_3)))))))), (25, .slice a_p0_5 p0_5.length c_p0_5), (26, .int .i64 (p0_5.length : Int)), (27, .int .i64 s_5), (35, .slice a_p0_5 p0_5.length c_p0_5), (36, .int .i64 (p0_5.length : Int)), (37, .int .i64 s_17), (81, .bool false), (85, .bool true), (86, .int .i64 v_19), (87, .slice a7 ((y_2).length) c8), (88, .int .i64 s_5)] rfl ⟨rfl, rfl, rfl, rfl, rfl, rfl, rfl, rfl, rfl, rfl, rfl, rfl, rfl, rfl, rfl, rfl, rfl, rfl, rfl, rfl, trivial⟩ ?_
                        obtain ⟨v_24, hy78, hx63⟩ := bind_some hx63
                        obtain ⟨hc79, hy78⟩ := ix_some hy78
                        refine WO_index tbok rfl rfl rfl rfl rfl rfl rfl rfl (OwnE.addr hL43) (by simpa using hc79) ?_
                        refine WO_loadO (E := (I1 .i64)) tbok (fun _ => rfl) 2 rfl rfl rfl rfl (fun _ h => h) hL43 rfl hy78 rfl ?_
                        refine WO_pure tbok 3 [(1, .pointer (some ⟨b2, 0, none⟩)), (2, .pointer (some ⟨b3, 0, none⟩)), (3, .int .i64 0), (5, .slice a7 ((y_2).length) c8), (6, .bool s_4), (7, .int .i64 s_5), (9, .int .i64 s_16), (11, .int .i64 v_19), (14, .int .i64 (w64 ((if (w64 ((Int.tmod s_5 p0_3) - (Int.tmod s_17 p0_3))) < (w64 (0 - (w64 ((Int.tmod s_5 p0_3) - (Int.tmod s_17 p0_3))))) then (w64 (0 - (w64 ((Int.tmod s_5 p0_3) - (Int.tmod s_17 p0_3))))) else (w64 ((Int.tmod s_5 p0_3) - (Int.tmod s_17 p0_3)))) + (if (w64 ((w64 (Int.tdiv s_5 p0_3)) - (w64 (Int.tdiv s_17 p0_3)))) < (w64 (0 - (w64 ((w64 (Int.tdiv s_5 p0_3)) - (w64 (Int.tdiv s_17 p0_3)))))) then (w64 (0 - (w64 ((w64 (Int.tdiv s_5 p0_3)) - (w64 (Int.tdiv s_17 p0_3)))))) else (w64 ((w64 (Int.tdiv s_5 p0_3)) - (w64 (Int.tdiv s_17 p0_3)))))))), (25, .slice a_p0_5 p0_5.length c_p0_5), (26, .int .i64 (p0_5.length : Int)), (27, .int .i64 s_5), (35, .slice a_p0_5 p0_5.length c_p0_5), (36, .int .i64 (p0_5.length : Int)), (37, .int .i64 s_17), (93, .bool (decide (v_19 < v_24)))] rfl ⟨rfl, rfl, rfl, rfl, rfl, rfl, rfl, rfl, rfl, rfl, rfl, rfl, rfl, rfl, rfl, rfl, trivial⟩ ?_
                        refine WO_end ?_
                        cases hx63
                        refine WK.sub ?_ (WK.cls (fun _ h => h) hk64)
                        exact ⟨rfl, rfl, rfl, rfl, rfl, rfl, rfl, rfl, rfl, rfl, rfl, rfl, rfl, rfl, rfl, rfl, trivial⟩
                      · have hx63 := ifF hb77 hx63
                        refine WO_pure tbok 8 [(1, .pointer (some ⟨b2, 0, none⟩)), (2, .pointer (some ⟨b3, 0, none⟩)), (3, .int .i64 0), (5, .slice a7 ((y_2).length) c8), (6, .bool s_4), (7, .int .i64 s_5), (9, .int .i64 s_16), (11, .int .i64 v_19), (14, .int .i64 (w64 ((if (w64 ((Int.tmod s_5 p0_3) - (Int.tmod s_17 p0_3))) < (w64 (0 - (w64 ((Int.tmod s_5 p0_3) - (Int.tmod s_17 p0_3))))) then (w64 (0 - (w64 ((Int.tmod s_5 p0_3) - (Int.tmod s_17 p0_3))))) else (w64 ((Int.tmod s_5 p0_3) - (Int.tmod s_17 p0_3)))) + (if (w64 ((w64 (Int.tdiv s_5 p0_3)) - (w64 (Int.tdiv s_17 p0_3)))) < (w64 (0 - (w64 ((w64 (Int.tdiv s_5 p0_3)) - (w64 (Int.tdiv s_17 p0_3)))))) then (w64 (0 - (w64 ((w64 (Int.tdiv s_5 p0_3)) - (w64 (Int.tdiv s_17 p0_3)))))) else (w64 ((w64 (Int.tdiv s_5 p0_3)) - (w64 (Int.tdiv s_17 p0_3)))))))), (25, .slice a_p0_5 p0_5.length c_p0_5), (26, .int .i64 (p0_5.length : Int)), (27, .int .i64 s_5), (35, .slice a_p0_5 p0_5.length c_p0_5), (36, .int .i64 (p0_5.length : Int)), (37, .int .i64 s_17), (93, .bool false)] rfl ⟨rfl, rfl, rfl, rfl, rfl, rfl, rfl, rfl, rfl, rfl, rfl, rfl, rfl, rfl, rfl, rfl, trivial⟩ ?_
                        refine WO_end ?_
                        cases hx63
                        refine WK.sub ?_ (WK.cls (fun _ h => h) hk64)
                        exact ⟨rfl, rfl, rfl, rfl, rfl, rfl, rfl, rfl, rfl, rfl, rfl, rfl, rfl, rfl, rfl, rfl, trivial⟩
            · have hm49 := ifF hb55 hm49
              refine WK_exit rfl ?_
              cases hm49
              refine WK.sub ?_ (WK.cls (fun _ h => h) (hk48 (l_15, L43) ⟨(hd53 _ rfl), hL43⟩))
              exact ⟨rfl, rfl, rfl, rfl, rfl, rfl, rfl, rfl, trivial⟩
      · have hm19 := ifF hb38 hm19
        refine WK_exit rfl ?_
        cases hm19
        refine WK.sub ?_ (WK.cls (fun _ h => h) (hk18 ((l_3, s_4), L13) ⟨(hd23 _ rfl), hL13⟩))
        exact ⟨rfl, rfl, rfl, rfl, rfl, trivial⟩
theorem slices_IndexFunc_sapi_Spot_walk {m : Mu} {p0 : List (Int × Int × Int)} {p1 : Int → Int → Int → Option Bool} {a_p0 : Option Addr} {q_p0 c_p0 : Nat} {p1v : Value} (h_p0 : SlR (FE T3) 3 m (.slice a_p0 q_p0 c_p0) p0) (hp1 : ∀ (m1 : Mu), Le m m1 → ∀ (u1 : Int), ∀ (u2 : Int), ∀ (u3 : Int), ∀ (r : Bool), p1 u1 u2 u3 = some r → SpecV Try.prog p1v [.agg #[.int .i64 u1, .int .i64 u2, .int .i64 u3]] m1 (fun v _ _ => v = .bool r)) {r : Int} (hm : slices_IndexFunc_sapi_Spot p0 p1 = some r) :
    Go.E.Spec Try.prog 57 [.slice a_p0 q_p0 c_p0, p1v] m (fun v _ _ => v = .int .i64 r) := by
  refine Spec_enter Try.func57 rfl rfl rfl (fun w0 => ?_)
  refine WK.sub (e' := [(0, .slice a_p0 q_p0 c_p0), (1, p1v)]) ⟨rfl, rfl, trivial⟩ ?_
  obtain rfl := SlR.qlen h_p0
  refine WK.sub (e' := [(0, .slice a_p0 p0.length c_p0), (1, p1v)]) ⟨rfl, rfl, trivial⟩ ?_
  unfold slices_IndexFunc_sapi_Spot at hm
  refine WK_seq ?_
  refine WK_region ?_
  refine WO_pure tbok 1 [(0, .slice a_p0 p0.length c_p0), (1, p1v), (4, .int .i64 0)] rfl ⟨rfl, rfl, rfl, trivial⟩ ?_
  refine WO_end ?_
  refine WK_seq ?_
  refine WK_seq ?_
  refine WK_region ?_
  refine WO_pure tbok 3 [(0, .slice a_p0 p0.length c_p0), (1, p1v), (4, .int .i64 0), (7, .int .i64 (p0.length : Int)), (8, .int .i64 0)] rfl ⟨rfl, rfl, rfl, rfl, rfl, trivial⟩ ?_
  refine WO_end ?_
  obtain ⟨x2, hx3, hm⟩ := bind_some hm
  refine WK_join (β := Unit × Unit) (fun p => Sum.inr p.1 = x2) (fun p => [(4, .int .i64 0)]) (fun p => St w0 m m []) ?_ (fun hk4 => ?_)
  · rintro ⟨⟨⟩, ⟨⟩⟩ hq10
    subst hq10
    refine WK.sub (e' := [(4, .int .i64 0)]) ⟨rfl, trivial⟩ (WK.cls (C' := St w0 m m []) (fun _ h => h) ?_)
    refine WK_seq ?_
    refine WK_region ?_
    refine WO_pure tbok 1 [(4, .int .i64 (-1))] rfl ⟨rfl, trivial⟩ ?_
    refine WO_end ?_
    cases hm
    exact WK_ret (ret_out (L := []) (RLc_tmp rfl RLc_nil) (List.nil_sublist _) rfl)
  · refine WK_block ?_
    refine WK_loop (S := Int) (G := Unit) (fun s => slices_IndexFunc_sapi_Spot_s1 p0 p1 s) (fun s g => [(0, .slice a_p0 p0.length c_p0), (1, p1v), (4, .int .i64 0), (7, .int .i64 (p0.length : Int)), (8, .int .i64 s)]) (fun s g => St w0 m m []) (fun s g => True) FUEL 0 () x2 hx3 trivial ⟨rfl, rfl, rfl, rfl, rfl, trivial⟩ (fun _ h => h) ?_
    rintro s_1 ⟨⟩ o6 fl7 hm5 - hn8 hd9
    have hm5 : slices_IndexFunc_sapi_Spot_s1 p0 p1 s_1 = some o6 := hm5
    unfold slices_IndexFunc_sapi_Spot_s1 at hm5
    refine WK.sub (e' := [(0, .slice a_p0 p0.length c_p0), (1, p1v), (4, .int .i64 0), (7, .int .i64 (p0.length : Int)), (8, .int .i64 s_1)]) ⟨rfl, rfl, rfl, rfl, rfl, trivial⟩ (WK.cls (C' := St w0 m m []) (fun _ h => h) ?_)
    refine WK_seq ?_
    refine WK_region ?_
    refine WO_pure tbok 1 [(0, .slice a_p0 p0.length c_p0), (1, p1v), (4, .int .i64 0), (7, .int .i64 (p0.length : Int)), (8, .int .i64 s_1), (9, .bool (decide (s_1 < (p0.length : Int))))] rfl ⟨rfl, rfl, rfl, rfl, rfl, rfl, trivial⟩ ?_
    refine WO_end ?_
    refine WK_seq ?_
    refine WK_cond (b := decide (s_1 < (p0.length : Int))) rfl (fun hb11 => ?_) (fun hb11 => ?_)
    · have hm5 := ifT hb11 hm5
      refine WK_skip ?_
      refine WK_seq ?_
      refine WK_block ?_
      refine WK_seq ?_
      refine WK_region ?_
      refine WO_pure tbok 2 [(0, .slice a_p0 p0.length c_p0), (1, p1v), (4, .int .i64 0), (5, .int .i64 s_1), (7, .int .i64 (p0.length : Int)), (8, .int .i64 s_1)] rfl ⟨rfl, rfl, rfl, rfl, rfl, rfl, trivial⟩ ?_
      refine WO_end ?_
      refine WK_seq ?_
      refine WK_region ?_
      refine WO_pure tbok 3 [(0, .slice a_p0 p0.length c_p0), (1, p1v), (4, .int .i64 0), (5, .int .i64 s_1), (7, .int .i64 (p0.length : Int)), (8, .int .i64 s_1), (11, p1v), (12, .slice a_p0 p0.length c_p0), (13, .int .i64 s_1)] rfl ⟨rfl, rfl, rfl, rfl, rfl, rfl, rfl, rfl, rfl, trivial⟩ ?_
      obtain ⟨v_2, hy12, hm5⟩ := bind_some hm5
      obtain ⟨hc13, hy12⟩ := ix_some hy12
      refine WO_index tbok rfl rfl rfl rfl rfl rfl rfl rfl (SlR.addr h_p0) hc13 ?_
      refine WO_loadE tbok rfl rfl rfl rfl (fun _ h => St.sat h) h_p0 hy12 rfl ?_
      obtain ⟨y_3, hc14, hm5⟩ := bind_some hm5
      obtain ⟨f0, first0, cap0, hf0, hcal0, hsp0⟩ := hp1 _ (Le.refl _) v_2.1 v_2.2.1 v_2.2.2 _ hc14
      refine WO_call0 (.bool y_3) rfl rfl trivial rfl rfl rfl rfl St_closed ⟨f0, first0, cap0, hf0, hcal0, fun w hw => ⟨m, hw.sat, hsp0⟩⟩ ?_
      refine WO_end ?_
      refine WK_cond (b := y_3) rfl (fun hb15 => ?_) (fun hb15 => ?_)
      · have hm5 := ifT hb15 hm5
        refine WK_seq ?_
        refine WK_region ?_
        refine WO_pure tbok 2 [(0, .slice a_p0 p0.length c_p0), (1, p1v), (4, .int .i64 s_1), (7, .int .i64 (p0.length : Int)), (8, .int .i64 s_1)] rfl ⟨rfl, rfl, rfl, rfl, rfl, trivial⟩ ?_
        refine WO_end ?_
        cases hm5
        have hq := hd9 _ rfl
        subst hq
        have hm : some _ = some _ := hm
        cases hm
        exact WK_ret (ret_out (L := []) (RLc_tmp rfl RLc_nil) (List.nil_sublist _) rfl)
      · have hm5 := ifF hb15 hm5
        refine WK_skip ?_
        refine WK_blk ?_
        refine WK_region ?_
        refine WO_pure tbok 2 [(0, .slice a_p0 p0.length c_p0), (1, p1v), (4, .int .i64 0), (7, .int .i64 (p0.length : Int)), (8, .int .i64 (w64 (s_1 + 1)))] rfl ⟨rfl, rfl, rfl, rfl, rfl, trivial⟩ ?_
        refine WO_end ?_
        cases hm5
        refine WK.sub ?_ (WK.cls (fun _ h => h) (hn8 _ () rfl trivial))
        exact ⟨rfl, rfl, rfl, rfl, rfl, trivial⟩
    · have hm5 := ifF hb11 hm5
      refine WK_exit rfl ?_
      cases hm5
      refine WK.sub ?_ (WK.cls (fun _ h => h) (hk4 ((), ()) (hd9 _ rfl)))
      exact ⟨rfl, trivial⟩
theorem slices_ContainsFunc_sapi_Spot_walk {m : Mu} {p0 : List (Int × Int × Int)} {p1 : Int → Int → Int → Option Bool} {a_p0 : Option Addr} {q_p0 c_p0 : Nat} {p1v : Value} (h_p0 : SlR (FE T3) 3 m (.slice a_p0 q_p0 c_p0) p0) (hp1 : ∀ (m1 : Mu), Le m m1 → ∀ (u1 : Int), ∀ (u2 : Int), ∀ (u3 : Int), ∀ (r : Bool), p1 u1 u2 u3 = some r → SpecV Try.prog p1v [.agg #[.int .i64 u1, .int .i64 u2, .int .i64 u3]] m1 (fun v _ _ => v = .bool r)) {r : Bool} (hm : slices_ContainsFunc_sapi_Spot p0 p1 = some r) :
    Go.E.Spec Try.prog 39 [.slice a_p0 q_p0 c_p0, p1v] m (fun v _ _ => v = .bool r) := by
  refine Spec_enter Try.func39 rfl rfl rfl (fun w0 => ?_)
  refine WK.sub (e' := [(0, .slice a_p0 q_p0 c_p0), (1, p1v)]) ⟨rfl, rfl, trivial⟩ ?_
  obtain rfl := SlR.qlen h_p0
  refine WK.sub (e' := [(0, .slice a_p0 p0.length c_p0), (1, p1v)]) ⟨rfl, rfl, trivial⟩ ?_
  unfold slices_ContainsFunc_sapi_Spot at hm
  refine WK_seq ?_
  refine WK_region ?_
  refine WO_pure tbok 1 [(0, .slice a_p0 p0.length c_p0), (1, p1v), (4, .bool false)] rfl ⟨rfl, rfl, rfl, trivial⟩ ?_
  refine WO_end ?_
  refine WK_seq ?_
  refine WK_region ?_
  refine WO_pure tbok 2 [(4, .bool false), (5, .slice a_p0 p0.length c_p0), (6, p1v)] rfl ⟨rfl, rfl, rfl, trivial⟩ ?_
  obtain ⟨y_1, hc2, hm⟩ := bind_some hm
  refine WO_call0 (.int .i64 y_1) rfl rfl trivial rfl rfl rfl rfl St_closed ⟨57, #[], #[], rfl, callable_57, fun w hw => ⟨_, hw.sat, slices_IndexFunc_sapi_Spot_walk h_p0 hp1 hc2⟩⟩ ?_
  refine WO_pure tbok 2 [(4, .bool (decide (0 ≤ y_1)))] rfl ⟨rfl, trivial⟩ ?_
  refine WO_end ?_
  cases hm
  exact WK_ret (ret_out (L := []) (RLc_tmp rfl RLc_nil) (List.nil_sublist _) rfl)
theorem terrain_Surface_c1_walk {m : Mu} {p0_0 : Int} {p0_1 : Int} {p0_2 : Int}   {r : Bool} (hm : terrain_Surface_c1 p0_0 p0_1 p0_2 = some r) :
    Go.E.Spec Try.prog 40 [.agg #[.int .i64 p0_0, .int .i64 p0_1, .int .i64 p0_2]] m (fun v _ _ => v = .bool r) := by
  refine Spec_enter Try.func40 rfl rfl rfl (fun w0 => ?_)
  refine WK.sub (e' := [(0, .agg #[.int .i64 p0_0, .int .i64 p0_1, .int .i64 p0_2])]) ⟨rfl, trivial⟩ ?_
  refine WK.sub (e' := [(0, .agg #[.int .i64 p0_0, .int .i64 p0_1, .int .i64 p0_2])]) ⟨rfl, trivial⟩ ?_
  unfold terrain_Surface_c1 at hm
  refine WK_seq ?_
  refine WK_region ?_
  refine WO_box [.int .i64 p0_0, .int .i64 p0_1, .int .i64 p0_2] rfl rfl trivial rfl rfl rfl (fun b1 => ?_)
  refine WO.cls (C' := St w0 m m [[⟨b1, 60, [.int .i64 p0_0, .int .i64 p0_1, .int .i64 p0_2]⟩]]) (fun _ h => h) ?_
  refine WO_pure tbok 1 [(1, .pointer (some ⟨b1, 0, none⟩)), (2, .bool false)] rfl ⟨rfl, rfl, trivial⟩ ?_
  refine WO_end ?_
  refine WK_seq ?_
  refine WK_region ?_
  refine WO_pure tbok 1 [(1, .pointer (some ⟨b1, 0, none⟩)), (2, .bool false), (3, .pointer (some ⟨b1, 0, none⟩))] rfl ⟨rfl, rfl, rfl, trivial⟩ ?_
  refine WO_loadB tbok 0 rfl rfl rfl rfl (fun _ h => h) rfl rfl ?_
  obtain ⟨y_1, hc2, hm⟩ := bind_some hm
  refine WO_call0 (.bool y_1) rfl rfl trivial rfl rfl rfl rfl St_closed ⟨41, #[], #[], rfl, callable_41, fun w hw => ⟨_, hw.sat, terrain_far_walk hc2⟩⟩ ?_
  refine WO_pure tbok 1 [(1, .pointer (some ⟨b1, 0, none⟩)), (2, .bool false), (6, .bool y_1)] rfl ⟨rfl, rfl, rfl, trivial⟩ ?_
  refine WO_split (d := 6) (b := y_1) rfl (fun hb3 => ?_) (fun hb3 => ?_)
  · have hm := ifT hb3 hm
    refine WO_pure tbok 2 [(1, .pointer (some ⟨b1, 0, none⟩)), (2, .bool false), (6, .bool true)] rfl ⟨rfl, rfl, rfl, trivial⟩ ?_
    refine WO_skip rfl rfl ?_
    refine WO_pure tbok 4 [(2, .bool false), (11, .bool true)] rfl ⟨rfl, rfl, trivial⟩ ?_
    refine WO_skip rfl rfl ?_
    refine WO_pure tbok 2 [(2, .bool true)] rfl ⟨rfl, trivial⟩ ?_
    refine WO_end ?_
    cases hm
    exact WK_ret (ret_out (L := []) (RLc_tmp rfl RLc_nil) (List.nil_sublist _) rfl)
  · have hm := ifF hb3 hm
    refine WO_pure tbok 1 [(1, .pointer (some ⟨b1, 0, none⟩)), (2, .bool false), (6, .bool false), (7, .pointer (some ⟨b1, 1, none⟩))] rfl ⟨rfl, rfl, rfl, rfl, trivial⟩ ?_
    refine WO_loadB tbok 0 rfl rfl rfl rfl (fun _ h => h) rfl rfl ?_
    obtain ⟨y_2, hc4, hm⟩ := bind_some hm
    refine WO_call0 (.bool y_2) rfl rfl trivial rfl rfl rfl rfl St_closed ⟨41, #[], #[], rfl, callable_41, fun w hw => ⟨_, hw.sat, terrain_far_walk hc4⟩⟩ ?_
    refine WO_pure tbok 2 [(1, .pointer (some ⟨b1, 0, none⟩)), (2, .bool false), (11, .bool y_2)] rfl ⟨rfl, rfl, rfl, trivial⟩ ?_
    refine WO_split (d := 11) (b := y_2) rfl (fun hb5 => ?_) (fun hb5 => ?_)
    · have hm := ifT hb5 hm
      refine WO_pure tbok 2 [(2, .bool false), (11, .bool true)] rfl ⟨rfl, rfl, trivial⟩ ?_
      refine WO_skip rfl rfl ?_
      refine WO_pure tbok 2 [(2, .bool true)] rfl ⟨rfl, trivial⟩ ?_
      refine WO_end ?_
      cases hm
      exact WK_ret (ret_out (L := []) (RLc_tmp rfl RLc_nil) (List.nil_sublist _) rfl)
    · have hm := ifF hb5 hm
      refine WO_pure tbok 1 [(2, .bool false), (11, .bool false), (12, .pointer (some ⟨b1, 2, none⟩))] rfl ⟨rfl, rfl, rfl, trivial⟩ ?_
      refine WO_loadB tbok 0 rfl rfl rfl rfl (fun _ h => h) rfl rfl ?_
      obtain ⟨y_3, hc6, hm⟩ := bind_some hm
      refine WO_call0 (.bool y_3) rfl rfl trivial rfl rfl rfl rfl St_closed ⟨41, #[], #[], rfl, callable_41, fun w hw => ⟨_, hw.sat, terrain_far_walk hc6⟩⟩ ?_
      refine WO_pure tbok 2 [(2, .bool y_3)] rfl ⟨rfl, trivial⟩ ?_
      refine WO_end ?_
      cases hm
      exact WK_ret (ret_out (L := []) (RLc_tmp rfl RLc_nil) (List.nil_sublist _) rfl)
theorem terrain_cell_walk {m : Mu} {p0 : Int} {p1 : Int} {p2 : Int} {p3 : Int}   {r : Int} (hm : terrain_cell p0 p1 p2 p3 = some r) :
    Go.E.Spec Try.prog 43 [.int .i64 p0, .int .i64 p1, .int .i64 p2, .int .i64 p3] m (fun v _ _ => v = .int .i64 r) := by
  refine Spec_enter Try.func43 rfl rfl rfl (fun w0 => ?_)
  refine WK.sub (e' := [(0, .int .i64 p0), (1, .int .i64 p1), (2, .int .i64 p2), (3, .int .i64 p3)]) ⟨rfl, rfl, rfl, rfl, trivial⟩ ?_
  refine WK.sub (e' := [(0, .int .i64 p0), (1, .int .i64 p1), (2, .int .i64 p2), (3, .int .i64 p3)]) ⟨rfl, rfl, rfl, rfl, trivial⟩ ?_
  unfold terrain_cell at hm
  refine WK_seq ?_
  refine WK_region ?_
  refine WO_pure tbok 1 [(0, .int .i64 p0), (1, .int .i64 p1), (2, .int .i64 p2), (3, .int .i64 p3), (8, .int .i64 0)] rfl ⟨rfl, rfl, rfl, rfl, rfl, trivial⟩ ?_
  refine WO_end ?_
  refine WK_seq ?_
  refine WK_region ?_
  refine WO_pure tbok 7 [(2, .int .i64 p2), (3, .int .i64 p3), (8, .int .i64 0), (9, .int .i64 (w64 ((w64 (p0 - p1)) + (w64 (Int.tdiv p2 2)))))] rfl ⟨rfl, rfl, rfl, rfl, trivial⟩ ?_
  refine WO_end ?_
  refine WK_seq ?_
  refine WK_seq ?_
  obtain ⟨s_1, hx1, hm⟩ := bind_some hm
  refine WK_meet [(2, .int .i64 p2), (8, .int .i64 0), (9, .int .i64 (w64 ((w64 (p0 - p1)) + (w64 (Int.tdiv p2 2))))), (24, .bool s_1)] (St w0 m m []) ?_ (fun hk2 => ?_)
  · refine WK_cond (b := s_1) rfl (fun hb3 => ?_) (fun hb3 => ?_)
    · have hm := ifT hb3 hm
      refine WK_seq ?_
      refine WK_region ?_
      refine WO_pure tbok 1 [(2, .int .i64 p2), (8, .int .i64 (-1)), (9, .int .i64 (w64 ((w64 (p0 - p1)) + (w64 (Int.tdiv p2 2)))))] rfl ⟨rfl, rfl, rfl, trivial⟩ ?_
      refine WO_end ?_
      cases hm
      exact WK_ret (ret_out (L := []) (RLc_tmp rfl RLc_nil) (List.nil_sublist _) rfl)
    · have hm := ifF hb3 hm
      refine WK_skip ?_
      refine WK_seq ?_
      refine WK_region ?_
      refine WO_pure tbok 2 [(8, .int .i64 0), (25, .int .i64 (w64 ((w64 (p0 - p1)) + (w64 (Int.tdiv p2 2))))), (26, .int .i64 p2)] rfl ⟨rfl, rfl, rfl, trivial⟩ ?_
      obtain ⟨hc4, hm⟩ := chk_some hm
      refine WO_quo rfl rfl rfl rfl rfl hc4 ?_
      refine WO_pure tbok 1 [(8, .int .i64 (w64 (Int.tdiv (w64 ((w64 (p0 - p1)) + (w64 (Int.tdiv p2 2)))) p2)))] rfl ⟨rfl, trivial⟩ ?_
      refine WO_end ?_
      cases hm
      exact WK_ret (ret_out (L := []) (RLc_tmp rfl RLc_nil) (List.nil_sublist _) rfl)
  · refine WK_region ?_
    refine WO_pure tbok 3 [(2, .int .i64 p2), (3, .int .i64 p3), (8, .int .i64 0), (9, .int .i64 (w64 ((w64 (p0 - p1)) + (w64 (Int.tdiv p2 2))))), (18, .bool (decide ((w64 ((w64 (p0 - p1)) + (w64 (Int.tdiv p2 2)))) < 0)))] rfl ⟨rfl, rfl, rfl, rfl, rfl, trivial⟩ ?_
    refine WO_split (d := 18) (b := decide ((w64 ((w64 (p0 - p1)) + (w64 (Int.tdiv p2 2)))) < 0)) rfl (fun hb5 => ?_) (fun hb5 => ?_)
    · have hx1 := ifT hb5 hx1
      refine WO_pure tbok 6 [(2, .int .i64 p2), (8, .int .i64 0), (9, .int .i64 (w64 ((w64 (p0 - p1)) + (w64 (Int.tdiv p2 2))))), (24, .bool true)] rfl ⟨rfl, rfl, rfl, rfl, trivial⟩ ?_
      refine WO_end ?_
      cases hx1
      refine WK.sub ?_ (WK.cls (fun _ h => h) hk2)
      exact ⟨rfl, rfl, rfl, rfl, trivial⟩
    · have hx1 := ifF hb5 hx1
      refine WO_pure tbok 2 [(2, .int .i64 p2), (3, .int .i64 p3), (8, .int .i64 0), (9, .int .i64 (w64 ((w64 (p0 - p1)) + (w64 (Int.tdiv p2 2))))), (18, .bool false), (19, .int .i64 (w64 ((w64 (p0 - p1)) + (w64 (Int.tdiv p2 2))))), (20, .int .i64 p2)] rfl ⟨rfl, rfl, rfl, rfl, rfl, rfl, rfl, trivial⟩ ?_
      obtain ⟨hc6, hx1⟩ := chk_some hx1
      refine WO_quo rfl rfl rfl rfl rfl hc6 ?_
      refine WO_pure tbok 3 [(2, .int .i64 p2), (8, .int .i64 0), (9, .int .i64 (w64 ((w64 (p0 - p1)) + (w64 (Int.tdiv p2 2))))), (24, .bool (decide (p3 ≤ (w64 (Int.tdiv (w64 ((w64 (p0 - p1)) + (w64 (Int.tdiv p2 2)))) p2)))))] rfl ⟨rfl, rfl, rfl, rfl, trivial⟩ ?_
      refine WO_end ?_
      cases hx1
      refine WK.sub ?_ (WK.cls (fun _ h => h) hk2)
      exact ⟨rfl, rfl, rfl, rfl, trivial⟩
def terrain_Surface_Q (r : Int × Int × Int × Int × Int × List Int × Int) : Value → Mu → List Ent → Prop := fun v m L => ∃ (a0 : Option Addr) (q0 c0 : Nat), v = .tuple #[.agg #[.int .i64 r.1, .int .i64 r.2.1, .int .i64 r.2.2.1, .int .i64 r.2.2.2.1, .int .i64 r.2.2.2.2.1, .slice a0 q0 c0], .int .i64 r.2.2.2.2.2.2] ∧ SlR (FE (I1 .i64)) 1 m (.slice a0 q0 c0) r.2.2.2.2.2.1
theorem terrain_Surface_walk {m : Mu} {p0 : List (Int × Int × Int)} {p1_0 : Int} {p1_1 : Int} {p1_2 : Int} {p1_3 : Int} {p1_4 : Int} {p1_5 : List Int} {a_p0 : Option Addr} {q_p0 c_p0 : Nat} {a_p1_5 : Option Addr} {q_p1_5 c_p1_5 : Nat} (h_p0 : SlR (FE T3) 3 m (.slice a_p0 q_p0 c_p0) p0) (h_p1_5 : SlR (FE (I1 .i64)) 1 m (.slice a_p1_5 q_p1_5 c_p1_5) p1_5) {r : Int × Int × Int × Int × Int × List Int × Int} (hm : terrain_Surface p0 p1_0 p1_1 p1_2 p1_3 p1_4 p1_5 = some r) :
    Go.E.Spec Try.prog 13 [.slice a_p0 q_p0 c_p0, .agg #[.int .i64 p1_0, .int .i64 p1_1, .int .i64 p1_2, .int .i64 p1_3, .int .i64 p1_4, .slice a_p1_5 q_p1_5 c_p1_5]] m (terrain_Surface_Q r) := by
  refine Spec_enter Try.func13 rfl rfl rfl (fun w0 => ?_)
  refine WK.sub (e' := [(0, .slice a_p0 q_p0 c_p0), (1, .agg #[.int .i64 p1_0, .int .i64 p1_1, .int .i64 p1_2, .int .i64 p1_3, .int .i64 p1_4, .slice a_p1_5 q_p1_5 c_p1_5])]) ⟨rfl, rfl, trivial⟩ ?_
  obtain rfl := SlR.qlen h_p0
  obtain rfl := SlR.qlen h_p1_5
  refine WK.sub (e' := [(0, .slice a_p0 p0.length c_p0), (1, .agg #[.int .i64 p1_0, .int .i64 p1_1, .int .i64 p1_2, .int .i64 p1_3, .int .i64 p1_4, .slice a_p1_5 p1_5.length c_p1_5])]) ⟨rfl, rfl, trivial⟩ ?_
  unfold terrain_Surface at hm
  refine WK_seq ?_
  refine WK_region ?_
  refine WO_box [.int .i64 p1_0, .int .i64 p1_1, .int .i64 p1_2, .int .i64 p1_3, .int .i64 p1_4, .slice a_p1_5 p1_5.length c_p1_5] rfl rfl trivial rfl rfl rfl (fun b3 => ?_)
  refine WO.cls (C' := St w0 m m [[⟨b3, 25, [.int .i64 p1_0, .int .i64 p1_1, .int .i64 p1_2, .int .i64 p1_3, .int .i64 p1_4, .slice a_p1_5 p1_5.length c_p1_5]⟩]]) (fun _ h => h) ?_
  refine WO_alloc tbok [.int .i64 0, .int .i64 0, .int .i64 0, .int .i64 0, .int .i64 0, .slice none 0 0] rfl rfl trivial rfl rfl rfl rfl (fun b4 => ?_)
  refine WO.cls (C' := St w0 m m [[⟨b3, 25, [.int .i64 p1_0, .int .i64 p1_1, .int .i64 p1_2, .int .i64 p1_3, .int .i64 p1_4, .slice a_p1_5 p1_5.length c_p1_5]⟩], [⟨b4, 25, [.int .i64 0, .int .i64 0, .int .i64 0, .int .i64 0, .int .i64 0, .slice none 0 0]⟩]]) (fun _ h => h) ?_
  refine WO_pure tbok 1 [(0, .slice a_p0 p0.length c_p0), (3, .pointer (some ⟨b3, 0, none⟩)), (4, .pointer (some ⟨b4, 0, none⟩)), (5, .int .i64 0)] rfl ⟨rfl, rfl, rfl, rfl, trivial⟩ ?_
  refine WO_end ?_
  refine WK_seq ?_
  refine WK_seq ?_
  refine WK_region ?_
  refine WO_loadB tbok 0 rfl rfl rfl rfl (fun _ h => h) rfl rfl ?_
  obtain ⟨y_1, hc5, hm⟩ := bind_some hm
  refine WO_call0 (.int .i64 y_1) rfl rfl trivial rfl rfl rfl rfl St_closed ⟨16, #[], #[], rfl, callable_16, fun w hw => ⟨_, hw.sat, terrain_Check_walk h_p1_5 hc5⟩⟩ ?_
  refine WO_pure tbok 1 [(0, .slice a_p0 p0.length c_p0), (3, .pointer (some ⟨b3, 0, none⟩)), (4, .pointer (some ⟨b4, 0, none⟩)), (5, .int .i64 0), (6, .int .i64 y_1)] rfl ⟨rfl, rfl, rfl, rfl, rfl, trivial⟩ ?_
  refine WO_end ?_
  refine WK_seq ?_
  refine WK_region ?_
  refine WO_pure tbok 2 [(0, .slice a_p0 p0.length c_p0), (3, .pointer (some ⟨b3, 0, none⟩)), (4, .pointer (some ⟨b4, 0, none⟩)), (5, .int .i64 0), (6, .int .i64 y_1), (16, .bool (y_1 != 0))] rfl ⟨rfl, rfl, rfl, rfl, rfl, rfl, trivial⟩ ?_
  refine WO_end ?_
  refine WK_cond (b := y_1 != 0) rfl (fun hb6 => ?_) (fun hb6 => ?_)
  · have hm := ifT hb6 hm
    refine WK_seq ?_
    refine WK_region ?_
    refine WO_pure tbok 2 [(0, .slice a_p0 p0.length c_p0), (3, .pointer (some ⟨b3, 0, none⟩)), (4, .pointer (some ⟨b4, 0, none⟩)), (5, .int .i64 0), (17, .agg #[.int .i64 0, .int .i64 0, .int .i64 0, .int .i64 0, .int .i64 0, .slice none 0 0]), (18, .int .i64 y_1)] rfl ⟨rfl, rfl, rfl, rfl, rfl, rfl, trivial⟩ ?_
    refine WO_storeB tbok 1 [.int .i64 0, .int .i64 0, .int .i64 0, .int .i64 0, .int .i64 0, .slice none 0 0] rfl rfl rfl rfl rfl rfl rfl ?_
    refine WO.cls (C' := St w0 m m [[⟨b3, 25, [.int .i64 p1_0, .int .i64 p1_1, .int .i64 p1_2, .int .i64 p1_3, .int .i64 p1_4, .slice a_p1_5 p1_5.length c_p1_5]⟩], [⟨b4, 25, [.int .i64 0, .int .i64 0, .int .i64 0, .int .i64 0, .int .i64 0, .slice none 0 0]⟩]]) (fun _ h => h) ?_
    refine WO_pure tbok 1 [(0, .slice a_p0 p0.length c_p0), (3, .pointer (some ⟨b3, 0, none⟩)), (4, .pointer (some ⟨b4, 0, none⟩)), (5, .int .i64 y_1)] rfl ⟨rfl, rfl, rfl, rfl, trivial⟩ ?_
    refine WO_end ?_
    cases hm
    exact WK_ret (ret_out (L := []) (RLc_cell tbok 1 rfl rfl rfl (RLc_tmp rfl RLc_nil)) (List.nil_sublist _) ⟨none, 0, 0, rfl, SlR_nil⟩)
  · have hm := ifF hb6 hm
    refine WK_skip ?_
    refine WK_seq ?_
    refine WK_seq ?_
    refine WK_region ?_
    refine WO_pure tbok 3 [(0, .slice a_p0 p0.length c_p0), (3, .pointer (some ⟨b3, 0, none⟩)), (4, .pointer (some ⟨b4, 0, none⟩)), (5, .int .i64 0), (21, .bool (decide (4096 < (p0.length : Int))))] rfl ⟨rfl, rfl, rfl, rfl, rfl, trivial⟩ ?_
    refine WO_end ?_
    refine WK_cond (b := decide (4096 < (p0.length : Int))) rfl (fun hb7 => ?_) (fun hb7 => ?_)
    · have hm := ifT hb7 hm
      refine WK_seq ?_
      refine WK_region ?_
      refine WO_pure tbok 1 [(0, .slice a_p0 p0.length c_p0), (3, .pointer (some ⟨b3, 0, none⟩)), (4, .pointer (some ⟨b4, 0, none⟩)), (5, .int .i64 0), (22, .agg #[.int .i64 0, .int .i64 0, .int .i64 0, .int .i64 0, .int .i64 0, .slice none 0 0])] rfl ⟨rfl, rfl, rfl, rfl, rfl, trivial⟩ ?_
      refine WO_storeB tbok 1 [.int .i64 0, .int .i64 0, .int .i64 0, .int .i64 0, .int .i64 0, .slice none 0 0] rfl rfl rfl rfl rfl rfl rfl ?_
      refine WO.cls (C' := St w0 m m [[⟨b3, 25, [.int .i64 p1_0, .int .i64 p1_1, .int .i64 p1_2, .int .i64 p1_3, .int .i64 p1_4, .slice a_p1_5 p1_5.length c_p1_5]⟩], [⟨b4, 25, [.int .i64 0, .int .i64 0, .int .i64 0, .int .i64 0, .int .i64 0, .slice none 0 0]⟩]]) (fun _ h => h) ?_
      refine WO_pure tbok 1 [(0, .slice a_p0 p0.length c_p0), (3, .pointer (some ⟨b3, 0, none⟩)), (4, .pointer (some ⟨b4, 0, none⟩)), (5, .int .i64 3)] rfl ⟨rfl, rfl, rfl, rfl, trivial⟩ ?_
      refine WO_end ?_
      cases hm
      exact WK_ret (ret_out (L := []) (RLc_cell tbok 1 rfl rfl rfl (RLc_tmp rfl RLc_nil)) (List.nil_sublist _) ⟨none, 0, 0, rfl, SlR_nil⟩)
    · have hm := ifF hb7 hm
      refine WK_skip ?_
      refine WK_seq ?_
      refine WK_seq ?_
      refine WK_region ?_
      refine WO_pure tbok 1 [(0, .slice a_p0 p0.length c_p0), (3, .pointer (some ⟨b3, 0, none⟩)), (4, .pointer (some ⟨b4, 0, none⟩)), (5, .int .i64 0), (23, .slice a_p0 p0.length c_p0)] rfl ⟨rfl, rfl, rfl, rfl, rfl, trivial⟩ ?_
      obtain ⟨y_5, hc8, hm⟩ := bind_some hm
      refine WO_call0 (.bool y_5) rfl rfl trivial rfl rfl rfl rfl St_closed ⟨39, #[], #[], rfl, callable_39, fun w hw => ⟨_, hw.sat, slices_ContainsFunc_sapi_Spot_walk h_p0 (fun m1 hm1 z_2 z_3 z_4 _ h => specV_cap callable_40 (terrain_Surface_c1_walk h)) hc8⟩⟩ ?_
      refine WO_end ?_
      refine WK_cond (b := y_5) rfl (fun hb9 => ?_) (fun hb9 => ?_)
      · have hm := ifT hb9 hm
        refine WK_seq ?_
        refine WK_region ?_
        refine WO_pure tbok 1 [(0, .slice a_p0 p0.length c_p0), (3, .pointer (some ⟨b3, 0, none⟩)), (4, .pointer (some ⟨b4, 0, none⟩)), (5, .int .i64 0), (25, .agg #[.int .i64 0, .int .i64 0, .int .i64 0, .int .i64 0, .int .i64 0, .slice none 0 0])] rfl ⟨rfl, rfl, rfl, rfl, rfl, trivial⟩ ?_
        refine WO_storeB tbok 1 [.int .i64 0, .int .i64 0, .int .i64 0, .int .i64 0, .int .i64 0, .slice none 0 0] rfl rfl rfl rfl rfl rfl rfl ?_
        refine WO.cls (C' := St w0 m m [[⟨b3, 25, [.int .i64 p1_0, .int .i64 p1_1, .int .i64 p1_2, .int .i64 p1_3, .int .i64 p1_4, .slice a_p1_5 p1_5.length c_p1_5]⟩], [⟨b4, 25, [.int .i64 0, .int .i64 0, .int .i64 0, .int .i64 0, .int .i64 0, .slice none 0 0]⟩]]) (fun _ h => h) ?_
        refine WO_pure tbok 1 [(0, .slice a_p0 p0.length c_p0), (3, .pointer (some ⟨b3, 0, none⟩)), (4, .pointer (some ⟨b4, 0, none⟩)), (5, .int .i64 2)] rfl ⟨rfl, rfl, rfl, rfl, trivial⟩ ?_
        refine WO_end ?_
        cases hm
        exact WK_ret (ret_out (L := []) (RLc_cell tbok 1 rfl rfl rfl (RLc_tmp rfl RLc_nil)) (List.nil_sublist _) ⟨none, 0, 0, rfl, SlR_nil⟩)
      · have hm := ifF hb9 hm
        refine WK_skip ?_
        refine WK_seq ?_
        refine WK_region ?_
        refine WO_pure tbok 1 [(0, .slice a_p0 p0.length c_p0), (3, .pointer (some ⟨b3, 0, none⟩)), (4, .pointer (some ⟨b4, 0, none⟩)), (5, .int .i64 0), (26, .pointer (some ⟨b3, 5, none⟩))] rfl ⟨rfl, rfl, rfl, rfl, rfl, trivial⟩ ?_
        refine WO_loadB tbok 0 rfl rfl rfl rfl (fun _ h => h) rfl rfl ?_
        refine WO_pure tbok 1 [(0, .slice a_p0 p0.length c_p0), (3, .pointer (some ⟨b3, 0, none⟩)), (4, .pointer (some ⟨b4, 0, none⟩)), (5, .int .i64 0), (28, .int .i64 (p1_5.length : Int))] rfl ⟨rfl, rfl, rfl, rfl, rfl, trivial⟩ ?_
        obtain ⟨y_6, hc10, hm⟩ := bind_some hm
        refine WO_call1 (terrain_blank_Q y_6) rfl rfl trivial rfl rfl rfl rfl ⟨42, #[], #[], rfl, callable_42, fun w hw => ⟨_, hw.sat, terrain_blank_walk hc10⟩⟩ (fun v15 L14 hq => ?_)
        obtain ⟨a11, qa11, c12, rfl, hL14⟩ := hq
        obtain rfl := OwnE.qlen hL14
        refine WO.cls (C' := St w0 m m [[⟨b3, 25, [.int .i64 p1_0, .int .i64 p1_1, .int .i64 p1_2, .int .i64 p1_3, .int .i64 p1_4, .slice a_p1_5 p1_5.length c_p1_5]⟩], [⟨b4, 25, [.int .i64 0, .int .i64 0, .int .i64 0, .int .i64 0, .int .i64 0, .slice none 0 0]⟩], L14]) (fun _ h => h) ?_
        refine WO_pure tbok 1 [(0, .slice a_p0 p0.length c_p0), (3, .pointer (some ⟨b3, 0, none⟩)), (4, .pointer (some ⟨b4, 0, none⟩)), (5, .int .i64 0), (7, .slice a11 ((y_6).length) c12)] rfl ⟨rfl, rfl, rfl, rfl, rfl, trivial⟩ ?_
        refine WO_end ?_
        refine WK_seq ?_
        refine WK_seq ?_
        refine WK_region ?_
        refine WO_pure tbok 3 [(3, .pointer (some ⟨b3, 0, none⟩)), (4, .pointer (some ⟨b4, 0, none⟩)), (5, .int .i64 0), (7, .slice a11 ((y_6).length) c12), (30, .slice a_p0 p0.length c_p0), (31, .int .i64 (p0.length : Int)), (32, .int .i64 0)] rfl ⟨rfl, rfl, rfl, rfl, rfl, rfl, rfl, trivial⟩ ?_
        refine WO_end ?_
        obtain ⟨x20, hx21, hm⟩ := bind_some hm
        refine WK_join (β := (List Int) × (List Ent)) (fun p => p.1 = x20 ∧ OwnE 3 1 (I1 .i64) (.slice a11 ((y_6).length) c12) p.1 p.2) (fun p => [(3, .pointer (some ⟨b3, 0, none⟩)), (4, .pointer (some ⟨b4, 0, none⟩)), (5, .int .i64 0), (7, .slice a11 ((y_6).length) c12)]) (fun p => St w0 m m [[⟨b3, 25, [.int .i64 p1_0, .int .i64 p1_1, .int .i64 p1_2, .int .i64 p1_3, .int .i64 p1_4, .slice a_p1_5 p1_5.length c_p1_5]⟩], [⟨b4, 25, [.int .i64 0, .int .i64 0, .int .i64 0, .int .i64 0, .int .i64 0, .slice none 0 0]⟩], p.2]) ?_ (fun hk22 => ?_)
        · rintro ⟨l_9, L19⟩ ⟨hq28, hL19⟩
          subst hq28
          refine WK.sub (e' := [(3, .pointer (some ⟨b3, 0, none⟩)), (4, .pointer (some ⟨b4, 0, none⟩)), (5, .int .i64 0), (7, .slice a11 ((y_6).length) c12)]) ⟨rfl, rfl, rfl, rfl, trivial⟩ (WK.cls (C' := St w0 m m [[⟨b3, 25, [.int .i64 p1_0, .int .i64 p1_1, .int .i64 p1_2, .int .i64 p1_3, .int .i64 p1_4, .slice a_p1_5 p1_5.length c_p1_5]⟩], [⟨b4, 25, [.int .i64 0, .int .i64 0, .int .i64 0, .int .i64 0, .int .i64 0, .slice none 0 0]⟩], L19]) (fun _ h => h) ?_)
          refine WK_seq ?_
          refine WK_region ?_
          refine WO_loadB tbok 0 rfl rfl rfl rfl (fun _ h => h) rfl rfl ?_
          refine WO_pure tbok 1 [(4, .pointer (some ⟨b4, 0, none⟩)), (5, .int .i64 0), (77, .agg #[.int .i64 p1_0, .int .i64 p1_1, .int .i64 p1_2, .int .i64 p1_3, .int .i64 p1_4, .slice a_p1_5 p1_5.length c_p1_5]), (78, .slice a11 ((y_6).length) c12)] rfl ⟨rfl, rfl, rfl, rfl, trivial⟩ ?_
          refine WO_freeze 2 rfl (fun m29 hle30 hmm31 => ?_)
          refine WO.cls (C' := St w0 m m29 [[⟨b3, 25, [.int .i64 p1_0, .int .i64 p1_1, .int .i64 p1_2, .int .i64 p1_3, .int .i64 p1_4, .slice a_p1_5 p1_5.length c_p1_5]⟩], [⟨b4, 25, [.int .i64 0, .int .i64 0, .int .i64 0, .int .i64 0, .int .i64 0, .slice none 0 0]⟩], []]) (fun _ h => h) ?_
          obtain ⟨⟨y_10, y_11, y_12, y_13, y_14, y_15⟩, hc32, hm⟩ := bind_some hm
          refine WO_call2 (terrain_with_Q (y_10, y_11, y_12, y_13, y_14, y_15)) rfl rfl trivial rfl rfl rfl rfl ⟨44, #[], #[], rfl, callable_44, terrain_with_walk (h_p1_5.mono (mono_FE _) hle30) (OwnE.rd (E := (I1 .i64)) (k := 1) (fun _ => rfl) hL19 hmm31) hc32⟩ (fun v37 m38 L36 hle39 hq => ?_)
          obtain ⟨a33, qa33, c34, rfl, h40⟩ := hq
          obtain rfl := SlR.qlen h40
          refine WO.cls (C' := St w0 m m38 [[⟨b3, 25, [.int .i64 p1_0, .int .i64 p1_1, .int .i64 p1_2, .int .i64 p1_3, .int .i64 p1_4, .slice a_p1_5 p1_5.length c_p1_5]⟩], [⟨b4, 25, [.int .i64 0, .int .i64 0, .int .i64 0, .int .i64 0, .int .i64 0, .slice none 0 0]⟩], [], L36]) (fun _ h => h.sub (by simp)) ?_
          refine WO_storeB tbok 1 [.int .i64 y_10, .int .i64 y_11, .int .i64 y_12, .int .i64 y_13, .int .i64 y_14, .slice a33 ((y_15).length) c34] rfl rfl rfl rfl rfl rfl rfl ?_
          refine WO.cls (C' := St w0 m m38 [[⟨b3, 25, [.int .i64 p1_0, .int .i64 p1_1, .int .i64 p1_2, .int .i64 p1_3, .int .i64 p1_4, .slice a_p1_5 p1_5.length c_p1_5]⟩], [⟨b4, 25, [.int .i64 y_10, .int .i64 y_11, .int .i64 y_12, .int .i64 y_13, .int .i64 y_14, .slice a33 ((y_15).length) c34]⟩], [], L36]) (fun _ h => h) ?_
          refine WO_pure tbok 1 [(4, .pointer (some ⟨b4, 0, none⟩)), (5, .int .i64 0)] rfl ⟨rfl, rfl, trivial⟩ ?_
          refine WO_end ?_
          cases hm
          exact WK_ret (ret_out (L := []) (RLc_cell tbok 1 rfl rfl rfl (RLc_tmp rfl RLc_nil)) (List.nil_sublist _) ⟨a33, _, c34, rfl, h40⟩)
        · refine WK_block ?_
          refine WK_loop (S := List Int × Int) (G := List Ent) (fun s => terrain_Surface_s1 p0 p1_0 p1_1 p1_2 p1_3 p1_4 s.1 s.2) (fun s g => [(3, .pointer (some ⟨b3, 0, none⟩)), (4, .pointer (some ⟨b4, 0, none⟩)), (5, .int .i64 0), (7, .slice a11 ((y_6).length) c12), (30, .slice a_p0 p0.length c_p0), (31, .int .i64 (p0.length : Int)), (32, .int .i64 s.2)]) (fun s g => St w0 m m [[⟨b3, 25, [.int .i64 p1_0, .int .i64 p1_1, .int .i64 p1_2, .int .i64 p1_3, .int .i64 p1_4, .slice a_p1_5 p1_5.length c_p1_5]⟩], [⟨b4, 25, [.int .i64 0, .int .i64 0, .int .i64 0, .int .i64 0, .int .i64 0, .slice none 0 0]⟩], g]) (fun s g => OwnE 3 1 (I1 .i64) (.slice a11 ((y_6).length) c12) s.1 g) FUEL (y_6, 0) L14 x20 hx21 hL14 ⟨rfl, rfl, rfl, rfl, rfl, rfl, rfl, trivial⟩ (fun _ h => h) ?_
          rintro ⟨l_7, s_8⟩ L17 o24 fl25 hm23 hL17 hn26 hd27
          have hm23 : terrain_Surface_s1 p0 p1_0 p1_1 p1_2 p1_3 p1_4 l_7 s_8 = some o24 := hm23
          unfold terrain_Surface_s1 at hm23
          refine WK.sub (e' := [(3, .pointer (some ⟨b3, 0, none⟩)), (4, .pointer (some ⟨b4, 0, none⟩)), (5, .int .i64 0), (7, .slice a11 ((y_6).length) c12), (30, .slice a_p0 p0.length c_p0), (31, .int .i64 (p0.length : Int)), (32, .int .i64 s_8)]) ⟨rfl, rfl, rfl, rfl, rfl, rfl, rfl, trivial⟩ (WK.cls (C' := St w0 m m [[⟨b3, 25, [.int .i64 p1_0, .int .i64 p1_1, .int .i64 p1_2, .int .i64 p1_3, .int .i64 p1_4, .slice a_p1_5 p1_5.length c_p1_5]⟩], [⟨b4, 25, [.int .i64 0, .int .i64 0, .int .i64 0, .int .i64 0, .int .i64 0, .slice none 0 0]⟩], L17]) (fun _ h => h) ?_)
          refine WK_seq ?_
          refine WK_region ?_
          refine WO_pure tbok 1 [(3, .pointer (some ⟨b3, 0, none⟩)), (4, .pointer (some ⟨b4, 0, none⟩)), (5, .int .i64 0), (7, .slice a11 ((y_6).length) c12), (30, .slice a_p0 p0.length c_p0), (31, .int .i64 (p0.length : Int)), (32, .int .i64 s_8), (33, .bool (decide (s_8 < (p0.length : Int))))] rfl ⟨rfl, rfl, rfl, rfl, rfl, rfl, rfl, rfl, trivial⟩ ?_
          refine WO_end ?_
          refine WK_seq ?_
          refine WK_cond (b := decide (s_8 < (p0.length : Int))) rfl (fun hb41 => ?_) (fun hb41 => ?_)
          · have hm23 := ifT hb41 hm23
            refine WK_skip ?_
            refine WK_seq ?_
            refine WK_block ?_
            refine WK_seq ?_
            refine WK_region ?_
            obtain ⟨v_16, hy42, hm23⟩ := bind_some hm23
            obtain ⟨hc43, hy42⟩ := ix_some hy42
            refine WO_index tbok rfl rfl rfl rfl rfl rfl rfl rfl (SlR.addr h_p0) hc43 ?_
            refine WO_loadE tbok rfl rfl rfl rfl (fun _ h => St.sat h) h_p0 hy42 rfl ?_
            refine WO_alloc tbok [.int .i64 0, .int .i64 0, .int .i64 0] rfl rfl trivial rfl rfl rfl rfl (fun b44 => ?_)
            refine WO.cls (C' := St w0 m m [[⟨b3, 25, [.int .i64 p1_0, .int .i64 p1_1, .int .i64 p1_2, .int .i64 p1_3, .int .i64 p1_4, .slice a_p1_5 p1_5.length c_p1_5]⟩], [⟨b4, 25, [.int .i64 0, .int .i64 0, .int .i64 0, .int .i64 0, .int .i64 0, .slice none 0 0]⟩], L17, [⟨b44, 60, [.int .i64 0, .int .i64 0, .int .i64 0]⟩]]) (fun _ h => h) ?_
            refine WO_storeB tbok 3 [.int .i64 v_16.1, .int .i64 v_16.2.1, .int .i64 v_16.2.2] rfl rfl rfl rfl rfl rfl rfl ?_
            refine WO.cls (C' := St w0 m m [[⟨b3, 25, [.int .i64 p1_0, .int .i64 p1_1, .int .i64 p1_2, .int .i64 p1_3, .int .i64 p1_4, .slice a_p1_5 p1_5.length c_p1_5]⟩], [⟨b4, 25, [.int .i64 0, .int .i64 0, .int .i64 0, .int .i64 0, .int .i64 0, .slice none 0 0]⟩], L17, [⟨b44, 60, [.int .i64 v_16.1, .int .i64 v_16.2.1, .int .i64 v_16.2.2]⟩]]) (fun _ h => h) ?_
            refine WO_end ?_
            refine WK_seq ?_
            refine WK_draw 20 [0, 1, 2, 3, 4, 5, 6, 7, 9, 10, 11, 12, 13, 14, 15, 16, 8, 17, 18, 19] follows_ok (by kernel_rfl) St_closed ?_
            refine WO_pure tbok 1 [(3, .pointer (some ⟨b3, 0, none⟩)), (4, .pointer (some ⟨b4, 0, none⟩)), (5, .int .i64 0), (7, .slice a11 ((y_6).length) c12), (9, .pointer (some ⟨b44, 0, none⟩)), (30, .slice a_p0 p0.length c_p0), (31, .int .i64 (p0.length : Int)), (32, .int .i64 s_8), (36, .pointer (some ⟨b44, 0, none⟩))] rfl ⟨rfl, rfl, rfl, rfl, rfl, rfl, rfl, rfl, rfl, trivial⟩ ?_
            refine WO_loadB tbok 3 rfl rfl rfl rfl (fun _ h => h) rfl rfl ?_
            refine WO_pure tbok 1 [(3, .pointer (some ⟨b3, 0, none⟩)), (4, .pointer (some ⟨b4, 0, none⟩)), (5, .int .i64 0), (7, .slice a11 ((y_6).length) c12), (9, .pointer (some ⟨b44, 0, none⟩)), (30, .slice a_p0 p0.length c_p0), (31, .int .i64 (p0.length : Int)), (32, .int .i64 s_8), (37, .int .i64 v_16.1), (38, .pointer (some ⟨b3, 0, none⟩))] rfl ⟨rfl, rfl, rfl, rfl, rfl, rfl, rfl, rfl, rfl, rfl, trivial⟩ ?_
            refine WO_loadB tbok 0 rfl rfl rfl rfl (fun _ h => h) rfl rfl ?_
            refine WO_pure tbok 1 [(3, .pointer (some ⟨b3, 0, none⟩)), (4, .pointer (some ⟨b4, 0, none⟩)), (5, .int .i64 0), (7, .slice a11 ((y_6).length) c12), (9, .pointer (some ⟨b44, 0, none⟩)), (30, .slice a_p0 p0.length c_p0), (31, .int .i64 (p0.length : Int)), (32, .int .i64 s_8), (37, .int .i64 v_16.1), (39, .int .i64 p1_0), (40, .pointer (some ⟨b3, 2, none⟩))] rfl ⟨rfl, rfl, rfl, rfl, rfl, rfl, rfl, rfl, rfl, rfl, rfl, trivial⟩ ?_
            refine WO_loadB tbok 0 rfl rfl rfl rfl (fun _ h => h) rfl rfl ?_
            refine WO_pure tbok 1 [(3, .pointer (some ⟨b3, 0, none⟩)), (4, .pointer (some ⟨b4, 0, none⟩)), (5, .int .i64 0), (7, .slice a11 ((y_6).length) c12), (9, .pointer (some ⟨b44, 0, none⟩)), (30, .slice a_p0 p0.length c_p0), (31, .int .i64 (p0.length : Int)), (32, .int .i64 s_8), (37, .int .i64 v_16.1), (39, .int .i64 p1_0), (41, .int .i64 p1_2), (42, .pointer (some ⟨b3, 3, none⟩))] rfl ⟨rfl, rfl, rfl, rfl, rfl, rfl, rfl, rfl, rfl, rfl, rfl, rfl, trivial⟩ ?_
            refine WO_loadB tbok 0 rfl rfl rfl rfl (fun _ h => h) rfl rfl ?_
            refine WO_pure tbok 1 [(3, .pointer (some ⟨b3, 0, none⟩)), (4, .pointer (some ⟨b4, 0, none⟩)), (5, .int .i64 0), (7, .slice a11 ((y_6).length) c12), (9, .pointer (some ⟨b44, 0, none⟩)), (30, .slice a_p0 p0.length c_p0), (31, .int .i64 (p0.length : Int)), (32, .int .i64 s_8), (37, .int .i64 v_16.1), (39, .int .i64 p1_0), (41, .int .i64 p1_2), (43, .int .i64 p1_3), (45, .pointer (some ⟨b44, 1, none⟩))] rfl ⟨rfl, rfl, rfl, rfl, rfl, rfl, rfl, rfl, rfl, rfl, rfl, rfl, rfl, trivial⟩ ?_
            refine WO_loadB tbok 3 rfl rfl rfl rfl (fun _ h => h) rfl rfl ?_
            refine WO_pure tbok 1 [(3, .pointer (some ⟨b3, 0, none⟩)), (4, .pointer (some ⟨b4, 0, none⟩)), (5, .int .i64 0), (7, .slice a11 ((y_6).length) c12), (9, .pointer (some ⟨b44, 0, none⟩)), (30, .slice a_p0 p0.length c_p0), (31, .int .i64 (p0.length : Int)), (32, .int .i64 s_8), (37, .int .i64 v_16.1), (39, .int .i64 p1_0), (41, .int .i64 p1_2), (43, .int .i64 p1_3), (46, .int .i64 v_16.2.1), (47, .pointer (some ⟨b3, 1, none⟩))] rfl ⟨rfl, rfl, rfl, rfl, rfl, rfl, rfl, rfl, rfl, rfl, rfl, rfl, rfl, rfl, trivial⟩ ?_
            refine WO_loadB tbok 0 rfl rfl rfl rfl (fun _ h => h) rfl rfl ?_
            refine WO_pure tbok 1 [(3, .pointer (some ⟨b3, 0, none⟩)), (4, .pointer (some ⟨b4, 0, none⟩)), (5, .int .i64 0), (7, .slice a11 ((y_6).length) c12), (9, .pointer (some ⟨b44, 0, none⟩)), (30, .slice a_p0 p0.length c_p0), (31, .int .i64 (p0.length : Int)), (32, .int .i64 s_8), (37, .int .i64 v_16.1), (39, .int .i64 p1_0), (41, .int .i64 p1_2), (43, .int .i64 p1_3), (46, .int .i64 v_16.2.1), (48, .int .i64 p1_1), (49, .pointer (some ⟨b3, 2, none⟩))] rfl ⟨rfl, rfl, rfl, rfl, rfl, rfl, rfl, rfl, rfl, rfl, rfl, rfl, rfl, rfl, rfl, trivial⟩ ?_
            refine WO_loadB tbok 0 rfl rfl rfl rfl (fun _ h => h) rfl rfl ?_
            refine WO_pure tbok 1 [(3, .pointer (some ⟨b3, 0, none⟩)), (4, .pointer (some ⟨b4, 0, none⟩)), (5, .int .i64 0), (7, .slice a11 ((y_6).length) c12), (9, .pointer (some ⟨b44, 0, none⟩)), (30, .slice a_p0 p0.length c_p0), (31, .int .i64 (p0.length : Int)), (32, .int .i64 s_8), (37, .int .i64 v_16.1), (39, .int .i64 p1_0), (41, .int .i64 p1_2), (43, .int .i64 p1_3), (46, .int .i64 v_16.2.1), (48, .int .i64 p1_1), (50, .int .i64 p1_2), (51, .pointer (some ⟨b3, 4, none⟩))] rfl ⟨rfl, rfl, rfl, rfl, rfl, rfl, rfl, rfl, rfl, rfl, rfl, rfl, rfl, rfl, rfl, rfl, trivial⟩ ?_
            refine WO_loadB tbok 0 rfl rfl rfl rfl (fun _ h => h) rfl rfl ?_
            obtain ⟨y_17, hc45, hm23⟩ := bind_some hm23
            refine WO_call0 (.int .i64 y_17) rfl rfl St_closed rfl rfl rfl rfl St_closed ⟨43, #[], #[], rfl, callable_43, fun w hw => ⟨_, hw.sat, terrain_cell_walk hc45⟩⟩ ?_
            obtain ⟨y_18, hc46, hm23⟩ := bind_some hm23
            refine WO_call0 (.int .i64 y_18) rfl rfl St_closed rfl rfl rfl rfl St_closed ⟨43, #[], #[], rfl, callable_43, fun w hw => ⟨_, hw.sat, terrain_cell_walk hc46⟩⟩ ?_
            refine WO_pure tbok 2 [(3, .pointer (some ⟨b3, 0, none⟩)), (4, .pointer (some ⟨b4, 0, none⟩)), (5, .int .i64 0), (7, .slice a11 ((y_6).length) c12), (9, .pointer (some ⟨b44, 0, none⟩)), (10, .int .i64 y_17), (11, .int .i64 y_18), (30, .slice a_p0 p0.length c_p0), (31, .int .i64 (p0.length : Int)), (32, .int .i64 s_8)] rfl ⟨rfl, rfl, rfl, rfl, rfl, rfl, rfl, rfl, rfl, rfl, trivial⟩ ?_
            refine WO_tail ?_
            refine WO_end ?_
            refine WK_seq ?_
            obtain ⟨s_19, hx47, hm23⟩ := bind_some hm23
            refine WK_meet [(3, .pointer (some ⟨b3, 0, none⟩)), (4, .pointer (some ⟨b4, 0, none⟩)), (5, .int .i64 0), (7, .slice a11 ((y_6).length) c12), (9, .pointer (some ⟨b44, 0, none⟩)), (10, .int .i64 y_17), (11, .int .i64 y_18), (30, .slice a_p0 p0.length c_p0), (31, .int .i64 (p0.length : Int)), (32, .int .i64 s_8), (59, .bool s_19)] (St w0 m m [[⟨b3, 25, [.int .i64 p1_0, .int .i64 p1_1, .int .i64 p1_2, .int .i64 p1_3, .int .i64 p1_4, .slice a_p1_5 p1_5.length c_p1_5]⟩], [⟨b4, 25, [.int .i64 0, .int .i64 0, .int .i64 0, .int .i64 0, .int .i64 0, .slice none 0 0]⟩], L17, [⟨b44, 60, [.int .i64 v_16.1, .int .i64 v_16.2.1, .int .i64 v_16.2.2]⟩]]) ?_ (fun hk48 => ?_)
            · obtain ⟨l_20, hx51, hm23⟩ := bind_some hm23
              refine WK_join (β := List Ent) (fun p => OwnE 3 1 (I1 .i64) (.slice a11 ((y_6).length) c12) l_20 p) (fun p => [(3, .pointer (some ⟨b3, 0, none⟩)), (4, .pointer (some ⟨b4, 0, none⟩)), (5, .int .i64 0), (7, .slice a11 ((y_6).length) c12), (30, .slice a_p0 p0.length c_p0), (31, .int .i64 (p0.length : Int)), (32, .int .i64 s_8)]) (fun p => St w0 m m [[⟨b3, 25, [.int .i64 p1_0, .int .i64 p1_1, .int .i64 p1_2, .int .i64 p1_3, .int .i64 p1_4, .slice a_p1_5 p1_5.length c_p1_5]⟩], [⟨b4, 25, [.int .i64 0, .int .i64 0, .int .i64 0, .int .i64 0, .int .i64 0, .slice none 0 0]⟩], p, [⟨b44, 60, [.int .i64 v_16.1, .int .i64 v_16.2.1, .int .i64 v_16.2.2]⟩]]) ?_ (fun hk52 => ?_)
              · rintro L50 hL50
                refine WK.sub (e' := [(3, .pointer (some ⟨b3, 0, none⟩)), (4, .pointer (some ⟨b4, 0, none⟩)), (5, .int .i64 0), (7, .slice a11 ((y_6).length) c12), (30, .slice a_p0 p0.length c_p0), (31, .int .i64 (p0.length : Int)), (32, .int .i64 s_8)]) ⟨rfl, rfl, rfl, rfl, rfl, rfl, rfl, trivial⟩ (WK.cls (C' := St w0 m m [[⟨b3, 25, [.int .i64 p1_0, .int .i64 p1_1, .int .i64 p1_2, .int .i64 p1_3, .int .i64 p1_4, .slice a_p1_5 p1_5.length c_p1_5]⟩], [⟨b4, 25, [.int .i64 0, .int .i64 0, .int .i64 0, .int .i64 0, .int .i64 0, .slice none 0 0]⟩], L50, [⟨b44, 60, [.int .i64 v_16.1, .int .i64 v_16.2.1, .int .i64 v_16.2.2]⟩]]) (fun _ h => h) ?_)
                refine WK_blk ?_
                refine WK_region ?_
                refine WO_pure tbok 2 [(3, .pointer (some ⟨b3, 0, none⟩)), (4, .pointer (some ⟨b4, 0, none⟩)), (5, .int .i64 0), (7, .slice a11 ((y_6).length) c12), (30, .slice a_p0 p0.length c_p0), (31, .int .i64 (p0.length : Int)), (32, .int .i64 (w64 (s_8 + 1)))] rfl ⟨rfl, rfl, rfl, rfl, rfl, rfl, rfl, trivial⟩ ?_
                refine WO_end ?_
                cases hm23
                refine WK.sub ?_ (WK.cls (fun _ h => St.take 3 h) (hn26 _ L50 rfl hL50))
                exact ⟨rfl, rfl, rfl, rfl, rfl, rfl, rfl, trivial⟩
              · refine WK_cond (b := s_19) rfl (fun hb53 => ?_) (fun hb53 => ?_)
                · have hx51 := ifT hb53 hx51
                  refine WK_seq ?_
                  refine WK_region ?_
                  refine WO_pure tbok 2 [(3, .pointer (some ⟨b3, 0, none⟩)), (4, .pointer (some ⟨b4, 0, none⟩)), (5, .int .i64 0), (7, .slice a11 ((y_6).length) c12), (9, .pointer (some ⟨b44, 0, none⟩)), (10, .int .i64 y_17), (30, .slice a_p0 p0.length c_p0), (31, .int .i64 (p0.length : Int)), (32, .int .i64 s_8), (60, .int .i64 y_18), (61, .pointer (some ⟨b3, 3, none⟩))] rfl ⟨rfl, rfl, rfl, rfl, rfl, rfl, rfl, rfl, rfl, rfl, rfl, trivial⟩ ?_
                  refine WO_loadB tbok 0 rfl rfl rfl rfl (fun _ h => h) rfl rfl ?_
                  refine WO_pure tbok 4 [(3, .pointer (some ⟨b3, 0, none⟩)), (4, .pointer (some ⟨b4, 0, none⟩)), (5, .int .i64 0), (7, .slice a11 ((y_6).length) c12), (9, .pointer (some ⟨b44, 0, none⟩)), (12, .int .i64 (w64 ((w64 (y_18 * p1_3)) + y_17))), (30, .slice a_p0 p0.length c_p0), (31, .int .i64 (p0.length : Int)), (32, .int .i64 s_8)] rfl ⟨rfl, rfl, rfl, rfl, rfl, rfl, rfl, rfl, rfl, trivial⟩ ?_
                  refine WO_end ?_
                  refine WK_draw 10 [0, 1, 2, 3, 4, 5, 6, 7, 8, 9] follows_ok (by kernel_rfl) St_closed ?_
                  refine WO_pure tbok 4 [(3, .pointer (some ⟨b3, 0, none⟩)), (4, .pointer (some ⟨b4, 0, none⟩)), (5, .int .i64 0), (7, .slice a11 ((y_6).length) c12), (9, .pointer (some ⟨b44, 0, none⟩)), (30, .slice a_p0 p0.length c_p0), (31, .int .i64 (p0.length : Int)), (32, .int .i64 s_8), (66, .slice a11 ((y_6).length) c12), (67, .int .i64 (w64 ((w64 (y_18 * p1_3)) + y_17))), (68, .slice a11 ((y_6).length) c12), (69, .int .i64 (w64 ((w64 (y_18 * p1_3)) + y_17)))] rfl ⟨rfl, rfl, rfl, rfl, rfl, rfl, rfl, rfl, rfl, rfl, rfl, rfl, trivial⟩ ?_
                  obtain ⟨v_21, hy54, hx51⟩ := bind_some hx51
                  obtain ⟨hc55, hy54⟩ := ix_some hy54
                  refine WO_index tbok rfl rfl rfl rfl rfl rfl rfl rfl (OwnE.addr hL17) (by simpa using hc55) ?_
                  refine WO_loadO (E := (I1 .i64)) tbok (fun _ => rfl) 2 rfl rfl rfl rfl (fun _ h => h) hL17 rfl hy54 rfl ?_
                  refine WO_pure tbok 1 [(3, .pointer (some ⟨b3, 0, none⟩)), (4, .pointer (some ⟨b4, 0, none⟩)), (5, .int .i64 0), (7, .slice a11 ((y_6).length) c12), (30, .slice a_p0 p0.length c_p0), (31, .int .i64 (p0.length : Int)), (32, .int .i64 s_8), (66, .slice a11 ((y_6).length) c12), (67, .int .i64 (w64 ((w64 (y_18 * p1_3)) + y_17))), (71, .int .i64 v_21), (72, .pointer (some ⟨b44, 2, none⟩))] rfl ⟨rfl, rfl, rfl, rfl, rfl, rfl, rfl, rfl, rfl, rfl, rfl, trivial⟩ ?_
                  refine WO_loadB tbok 3 rfl rfl rfl rfl (fun _ h => h) rfl rfl ?_
                  refine WO_pure tbok 1 [(3, .pointer (some ⟨b3, 0, none⟩)), (4, .pointer (some ⟨b4, 0, none⟩)), (5, .int .i64 0), (7, .slice a11 ((y_6).length) c12), (30, .slice a_p0 p0.length c_p0), (31, .int .i64 (p0.length : Int)), (32, .int .i64 s_8), (66, .slice a11 ((y_6).length) c12), (67, .int .i64 (w64 ((w64 (y_18 * p1_3)) + y_17))), (74, .int .i64 (if v_21 < v_16.2.2 then v_16.2.2 else v_21))] rfl ⟨rfl, rfl, rfl, rfl, rfl, rfl, rfl, rfl, rfl, rfl, trivial⟩ ?_
                  obtain ⟨hc56, hx51⟩ := chk_some hx51
                  refine WO_index tbok rfl rfl rfl rfl rfl rfl rfl rfl (OwnE.addr hL17) (by simpa using hc56) ?_
                  refine WO_tail ?_
                  refine WO_storeO (E := (I1 .i64)) tbok (fun _ => rfl) 2 (if v_21 < v_16.2.2 then v_16.2.2 else v_21) rfl rfl rfl rfl rfl hL17 rfl (by simpa using idx_lt hc56) rfl rfl rfl rfl (fun L57 hL57 => ?_)
                  refine WO.cls (C' := St w0 m m [[⟨b3, 25, [.int .i64 p1_0, .int .i64 p1_1, .int .i64 p1_2, .int .i64 p1_3, .int .i64 p1_4, .slice a_p1_5 p1_5.length c_p1_5]⟩], [⟨b4, 25, [.int .i64 0, .int .i64 0, .int .i64 0, .int .i64 0, .int .i64 0, .slice none 0 0]⟩], L57, [⟨b44, 60, [.int .i64 v_16.1, .int .i64 v_16.2.1, .int .i64 v_16.2.2]⟩]]) (fun _ h => h) ?_
                  refine WO_end ?_
                  cases hx51
                  refine WK.sub ?_ (WK.cls (fun _ h => h) (hk52 L57 hL57))
                  exact ⟨rfl, rfl, rfl, rfl, rfl, rfl, rfl, trivial⟩
                · have hx51 := ifF hb53 hx51
                  refine WK_skip ?_
                  cases hx51
                  refine WK.sub ?_ (WK.cls (fun _ h => h) (hk52 L17 hL17))
                  exact ⟨rfl, rfl, rfl, rfl, rfl, rfl, rfl, trivial⟩
            · refine WK_region ?_
              refine WO_pure tbok 3 [(3, .pointer (some ⟨b3, 0, none⟩)), (4, .pointer (some ⟨b4, 0, none⟩)), (5, .int .i64 0), (7, .slice a11 ((y_6).length) c12), (9, .pointer (some ⟨b44, 0, none⟩)), (10, .int .i64 y_17), (11, .int .i64 y_18), (30, .slice a_p0 p0.length c_p0), (31, .int .i64 (p0.length : Int)), (32, .int .i64 s_8), (56, .bool (decide (0 ≤ y_17)))] rfl ⟨rfl, rfl, rfl, rfl, rfl, rfl, rfl, rfl, rfl, rfl, rfl, trivial⟩ ?_
              refine WO_split (d := 56) (b := decide (0 ≤ y_17)) rfl (fun hb59 => ?_) (fun hb59 => ?_)
              · have hx47 := ifT hb59 hx47
                refine WO_pure tbok 3 [(3, .pointer (some ⟨b3, 0, none⟩)), (4, .pointer (some ⟨b4, 0, none⟩)), (5, .int .i64 0), (7, .slice a11 ((y_6).length) c12), (9, .pointer (some ⟨b44, 0, none⟩)), (10, .int .i64 y_17), (11, .int .i64 y_18), (30, .slice a_p0 p0.length c_p0), (31, .int .i64 (p0.length : Int)), (32, .int .i64 s_8), (59, .bool (decide (0 ≤ y_18)))] rfl ⟨rfl, rfl, rfl, rfl, rfl, rfl, rfl, rfl, rfl, rfl, rfl, trivial⟩ ?_
                refine WO_end ?_
                cases hx47
                refine WK.sub ?_ (WK.cls (fun _ h => h) hk48)
                exact ⟨rfl, rfl, rfl, rfl, rfl, rfl, rfl, rfl, rfl, rfl, rfl, trivial⟩
              · have hx47 := ifF hb59 hx47
                refine WO_pure tbok 3 [(3, .pointer (some ⟨b3, 0, none⟩)), (4, .pointer (some ⟨b4, 0, none⟩)), (5, .int .i64 0), (7, .slice a11 ((y_6).length) c12), (9, .pointer (some ⟨b44, 0, none⟩)), (10, .int .i64 y_17), (11, .int .i64 y_18), (30, .slice a_p0 p0.length c_p0), (31, .int .i64 (p0.length : Int)), (32, .int .i64 s_8), (59, .bool false)] rfl ⟨rfl, rfl, rfl, rfl, rfl, rfl, rfl, rfl, rfl, rfl, rfl, trivial⟩ ?_
                refine WO_end ?_
                cases hx47
                refine WK.sub ?_ (WK.cls (fun _ h => h) hk48)
                exact ⟨rfl, rfl, rfl, rfl, rfl, rfl, rfl, rfl, rfl, rfl, rfl, trivial⟩
          · have hm23 := ifF hb41 hm23
            refine WK_exit rfl ?_
            cases hm23
            refine WK.sub ?_ (WK.cls (fun _ h => h) (hk22 (l_7, L17) ⟨(hd27 _ rfl), hL17⟩))
            exact ⟨rfl, rfl, rfl, rfl, trivial⟩
end Go.Proofs.Ytcaeieofjchpjaa
