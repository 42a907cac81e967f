import Derived.Test.YtcaeieofjchpjaaTab
import Derived.Test.YtcaeieofjchpjaaM
import Derived.Test.YtcaeieofjchpjaaW1
set_option linter.unusedVariables false
set_option maxRecDepth 100000
set_option maxHeartbeats 4000000
namespace Go.Proofs.Ytcaeieofjchpjaa
open Go.E Go.RowKit
attribute [local irreducible] Go.E.WO Go.E.WK
def terrain_Ground_Q (r : List Bool × Int) : Value → List Ent → Prop := fun v L => ∃ (a0 : Option Addr) (q0 c0 : Nat), v = .tuple #[.slice a0 q0 c0, .int .i64 r.2] ∧ OwnE 4 1 B1 (.slice a0 q0 c0) r.1 L
theorem terrain_Ground_walk {m : Mu} {p0_0 : Int} {p0_1 : Int} {p0_2 : Int} {p0_3 : Int} {p0_4 : Int} {p0_5 : List Int} {p1 : List Int} {p2 : List Int} {a_p0_5 : Option Addr} {q_p0_5 c_p0_5 : Nat} {a_p1 : Option Addr} {q_p1 c_p1 : Nat} {a_p2 : Option Addr} {q_p2 c_p2 : Nat} (h_p0_5 : SlR (FE (I1 .i64)) 1 m (.slice a_p0_5 q_p0_5 c_p0_5) p0_5) (h_p1 : SlR (FE (I1 .i64)) 1 m (.slice a_p1 q_p1 c_p1) p1) (h_p2 : SlR (FE (I1 .i64)) 1 m (.slice a_p2 q_p2 c_p2) p2) {r : List Bool × Int} (hm : terrain_Ground p0_0 p0_1 p0_2 p0_3 p0_4 p0_5 p1 p2 = some r) :
    Go.E.Spec Try.prog 18 [.agg #[.int .i64 p0_0, .int .i64 p0_1, .int .i64 p0_2, .int .i64 p0_3, .int .i64 p0_4, .slice a_p0_5 q_p0_5 c_p0_5], .slice a_p1 q_p1 c_p1, .slice a_p2 q_p2 c_p2] m (fun v _ L => terrain_Ground_Q r v L) := by
  refine Spec_enter Try.func18 rfl rfl rfl (fun w0 => ?_)
  refine WK.sub (e' := [(0, .agg #[.int .i64 p0_0, .int .i64 p0_1, .int .i64 p0_2, .int .i64 p0_3, .int .i64 p0_4, .slice a_p0_5 q_p0_5 c_p0_5]), (1, .slice a_p1 q_p1 c_p1), (2, .slice a_p2 q_p2 c_p2)]) ⟨rfl, rfl, rfl, trivial⟩ ?_
  obtain rfl := SlR.qlen h_p0_5
  obtain rfl := SlR.qlen h_p1
  obtain rfl := SlR.qlen h_p2
  refine WK.sub (e' := [(0, .agg #[.int .i64 p0_0, .int .i64 p0_1, .int .i64 p0_2, .int .i64 p0_3, .int .i64 p0_4, .slice a_p0_5 p0_5.length c_p0_5]), (1, .slice a_p1 p1.length c_p1), (2, .slice a_p2 p2.length c_p2)]) ⟨rfl, rfl, rfl, trivial⟩ ?_
  unfold terrain_Ground at hm
  refine WK_seq ?_
  refine WK_region ?_
  refine WO_box [.int .i64 p0_0, .int .i64 p0_1, .int .i64 p0_2, .int .i64 p0_3, .int .i64 p0_4, .slice a_p0_5 p0_5.length c_p0_5] rfl rfl trivial rfl rfl rfl (fun b1 => ?_)
  refine WO.cls (C' := St w0 m m [[⟨b1, 25, [.int .i64 p0_0, .int .i64 p0_1, .int .i64 p0_2, .int .i64 p0_3, .int .i64 p0_4, .slice a_p0_5 p0_5.length c_p0_5]⟩]]) (fun _ h => h) ?_
  refine WO_pure tbok 2 [(1, .slice a_p1 p1.length c_p1), (2, .slice a_p2 p2.length c_p2), (3, .pointer (some ⟨b1, 0, none⟩)), (6, .slice none 0 0), (7, .int .i64 0)] rfl ⟨rfl, rfl, rfl, rfl, rfl, trivial⟩ ?_
  refine WO_end ?_
  refine WK_seq ?_
  refine WK_seq ?_
  refine WK_region ?_
  refine WO_loadB tbok 0 rfl rfl rfl rfl (fun _ h => h) rfl rfl ?_
  obtain ⟨y_1, hc2, hm⟩ := bind_some hm
  refine WO_call0 (.int .i64 y_1) rfl rfl trivial rfl rfl rfl rfl St_closed ⟨16, #[], #[], rfl, callable_16, fun w hw => ⟨_, hw.sat, terrain_Check_walk h_p0_5 hc2⟩⟩ ?_
  refine WO_pure tbok 1 [(1, .slice a_p1 p1.length c_p1), (2, .slice a_p2 p2.length c_p2), (3, .pointer (some ⟨b1, 0, none⟩)), (6, .slice none 0 0), (7, .int .i64 0), (8, .int .i64 y_1)] rfl ⟨rfl, rfl, rfl, rfl, rfl, rfl, trivial⟩ ?_
  refine WO_end ?_
  refine WK_seq ?_
  refine WK_region ?_
  refine WO_pure tbok 2 [(1, .slice a_p1 p1.length c_p1), (2, .slice a_p2 p2.length c_p2), (3, .pointer (some ⟨b1, 0, none⟩)), (6, .slice none 0 0), (7, .int .i64 0), (8, .int .i64 y_1), (23, .bool (y_1 != 0))] rfl ⟨rfl, rfl, rfl, rfl, rfl, rfl, rfl, trivial⟩ ?_
  refine WO_end ?_
  refine WK_cond (b := y_1 != 0) rfl (fun hb3 => ?_) (fun hb3 => ?_)
  · have hm := ifT hb3 hm
    refine WK_seq ?_
    refine WK_region ?_
    refine WO_pure tbok 3 [(1, .slice a_p1 p1.length c_p1), (2, .slice a_p2 p2.length c_p2), (3, .pointer (some ⟨b1, 0, none⟩)), (6, .slice none 0 0), (7, .int .i64 y_1)] rfl ⟨rfl, rfl, rfl, rfl, rfl, trivial⟩ ?_
    refine WO_end ?_
    cases hm
    exact WK_ret (ret_out (L := []) (RLc_tmp rfl (RLc_tmp rfl RLc_nil)) (List.nil_sublist _) ⟨none, 0, 0, rfl, (OwnE.nil none)⟩)
  · have hm := ifF hb3 hm
    refine WK_skip ?_
    refine WK_seq ?_
    refine WK_seq ?_
    refine WK_region ?_
    refine WO_pure tbok 5 [(1, .slice a_p1 p1.length c_p1), (2, .slice a_p2 p2.length c_p2), (3, .pointer (some ⟨b1, 0, none⟩)), (6, .slice none 0 0), (7, .int .i64 0), (29, .bool ((p1.length : Int) != (p2.length : Int)))] rfl ⟨rfl, rfl, rfl, rfl, rfl, rfl, trivial⟩ ?_
    refine WO_end ?_
    refine WK_cond (b := (p1.length : Int) != (p2.length : Int)) rfl (fun hb4 => ?_) (fun hb4 => ?_)
    · have hm := ifT hb4 hm
      refine WK_seq ?_
      refine WK_region ?_
      refine WO_pure tbok 2 [(1, .slice a_p1 p1.length c_p1), (2, .slice a_p2 p2.length c_p2), (3, .pointer (some ⟨b1, 0, none⟩)), (6, .slice none 0 0), (7, .int .i64 4)] rfl ⟨rfl, rfl, rfl, rfl, rfl, trivial⟩ ?_
      refine WO_end ?_
      cases hm
      exact WK_ret (ret_out (L := []) (RLc_tmp rfl (RLc_tmp rfl RLc_nil)) (List.nil_sublist _) ⟨none, 0, 0, rfl, (OwnE.nil none)⟩)
    · have hm := ifF hb4 hm
      refine WK_skip ?_
      refine WK_seq ?_
      refine WK_seq ?_
      obtain ⟨s_2, hx5, hm⟩ := bind_some hm
      refine WK_meet [(1, .slice a_p1 p1.length c_p1), (2, .slice a_p2 p2.length c_p2), (3, .pointer (some ⟨b1, 0, none⟩)), (6, .slice none 0 0), (7, .int .i64 0), (37, .bool s_2)] (St w0 m m [[⟨b1, 25, [.int .i64 p0_0, .int .i64 p0_1, .int .i64 p0_2, .int .i64 p0_3, .int .i64 p0_4, .slice a_p0_5 p0_5.length c_p0_5]⟩]]) ?_ (fun hk6 => ?_)
      · refine WK_cond (b := s_2) rfl (fun hb7 => ?_) (fun hb7 => ?_)
        · have hm := ifT hb7 hm
          refine WK_seq ?_
          refine WK_region ?_
          refine WO_pure tbok 2 [(1, .slice a_p1 p1.length c_p1), (2, .slice a_p2 p2.length c_p2), (3, .pointer (some ⟨b1, 0, none⟩)), (6, .slice none 0 0), (7, .int .i64 2)] rfl ⟨rfl, rfl, rfl, rfl, rfl, trivial⟩ ?_
          refine WO_end ?_
          cases hm
          exact WK_ret (ret_out (L := []) (RLc_tmp rfl (RLc_tmp rfl RLc_nil)) (List.nil_sublist _) ⟨none, 0, 0, rfl, (OwnE.nil none)⟩)
        · have hm := ifF hb7 hm
          refine WK_skip ?_
          refine WK_seq ?_
          refine WK_seq ?_
          refine WK_region ?_
          refine WO_pure tbok 3 [(1, .slice a_p1 p1.length c_p1), (2, .slice a_p2 p2.length c_p2), (3, .pointer (some ⟨b1, 0, none⟩)), (6, .slice none 0 0), (7, .int .i64 0), (38, .slice a_p1 p1.length c_p1), (39, .int .i64 (p1.length : Int)), (40, .int .i64 0)] rfl ⟨rfl, rfl, rfl, rfl, rfl, rfl, rfl, rfl, trivial⟩ ?_
          refine WO_end ?_
          obtain ⟨x8, hx9, hm⟩ := bind_some hm
          refine WK_join (β := Unit × Unit) (fun p => Sum.inr p.1 = x8) (fun p => [(1, .slice a_p1 p1.length c_p1), (2, .slice a_p2 p2.length c_p2), (3, .pointer (some ⟨b1, 0, none⟩)), (6, .slice none 0 0), (7, .int .i64 0)]) (fun p => St w0 m m [[⟨b1, 25, [.int .i64 p0_0, .int .i64 p0_1, .int .i64 p0_2, .int .i64 p0_3, .int .i64 p0_4, .slice a_p0_5 p0_5.length c_p0_5]⟩]]) ?_ (fun hk10 => ?_)
          · rintro ⟨⟨⟩, ⟨⟩⟩ hq16
            subst hq16
            refine WK.sub (e' := [(1, .slice a_p1 p1.length c_p1), (2, .slice a_p2 p2.length c_p2), (3, .pointer (some ⟨b1, 0, none⟩)), (6, .slice none 0 0), (7, .int .i64 0)]) ⟨rfl, rfl, rfl, rfl, rfl, trivial⟩ (WK.cls (C' := St w0 m m [[⟨b1, 25, [.int .i64 p0_0, .int .i64 p0_1, .int .i64 p0_2, .int .i64 p0_3, .int .i64 p0_4, .slice a_p0_5 p0_5.length c_p0_5]⟩]]) (fun _ h => h) ?_)
            refine WK_seq ?_
            refine WK_seq ?_
            refine WK_region ?_
            refine WO_pure tbok 1 [(1, .slice a_p1 p1.length c_p1), (2, .slice a_p2 p2.length c_p2), (3, .pointer (some ⟨b1, 0, none⟩)), (6, .slice none 0 0), (7, .int .i64 0), (11, .int .i64 1)] rfl ⟨rfl, rfl, rfl, rfl, rfl, rfl, trivial⟩ ?_
            refine WO_end ?_
            obtain ⟨x17, hx18, hm⟩ := bind_some hm
            refine WK_join (β := Unit × Unit) (fun p => Sum.inr p.1 = x17) (fun p => [(1, .slice a_p1 p1.length c_p1), (2, .slice a_p2 p2.length c_p2), (3, .pointer (some ⟨b1, 0, none⟩)), (6, .slice none 0 0), (7, .int .i64 0)]) (fun p => St w0 m m [[⟨b1, 25, [.int .i64 p0_0, .int .i64 p0_1, .int .i64 p0_2, .int .i64 p0_3, .int .i64 p0_4, .slice a_p0_5 p0_5.length c_p0_5]⟩]]) ?_ (fun hk19 => ?_)
            · rintro ⟨⟨⟩, ⟨⟩⟩ hq25
              subst hq25
              refine WK.sub (e' := [(1, .slice a_p1 p1.length c_p1), (2, .slice a_p2 p2.length c_p2), (3, .pointer (some ⟨b1, 0, none⟩)), (6, .slice none 0 0), (7, .int .i64 0)]) ⟨rfl, rfl, rfl, rfl, rfl, trivial⟩ (WK.cls (C' := St w0 m m [[⟨b1, 25, [.int .i64 p0_0, .int .i64 p0_1, .int .i64 p0_2, .int .i64 p0_3, .int .i64 p0_4, .slice a_p0_5 p0_5.length c_p0_5]⟩]]) (fun _ h => h) ?_)
              refine WK_seq ?_
              refine WK_region ?_
              refine WO_pure tbok 1 [(1, .slice a_p1 p1.length c_p1), (2, .slice a_p2 p2.length c_p2), (3, .pointer (some ⟨b1, 0, none⟩)), (6, .slice none 0 0), (7, .int .i64 0), (82, .pointer (some ⟨b1, 5, none⟩))] rfl ⟨rfl, rfl, rfl, rfl, rfl, rfl, trivial⟩ ?_
              refine WO_loadB tbok 0 rfl rfl rfl rfl (fun _ h => h) rfl rfl ?_
              refine WO_pure tbok 1 [(1, .slice a_p1 p1.length c_p1), (2, .slice a_p2 p2.length c_p2), (3, .pointer (some ⟨b1, 0, none⟩)), (6, .slice none 0 0), (7, .int .i64 0), (84, .int .i64 (p0_5.length : Int))] rfl ⟨rfl, rfl, rfl, rfl, rfl, rfl, trivial⟩ ?_
              obtain ⟨hc26, hm⟩ := chk_some hm
              refine WO_make (E := B1) tbok (fun _ => rfl) (by decide) false rfl rfl trivial rfl rfl rfl rfl rfl rfl rfl rfl rfl (mk_ok (by decide) hc26) (fun b27 c28 L29 hL29 => ?_)
              refine WO.cls (C' := St w0 m m [[⟨b1, 25, [.int .i64 p0_0, .int .i64 p0_1, .int .i64 p0_2, .int .i64 p0_3, .int .i64 p0_4, .slice a_p0_5 p0_5.length c_p0_5]⟩], L29]) (fun _ h => h) ?_
              refine WO_pure tbok 1 [(1, .slice a_p1 p1.length c_p1), (2, .slice a_p2 p2.length c_p2), (3, .pointer (some ⟨b1, 0, none⟩)), (6, .slice none 0 0), (7, .int .i64 0), (12, .slice (some ⟨b27, 0, none⟩) ((List.replicate (p0_5.length : Int).toNat false).length) c28)] rfl ⟨rfl, rfl, rfl, rfl, rfl, rfl, trivial⟩ ?_
              refine WO_end ?_
              refine WK_seq ?_
              refine WK_seq ?_
              refine WK_region ?_
              refine WO_pure tbok 1 [(1, .slice a_p1 p1.length c_p1), (2, .slice a_p2 p2.length c_p2), (3, .pointer (some ⟨b1, 0, none⟩)), (6, .slice none 0 0), (7, .int .i64 0), (12, .slice (some ⟨b27, 0, none⟩) ((List.replicate (p0_5.length : Int).toNat false).length) c28), (86, .pointer (some ⟨b1, 5, none⟩))] rfl ⟨rfl, rfl, rfl, rfl, rfl, rfl, rfl, trivial⟩ ?_
              refine WO_loadB tbok 0 rfl rfl rfl rfl (fun _ h => h) rfl rfl ?_
              refine WO_pure tbok 2 [(1, .slice a_p1 p1.length c_p1), (2, .slice a_p2 p2.length c_p2), (3, .pointer (some ⟨b1, 0, none⟩)), (6, .slice none 0 0), (7, .int .i64 0), (12, .slice (some ⟨b27, 0, none⟩) ((List.replicate (p0_5.length : Int).toNat false).length) c28), (87, .slice a_p0_5 p0_5.length c_p0_5), (88, .int .i64 (p0_5.length : Int)), (89, .int .i64 0)] rfl ⟨rfl, rfl, rfl, rfl, rfl, rfl, rfl, rfl, rfl, trivial⟩ ?_
              refine WO_end ?_
              obtain ⟨x32, hx33, hm⟩ := bind_some hm
              refine WK_join (β := (List Bool) × (List Ent)) (fun p => p.1 = x32 ∧ OwnE 4 1 B1 (.slice (some ⟨b27, 0, none⟩) ((List.replicate (p0_5.length : Int).toNat false).length) c28) p.1 p.2) (fun p => [(1, .slice a_p1 p1.length c_p1), (2, .slice a_p2 p2.length c_p2), (3, .pointer (some ⟨b1, 0, none⟩)), (6, .slice none 0 0), (7, .int .i64 0), (12, .slice (some ⟨b27, 0, none⟩) ((List.replicate (p0_5.length : Int).toNat false).length) c28)]) (fun p => St w0 m m [[⟨b1, 25, [.int .i64 p0_0, .int .i64 p0_1, .int .i64 p0_2, .int .i64 p0_3, .int .i64 p0_4, .slice a_p0_5 p0_5.length c_p0_5]⟩], p.2]) ?_ (fun hk34 => ?_)
              · rintro ⟨l_7, L31⟩ ⟨hq40, hL31⟩
                subst hq40
                refine WK.sub (e' := [(1, .slice a_p1 p1.length c_p1), (2, .slice a_p2 p2.length c_p2), (3, .pointer (some ⟨b1, 0, none⟩)), (6, .slice none 0 0), (7, .int .i64 0), (12, .slice (some ⟨b27, 0, none⟩) ((List.replicate (p0_5.length : Int).toNat false).length) c28)]) ⟨rfl, rfl, rfl, rfl, rfl, rfl, trivial⟩ (WK.cls (C' := St w0 m m [[⟨b1, 25, [.int .i64 p0_0, .int .i64 p0_1, .int .i64 p0_2, .int .i64 p0_3, .int .i64 p0_4, .slice a_p0_5 p0_5.length c_p0_5]⟩], L31]) (fun _ h => h) ?_)
                refine WK_seq ?_
                refine WK_seq ?_
                refine WK_region ?_
                refine WO_pure tbok 3 [(2, .slice a_p2 p2.length c_p2), (3, .pointer (some ⟨b1, 0, none⟩)), (6, .slice none 0 0), (7, .int .i64 0), (12, .slice (some ⟨b27, 0, none⟩) ((List.replicate (p0_5.length : Int).toNat false).length) c28), (100, .slice a_p1 p1.length c_p1), (101, .int .i64 (p1.length : Int)), (102, .int .i64 0)] rfl ⟨rfl, rfl, rfl, rfl, rfl, rfl, rfl, rfl, trivial⟩ ?_
                refine WO_end ?_
                obtain ⟨x55, hx56, hm⟩ := bind_some hm
                refine WK_join (β := (List Bool × Int × Int × Int × Int × Int × List Int) × (Mu × List Ent × Option Addr × Nat × Nat)) (fun p => p.1 = x55 ∧ Le m p.2.1 ∧ OwnE 4 1 B1 (.slice (some ⟨b27, 0, none⟩) ((List.replicate (p0_5.length : Int).toNat false).length) c28) p.1.1 p.2.2.1 ∧ SlR (FE (I1 .i64)) 1 p.2.1 (.slice p.2.2.2.1 p.2.2.2.2.1 p.2.2.2.2.2) p.1.2.2.2.2.2.2) (fun p => [(6, .slice none 0 0), (7, .int .i64 0), (12, .slice (some ⟨b27, 0, none⟩) ((List.replicate (p0_5.length : Int).toNat false).length) c28)]) (fun p => St w0 m p.2.1 [[⟨b1, 25, [.int .i64 p.1.2.1, .int .i64 p.1.2.2.1, .int .i64 p.1.2.2.2.1, .int .i64 p.1.2.2.2.2.1, .int .i64 p.1.2.2.2.2.2.1, .slice p.2.2.2.1 p.2.2.2.2.1 p.2.2.2.2.2]⟩], p.2.2.1]) ?_ (fun hk57 => ?_)
                · rintro ⟨⟨l_16, s_17, s_18, s_19, s_20, s_21, l_22⟩, ⟨m48, L50, a51, q52, c53⟩⟩ ⟨hq63, hle49, hL50, h54⟩
                  subst hq63
                  have hqq : q52 = l_22.length := SlR.qlen h54
                  subst hqq
                  refine WK.sub (e' := [(6, .slice none 0 0), (7, .int .i64 0), (12, .slice (some ⟨b27, 0, none⟩) ((List.replicate (p0_5.length : Int).toNat false).length) c28)]) ⟨rfl, rfl, rfl, trivial⟩ (WK.cls (C' := St w0 m m48 [[⟨b1, 25, [.int .i64 s_17, .int .i64 s_18, .int .i64 s_19, .int .i64 s_20, .int .i64 s_21, .slice a51 ((l_22).length) c53]⟩], L50]) (fun _ h => h) ?_)
                  refine WK_seq ?_
                  refine WK_region ?_
                  refine WO_pure tbok 3 [(6, .slice (some ⟨b27, 0, none⟩) ((List.replicate (p0_5.length : Int).toNat false).length) c28), (7, .int .i64 0)] rfl ⟨rfl, rfl, trivial⟩ ?_
                  refine WO_end ?_
                  cases hm
                  exact WK_ret (ret_out (L := L50) (RLc_tmp rfl (RLc_tmp rfl RLc_nil)) (seg_sub 1 rfl) ⟨(some ⟨b27, 0, none⟩), ((List.replicate (p0_5.length : Int).toNat false).length), c28, rfl, hL50⟩)
                · refine WK_block ?_
                  refine WK_loop (S := List Bool × Int × Int × Int × Int × Int × Int × List Int) (G := Mu × List Ent × Option Addr × Nat × Nat) (fun s => terrain_Ground_s4 p1 p2 s.1 s.2.1 s.2.2.1 s.2.2.2.1 s.2.2.2.2.1 s.2.2.2.2.2.1 s.2.2.2.2.2.2.1 s.2.2.2.2.2.2.2) (fun s g => [(2, .slice a_p2 p2.length c_p2), (3, .pointer (some ⟨b1, 0, none⟩)), (6, .slice none 0 0), (7, .int .i64 0), (12, .slice (some ⟨b27, 0, none⟩) ((List.replicate (p0_5.length : Int).toNat false).length) c28), (100, .slice a_p1 p1.length c_p1), (101, .int .i64 (p1.length : Int)), (102, .int .i64 s.2.1)]) (fun s g => St w0 m g.1 [[⟨b1, 25, [.int .i64 s.2.2.1, .int .i64 s.2.2.2.1, .int .i64 s.2.2.2.2.1, .int .i64 s.2.2.2.2.2.1, .int .i64 s.2.2.2.2.2.2.1, .slice g.2.2.1 g.2.2.2.1 g.2.2.2.2]⟩], g.2.1]) (fun s g => Le m g.1 ∧ OwnE 4 1 B1 (.slice (some ⟨b27, 0, none⟩) ((List.replicate (p0_5.length : Int).toNat false).length) c28) s.1 g.2.1 ∧ SlR (FE (I1 .i64)) 1 g.1 (.slice g.2.2.1 g.2.2.2.1 g.2.2.2.2) s.2.2.2.2.2.2.2) FUEL (l_7, 0, p0_0, p0_1, p0_2, p0_3, p0_4, p0_5) (m, L31, a_p0_5, p0_5.length, c_p0_5) x55 hx56 ⟨(Le.refl _), hL31, h_p0_5⟩ ⟨rfl, rfl, rfl, rfl, rfl, rfl, rfl, rfl, trivial⟩ (fun _ h => h) ?_
                  rintro ⟨l_8, s_9, s_10, s_11, s_12, s_13, s_14, l_15⟩ ⟨m41, L43, a44, q45, c46⟩ o59 fl60 hm58 ⟨hle42, hL43, h47⟩ hn61 hd62
                  have hm58 : terrain_Ground_s4 p1 p2 l_8 s_9 s_10 s_11 s_12 s_13 s_14 l_15 = some o59 := hm58
                  unfold terrain_Ground_s4 at hm58
                  have hqq : q45 = l_15.length := SlR.qlen h47
                  subst hqq
                  refine WK.sub (e' := [(2, .slice a_p2 p2.length c_p2), (3, .pointer (some ⟨b1, 0, none⟩)), (6, .slice none 0 0), (7, .int .i64 0), (12, .slice (some ⟨b27, 0, none⟩) ((List.replicate (p0_5.length : Int).toNat false).length) c28), (100, .slice a_p1 p1.length c_p1), (101, .int .i64 (p1.length : Int)), (102, .int .i64 s_9)]) ⟨rfl, rfl, rfl, rfl, rfl, rfl, rfl, rfl, trivial⟩ (WK.cls (C' := St w0 m m41 [[⟨b1, 25, [.int .i64 s_10, .int .i64 s_11, .int .i64 s_12, .int .i64 s_13, .int .i64 s_14, .slice a44 ((l_15).length) c46]⟩], L43]) (fun _ h => h) ?_)
                  refine WK_seq ?_
                  refine WK_region ?_
                  refine WO_pure tbok 1 [(2, .slice a_p2 p2.length c_p2), (3, .pointer (some ⟨b1, 0, none⟩)), (6, .slice none 0 0), (7, .int .i64 0), (12, .slice (some ⟨b27, 0, none⟩) ((List.replicate (p0_5.length : Int).toNat false).length) c28), (100, .slice a_p1 p1.length c_p1), (101, .int .i64 (p1.length : Int)), (102, .int .i64 s_9), (103, .bool (decide (s_9 < (p1.length : Int))))] rfl ⟨rfl, rfl, rfl, rfl, rfl, rfl, rfl, rfl, rfl, trivial⟩ ?_
                  refine WO_end ?_
                  refine WK_seq ?_
                  refine WK_cond (b := decide (s_9 < (p1.length : Int))) rfl (fun hb64 => ?_) (fun hb64 => ?_)
                  · have hm58 := ifT hb64 hm58
                    refine WK_skip ?_
                    refine WK_seq ?_
                    refine WK_block ?_
                    refine WK_seq ?_
                    refine WK_region ?_
                    refine WO_pure tbok 1 [(2, .slice a_p2 p2.length c_p2), (3, .pointer (some ⟨b1, 0, none⟩)), (6, .slice none 0 0), (7, .int .i64 0), (12, .slice (some ⟨b27, 0, none⟩) ((List.replicate (p0_5.length : Int).toNat false).length) c28), (100, .slice a_p1 p1.length c_p1), (101, .int .i64 (p1.length : Int)), (102, .int .i64 s_9), (104, .int .i64 s_9)] rfl ⟨rfl, rfl, rfl, rfl, rfl, rfl, rfl, rfl, rfl, trivial⟩ ?_
                    obtain ⟨v_23, hy65, hm58⟩ := bind_some hm58
                    obtain ⟨hc66, hy65⟩ := ix_some hy65
                    refine WO_index tbok rfl rfl rfl rfl rfl rfl rfl rfl (SlR.addr (h_p1.mono (mono_FE _) hle42)) hc66 ?_
                    refine WO_loadE tbok rfl rfl rfl rfl (fun _ h => St.sat h) (h_p1.mono (mono_FE _) hle42) hy65 rfl ?_
                    refine WO_pure tbok 2 [(2, .slice a_p2 p2.length c_p2), (3, .pointer (some ⟨b1, 0, none⟩)), (6, .slice none 0 0), (7, .int .i64 0), (12, .slice (some ⟨b27, 0, none⟩) ((List.replicate (p0_5.length : Int).toNat false).length) c28), (15, .int .i64 s_9), (16, .int .i64 v_23), (100, .slice a_p1 p1.length c_p1), (101, .int .i64 (p1.length : Int)), (102, .int .i64 s_9)] rfl ⟨rfl, rfl, rfl, rfl, rfl, rfl, rfl, rfl, rfl, rfl, trivial⟩ ?_
                    refine WO_end ?_
                    refine WK_seq ?_
                    refine WK_region ?_
                    refine WO_loadB tbok 0 rfl rfl rfl rfl (fun _ h => h) rfl rfl ?_
                    refine WO_pure tbok 1 [(2, .slice a_p2 p2.length c_p2), (3, .pointer (some ⟨b1, 0, none⟩)), (6, .slice none 0 0), (7, .int .i64 0), (12, .slice (some ⟨b27, 0, none⟩) ((List.replicate (p0_5.length : Int).toNat false).length) c28), (15, .int .i64 s_9), (100, .slice a_p1 p1.length c_p1), (101, .int .i64 (p1.length : Int)), (102, .int .i64 s_9), (107, .agg #[.int .i64 s_10, .int .i64 s_11, .int .i64 s_12, .int .i64 s_13, .int .i64 s_14, .slice a44 ((l_15).length) c46]), (108, .int .i64 v_23)] rfl ⟨rfl, rfl, rfl, rfl, rfl, rfl, rfl, rfl, rfl, rfl, rfl, trivial⟩ ?_
                    obtain ⟨⟨y_24, y_25, y_26, y_27, y_28, y_29⟩, hc67, hm58⟩ := bind_some hm58
                    refine WO_call2 (terrain_opened_Q (y_24, y_25, y_26, y_27, y_28, y_29)) rfl rfl trivial rfl rfl rfl rfl ⟨50, #[], #[], rfl, callable_50, terrain_opened_walk h47 hc67⟩ (fun v71 m72 L70 hle73 hq => ?_)
                    obtain ⟨a68, qa68, c69, rfl, h74⟩ := hq
                    obtain rfl := SlR.qlen h74
                    refine WO.cls (C' := St w0 m m72 [[⟨b1, 25, [.int .i64 s_10, .int .i64 s_11, .int .i64 s_12, .int .i64 s_13, .int .i64 s_14, .slice a44 ((l_15).length) c46]⟩], L43, L70]) (fun _ h => h.sub (by simp)) ?_
                    refine WO_alloc tbok [.int .i64 0, .int .i64 0, .int .i64 0, .int .i64 0, .int .i64 0, .slice none 0 0] rfl rfl trivial rfl rfl rfl rfl (fun b75 => ?_)
                    refine WO.cls (C' := St w0 m m72 [[⟨b1, 25, [.int .i64 s_10, .int .i64 s_11, .int .i64 s_12, .int .i64 s_13, .int .i64 s_14, .slice a44 ((l_15).length) c46]⟩], L43, L70, [⟨b75, 25, [.int .i64 0, .int .i64 0, .int .i64 0, .int .i64 0, .int .i64 0, .slice none 0 0]⟩]]) (fun _ h => h) ?_
                    refine WO_storeB tbok 3 [.int .i64 y_24, .int .i64 y_25, .int .i64 y_26, .int .i64 y_27, .int .i64 y_28, .slice a68 ((y_29).length) c69] rfl rfl rfl rfl rfl rfl rfl ?_
                    refine WO.cls (C' := St w0 m m72 [[⟨b1, 25, [.int .i64 s_10, .int .i64 s_11, .int .i64 s_12, .int .i64 s_13, .int .i64 s_14, .slice a44 ((l_15).length) c46]⟩], L43, L70, [⟨b75, 25, [.int .i64 y_24, .int .i64 y_25, .int .i64 y_26, .int .i64 y_27, .int .i64 y_28, .slice a68 ((y_29).length) c69]⟩]]) (fun _ h => h) ?_
                    refine WO_end ?_
                    refine WK_seq ?_
                    refine WK_seq ?_
                    refine WK_region ?_
                    refine WO_pure tbok 1 [(2, .slice a_p2 p2.length c_p2), (3, .pointer (some ⟨b1, 0, none⟩)), (6, .slice none 0 0), (7, .int .i64 0), (12, .slice (some ⟨b27, 0, none⟩) ((List.replicate (p0_5.length : Int).toNat false).length) c28), (15, .int .i64 s_9), (17, .pointer (some ⟨b75, 0, none⟩)), (100, .slice a_p1 p1.length c_p1), (101, .int .i64 (p1.length : Int)), (102, .int .i64 s_9), (110, .pointer (some ⟨b1, 5, none⟩))] rfl ⟨rfl, rfl, rfl, rfl, rfl, rfl, rfl, rfl, rfl, rfl, rfl, trivial⟩ ?_
                    refine WO_loadB tbok 0 rfl rfl rfl rfl (fun _ h => h) rfl rfl ?_
                    refine WO_pure tbok 2 [(2, .slice a_p2 p2.length c_p2), (3, .pointer (some ⟨b1, 0, none⟩)), (6, .slice none 0 0), (7, .int .i64 0), (12, .slice (some ⟨b27, 0, none⟩) ((List.replicate (p0_5.length : Int).toNat false).length) c28), (15, .int .i64 s_9), (17, .pointer (some ⟨b75, 0, none⟩)), (100, .slice a_p1 p1.length c_p1), (101, .int .i64 (p1.length : Int)), (102, .int .i64 s_9), (111, .slice a44 ((l_15).length) c46), (112, .int .i64 ((l_15).length : Int)), (113, .int .i64 0)] rfl ⟨rfl, rfl, rfl, rfl, rfl, rfl, rfl, rfl, rfl, rfl, rfl, rfl, rfl, trivial⟩ ?_
                    refine WO_end ?_
                    obtain ⟨x78, hx79, hm58⟩ := bind_some hm58
                    refine WK_join (β := (List Bool) × (List Ent)) (fun p => p.1 = x78 ∧ OwnE 4 1 B1 (.slice (some ⟨b27, 0, none⟩) ((List.replicate (p0_5.length : Int).toNat false).length) c28) p.1 p.2) (fun p => [(2, .slice a_p2 p2.length c_p2), (3, .pointer (some ⟨b1, 0, none⟩)), (6, .slice none 0 0), (7, .int .i64 0), (12, .slice (some ⟨b27, 0, none⟩) ((List.replicate (p0_5.length : Int).toNat false).length) c28), (17, .pointer (some ⟨b75, 0, none⟩)), (100, .slice a_p1 p1.length c_p1), (101, .int .i64 (p1.length : Int)), (102, .int .i64 s_9)]) (fun p => St w0 m m72 [[⟨b1, 25, [.int .i64 s_10, .int .i64 s_11, .int .i64 s_12, .int .i64 s_13, .int .i64 s_14, .slice a44 ((l_15).length) c46]⟩], p.2, L70, [⟨b75, 25, [.int .i64 y_24, .int .i64 y_25, .int .i64 y_26, .int .i64 y_27, .int .i64 y_28, .slice a68 ((y_29).length) c69]⟩]]) ?_ (fun hk80 => ?_)
                    · rintro ⟨l_32, L77⟩ ⟨hq86, hL77⟩
                      subst hq86
                      refine WK.sub (e' := [(2, .slice a_p2 p2.length c_p2), (3, .pointer (some ⟨b1, 0, none⟩)), (6, .slice none 0 0), (7, .int .i64 0), (12, .slice (some ⟨b27, 0, none⟩) ((List.replicate (p0_5.length : Int).toNat false).length) c28), (17, .pointer (some ⟨b75, 0, none⟩)), (100, .slice a_p1 p1.length c_p1), (101, .int .i64 (p1.length : Int)), (102, .int .i64 s_9)]) ⟨rfl, rfl, rfl, rfl, rfl, rfl, rfl, rfl, rfl, trivial⟩ (WK.cls (C' := St w0 m m72 [[⟨b1, 25, [.int .i64 s_10, .int .i64 s_11, .int .i64 s_12, .int .i64 s_13, .int .i64 s_14, .slice a44 ((l_15).length) c46]⟩], L77, L70, [⟨b75, 25, [.int .i64 y_24, .int .i64 y_25, .int .i64 y_26, .int .i64 y_27, .int .i64 y_28, .slice a68 ((y_29).length) c69]⟩]]) (fun _ h => h) ?_)
                      refine WK_region ?_
                      refine WO_loadB tbok 3 rfl rfl rfl rfl (fun _ h => h) rfl rfl ?_
                      refine WO_storeB tbok 0 [.int .i64 y_24, .int .i64 y_25, .int .i64 y_26, .int .i64 y_27, .int .i64 y_28, .slice a68 ((y_29).length) c69] rfl rfl rfl rfl rfl rfl rfl ?_
                      refine WO.cls (C' := St w0 m m72 [[⟨b1, 25, [.int .i64 y_24, .int .i64 y_25, .int .i64 y_26, .int .i64 y_27, .int .i64 y_28, .slice a68 ((y_29).length) c69]⟩], L77, L70, [⟨b75, 25, [.int .i64 y_24, .int .i64 y_25, .int .i64 y_26, .int .i64 y_27, .int .i64 y_28, .slice a68 ((y_29).length) c69]⟩]]) (fun _ h => h) ?_
                      refine WO_end ?_
                      refine WK_blk ?_
                      refine WK_region ?_
                      refine WO_pure tbok 2 [(2, .slice a_p2 p2.length c_p2), (3, .pointer (some ⟨b1, 0, none⟩)), (6, .slice none 0 0), (7, .int .i64 0), (12, .slice (some ⟨b27, 0, none⟩) ((List.replicate (p0_5.length : Int).toNat false).length) c28), (100, .slice a_p1 p1.length c_p1), (101, .int .i64 (p1.length : Int)), (102, .int .i64 (w64 (s_9 + 1)))] rfl ⟨rfl, rfl, rfl, rfl, rfl, rfl, rfl, rfl, trivial⟩ ?_
                      refine WO_end ?_
                      cases hm58
                      refine WK.sub ?_ (WK.cls (fun _ h => St.take 2 h) (hn61 _ (m72, L77, a68, _, c69) rfl ⟨(hle42.trans hle73), hL77, h74⟩))
                      exact ⟨rfl, rfl, rfl, rfl, rfl, rfl, rfl, rfl, trivial⟩
                    · refine WK_block ?_
                      refine WK_loop (S := List Bool × Int) (G := List Ent) (fun s => terrain_Ground_s5 p2 s_9 l_15 y_29 s.1 s.2) (fun s g => [(2, .slice a_p2 p2.length c_p2), (3, .pointer (some ⟨b1, 0, none⟩)), (6, .slice none 0 0), (7, .int .i64 0), (12, .slice (some ⟨b27, 0, none⟩) ((List.replicate (p0_5.length : Int).toNat false).length) c28), (15, .int .i64 s_9), (17, .pointer (some ⟨b75, 0, none⟩)), (100, .slice a_p1 p1.length c_p1), (101, .int .i64 (p1.length : Int)), (102, .int .i64 s_9), (111, .slice a44 ((l_15).length) c46), (112, .int .i64 ((l_15).length : Int)), (113, .int .i64 s.2)]) (fun s g => St w0 m m72 [[⟨b1, 25, [.int .i64 s_10, .int .i64 s_11, .int .i64 s_12, .int .i64 s_13, .int .i64 s_14, .slice a44 ((l_15).length) c46]⟩], g, L70, [⟨b75, 25, [.int .i64 y_24, .int .i64 y_25, .int .i64 y_26, .int .i64 y_27, .int .i64 y_28, .slice a68 ((y_29).length) c69]⟩]]) (fun s g => OwnE 4 1 B1 (.slice (some ⟨b27, 0, none⟩) ((List.replicate (p0_5.length : Int).toNat false).length) c28) s.1 g) FUEL (l_8, 0) L43 x78 hx79 hL43 ⟨rfl, rfl, rfl, rfl, rfl, rfl, rfl, rfl, rfl, rfl, rfl, rfl, rfl, trivial⟩ (fun _ h => h) ?_
                      rintro ⟨l_30, s_31⟩ L76 o82 fl83 hm81 hL76 hn84 hd85
                      have hm81 : terrain_Ground_s5 p2 s_9 l_15 y_29 l_30 s_31 = some o82 := hm81
                      unfold terrain_Ground_s5 at hm81
                      refine WK.sub (e' := [(2, .slice a_p2 p2.length c_p2), (3, .pointer (some ⟨b1, 0, none⟩)), (6, .slice none 0 0), (7, .int .i64 0), (12, .slice (some ⟨b27, 0, none⟩) ((List.replicate (p0_5.length : Int).toNat false).length) c28), (15, .int .i64 s_9), (17, .pointer (some ⟨b75, 0, none⟩)), (100, .slice a_p1 p1.length c_p1), (101, .int .i64 (p1.length : Int)), (102, .int .i64 s_9), (111, .slice a44 ((l_15).length) c46), (112, .int .i64 ((l_15).length : Int)), (113, .int .i64 s_31)]) ⟨rfl, rfl, rfl, rfl, rfl, rfl, rfl, rfl, rfl, rfl, rfl, rfl, rfl, trivial⟩ (WK.cls (C' := St w0 m m72 [[⟨b1, 25, [.int .i64 s_10, .int .i64 s_11, .int .i64 s_12, .int .i64 s_13, .int .i64 s_14, .slice a44 ((l_15).length) c46]⟩], L76, L70, [⟨b75, 25, [.int .i64 y_24, .int .i64 y_25, .int .i64 y_26, .int .i64 y_27, .int .i64 y_28, .slice a68 ((y_29).length) c69]⟩]]) (fun _ h => h) ?_)
                      refine WK_seq ?_
                      refine WK_region ?_
                      refine WO_pure tbok 1 [(2, .slice a_p2 p2.length c_p2), (3, .pointer (some ⟨b1, 0, none⟩)), (6, .slice none 0 0), (7, .int .i64 0), (12, .slice (some ⟨b27, 0, none⟩) ((List.replicate (p0_5.length : Int).toNat false).length) c28), (15, .int .i64 s_9), (17, .pointer (some ⟨b75, 0, none⟩)), (100, .slice a_p1 p1.length c_p1), (101, .int .i64 (p1.length : Int)), (102, .int .i64 s_9), (111, .slice a44 ((l_15).length) c46), (112, .int .i64 ((l_15).length : Int)), (113, .int .i64 s_31), (114, .bool (decide (s_31 < ((l_15).length : Int))))] rfl ⟨rfl, rfl, rfl, rfl, rfl, rfl, rfl, rfl, rfl, rfl, rfl, rfl, rfl, rfl, trivial⟩ ?_
                      refine WO_end ?_
                      refine WK_seq ?_
                      refine WK_cond (b := decide (s_31 < ((l_15).length : Int))) rfl (fun hb87 => ?_) (fun hb87 => ?_)
                      · have hm81 := ifT hb87 hm81
                        refine WK_skip ?_
                        refine WK_seq ?_
                        refine WK_block ?_
                        refine WK_seq ?_
                        refine WK_region ?_
                        refine WO_pure tbok 1 [(2, .slice a_p2 p2.length c_p2), (3, .pointer (some ⟨b1, 0, none⟩)), (6, .slice none 0 0), (7, .int .i64 0), (12, .slice (some ⟨b27, 0, none⟩) ((List.replicate (p0_5.length : Int).toNat false).length) c28), (15, .int .i64 s_9), (17, .pointer (some ⟨b75, 0, none⟩)), (100, .slice a_p1 p1.length c_p1), (101, .int .i64 (p1.length : Int)), (102, .int .i64 s_9), (111, .slice a44 ((l_15).length) c46), (112, .int .i64 ((l_15).length : Int)), (113, .int .i64 s_31), (115, .int .i64 s_31)] rfl ⟨rfl, rfl, rfl, rfl, rfl, rfl, rfl, rfl, rfl, rfl, rfl, rfl, rfl, rfl, trivial⟩ ?_
                        obtain ⟨v_33, hy88, hm81⟩ := bind_some hm81
                        obtain ⟨hc89, hy88⟩ := ix_some hy88
                        refine WO_index tbok rfl rfl rfl rfl rfl rfl rfl rfl (SlR.addr (h47.mono (mono_FE _) hle73)) hc89 ?_
                        refine WO_loadE tbok rfl rfl rfl rfl (fun _ h => St.sat h) (h47.mono (mono_FE _) hle73) hy88 rfl ?_
                        refine WO_pure tbok 2 [(2, .slice a_p2 p2.length c_p2), (3, .pointer (some ⟨b1, 0, none⟩)), (6, .slice none 0 0), (7, .int .i64 0), (12, .slice (some ⟨b27, 0, none⟩) ((List.replicate (p0_5.length : Int).toNat false).length) c28), (15, .int .i64 s_9), (17, .pointer (some ⟨b75, 0, none⟩)), (18, .int .i64 s_31), (19, .int .i64 v_33), (100, .slice a_p1 p1.length c_p1), (101, .int .i64 (p1.length : Int)), (102, .int .i64 s_9), (111, .slice a44 ((l_15).length) c46), (112, .int .i64 ((l_15).length : Int)), (113, .int .i64 s_31)] rfl ⟨rfl, rfl, rfl, rfl, rfl, rfl, rfl, rfl, rfl, rfl, rfl, rfl, rfl, rfl, rfl, trivial⟩ ?_
                        refine WO_end ?_
                        refine WK_seq ?_
                        obtain ⟨s_34, hx90, hm81⟩ := bind_some hm81
                        refine WK_meet [(2, .slice a_p2 p2.length c_p2), (3, .pointer (some ⟨b1, 0, none⟩)), (6, .slice none 0 0), (7, .int .i64 0), (12, .slice (some ⟨b27, 0, none⟩) ((List.replicate (p0_5.length : Int).toNat false).length) c28), (15, .int .i64 s_9), (17, .pointer (some ⟨b75, 0, none⟩)), (18, .int .i64 s_31), (100, .slice a_p1 p1.length c_p1), (101, .int .i64 (p1.length : Int)), (102, .int .i64 s_9), (111, .slice a44 ((l_15).length) c46), (112, .int .i64 ((l_15).length : Int)), (113, .int .i64 s_31), (133, .bool s_34)] (St w0 m m72 [[⟨b1, 25, [.int .i64 s_10, .int .i64 s_11, .int .i64 s_12, .int .i64 s_13, .int .i64 s_14, .slice a44 ((l_15).length) c46]⟩], L76, L70, [⟨b75, 25, [.int .i64 y_24, .int .i64 y_25, .int .i64 y_26, .int .i64 y_27, .int .i64 y_28, .slice a68 ((y_29).length) c69]⟩]]) ?_ (fun hk91 => ?_)
                        · obtain ⟨l_35, hx93, hm81⟩ := bind_some hm81
                          refine WK_join (β := List Ent) (fun p => OwnE 4 1 B1 (.slice (some ⟨b27, 0, none⟩) ((List.replicate (p0_5.length : Int).toNat false).length) c28) l_35 p) (fun p => [(2, .slice a_p2 p2.length c_p2), (3, .pointer (some ⟨b1, 0, none⟩)), (6, .slice none 0 0), (7, .int .i64 0), (12, .slice (some ⟨b27, 0, none⟩) ((List.replicate (p0_5.length : Int).toNat false).length) c28), (15, .int .i64 s_9), (17, .pointer (some ⟨b75, 0, none⟩)), (100, .slice a_p1 p1.length c_p1), (101, .int .i64 (p1.length : Int)), (102, .int .i64 s_9), (111, .slice a44 ((l_15).length) c46), (112, .int .i64 ((l_15).length : Int)), (113, .int .i64 s_31)]) (fun p => St w0 m m72 [[⟨b1, 25, [.int .i64 s_10, .int .i64 s_11, .int .i64 s_12, .int .i64 s_13, .int .i64 s_14, .slice a44 ((l_15).length) c46]⟩], p, L70, [⟨b75, 25, [.int .i64 y_24, .int .i64 y_25, .int .i64 y_26, .int .i64 y_27, .int .i64 y_28, .slice a68 ((y_29).length) c69]⟩]]) ?_ (fun hk94 => ?_)
                          · rintro L92 hL92
                            refine WK.sub (e' := [(2, .slice a_p2 p2.length c_p2), (3, .pointer (some ⟨b1, 0, none⟩)), (6, .slice none 0 0), (7, .int .i64 0), (12, .slice (some ⟨b27, 0, none⟩) ((List.replicate (p0_5.length : Int).toNat false).length) c28), (15, .int .i64 s_9), (17, .pointer (some ⟨b75, 0, none⟩)), (100, .slice a_p1 p1.length c_p1), (101, .int .i64 (p1.length : Int)), (102, .int .i64 s_9), (111, .slice a44 ((l_15).length) c46), (112, .int .i64 ((l_15).length : Int)), (113, .int .i64 s_31)]) ⟨rfl, rfl, rfl, rfl, rfl, rfl, rfl, rfl, rfl, rfl, rfl, rfl, rfl, trivial⟩ (WK.cls (C' := St w0 m m72 [[⟨b1, 25, [.int .i64 s_10, .int .i64 s_11, .int .i64 s_12, .int .i64 s_13, .int .i64 s_14, .slice a44 ((l_15).length) c46]⟩], L92, L70, [⟨b75, 25, [.int .i64 y_24, .int .i64 y_25, .int .i64 y_26, .int .i64 y_27, .int .i64 y_28, .slice a68 ((y_29).length) c69]⟩]]) (fun _ h => h) ?_)
                            refine WK_blk ?_
                            refine WK_region ?_
                            refine WO_pure tbok 2 [(2, .slice a_p2 p2.length c_p2), (3, .pointer (some ⟨b1, 0, none⟩)), (6, .slice none 0 0), (7, .int .i64 0), (12, .slice (some ⟨b27, 0, none⟩) ((List.replicate (p0_5.length : Int).toNat false).length) c28), (15, .int .i64 s_9), (17, .pointer (some ⟨b75, 0, none⟩)), (100, .slice a_p1 p1.length c_p1), (101, .int .i64 (p1.length : Int)), (102, .int .i64 s_9), (111, .slice a44 ((l_15).length) c46), (112, .int .i64 ((l_15).length : Int)), (113, .int .i64 (w64 (s_31 + 1)))] rfl ⟨rfl, rfl, rfl, rfl, rfl, rfl, rfl, rfl, rfl, rfl, rfl, rfl, rfl, trivial⟩ ?_
                            refine WO_end ?_
                            cases hm81
                            refine WK.sub ?_ (WK.cls (fun _ h => h) (hn84 _ L92 rfl hL92))
                            exact ⟨rfl, rfl, rfl, rfl, rfl, rfl, rfl, rfl, rfl, rfl, rfl, rfl, rfl, trivial⟩
                          · refine WK_cond (b := s_34) rfl (fun hb95 => ?_) (fun hb95 => ?_)
                            · have hx93 := ifT hb95 hx93
                              refine WK_region ?_
                              refine WO_pure tbok 2 [(2, .slice a_p2 p2.length c_p2), (3, .pointer (some ⟨b1, 0, none⟩)), (6, .slice none 0 0), (7, .int .i64 0), (12, .slice (some ⟨b27, 0, none⟩) ((List.replicate (p0_5.length : Int).toNat false).length) c28), (15, .int .i64 s_9), (17, .pointer (some ⟨b75, 0, none⟩)), (100, .slice a_p1 p1.length c_p1), (101, .int .i64 (p1.length : Int)), (102, .int .i64 s_9), (111, .slice a44 ((l_15).length) c46), (112, .int .i64 ((l_15).length : Int)), (113, .int .i64 s_31), (134, .slice (some ⟨b27, 0, none⟩) ((List.replicate (p0_5.length : Int).toNat false).length) c28), (135, .int .i64 s_31)] rfl ⟨rfl, rfl, rfl, rfl, rfl, rfl, rfl, rfl, rfl, rfl, rfl, rfl, rfl, rfl, rfl, trivial⟩ ?_
                              obtain ⟨hc96, hx93⟩ := chk_some hx93
                              refine WO_index tbok rfl rfl rfl rfl rfl rfl rfl rfl (OwnE.addr hL76) (by simpa using hc96) ?_
                              refine WO_storeO (E := B1) tbok (fun _ => rfl) 1 false rfl rfl rfl rfl rfl hL76 rfl (by simpa using idx_lt hc96) rfl rfl rfl rfl (fun L97 hL97 => ?_)
                              refine WO.cls (C' := St w0 m m72 [[⟨b1, 25, [.int .i64 s_10, .int .i64 s_11, .int .i64 s_12, .int .i64 s_13, .int .i64 s_14, .slice a44 ((l_15).length) c46]⟩], L97, L70, [⟨b75, 25, [.int .i64 y_24, .int .i64 y_25, .int .i64 y_26, .int .i64 y_27, .int .i64 y_28, .slice a68 ((y_29).length) c69]⟩]]) (fun _ h => h) ?_
                              refine WO_end ?_
                              cases hx93
                              refine WK.sub ?_ (WK.cls (fun _ h => h) (hk94 L97 hL97))
                              exact ⟨rfl, rfl, rfl, rfl, rfl, rfl, rfl, rfl, rfl, rfl, rfl, rfl, rfl, trivial⟩
                            · have hx93 := ifF hb95 hx93
                              refine WK_skip ?_
                              cases hx93
                              refine WK.sub ?_ (WK.cls (fun _ h => h) (hk94 L76 hL76))
                              exact ⟨rfl, rfl, rfl, rfl, rfl, rfl, rfl, rfl, rfl, rfl, rfl, rfl, rfl, trivial⟩
                        · refine WK_draw 16 [0, 1, 2, 3, 4, 5, 6, 7, 8, 9, 10, 11, 12, 13, 14, 15] follows_ok (by kernel_rfl) St_closed ?_
                          refine WO_pure tbok 3 [(2, .slice a_p2 p2.length c_p2), (3, .pointer (some ⟨b1, 0, none⟩)), (6, .slice none 0 0), (7, .int .i64 0), (12, .slice (some ⟨b27, 0, none⟩) ((List.replicate (p0_5.length : Int).toNat false).length) c28), (15, .int .i64 s_9), (17, .pointer (some ⟨b75, 0, none⟩)), (18, .int .i64 s_31), (19, .int .i64 v_33), (100, .slice a_p1 p1.length c_p1), (101, .int .i64 (p1.length : Int)), (102, .int .i64 s_9), (111, .slice a44 ((l_15).length) c46), (112, .int .i64 ((l_15).length : Int)), (113, .int .i64 s_31), (120, .bool (v_33 != (-2147483648)))] rfl ⟨rfl, rfl, rfl, rfl, rfl, rfl, rfl, rfl, rfl, rfl, rfl, rfl, rfl, rfl, rfl, rfl, trivial⟩ ?_
                          refine WO_split (d := 120) (b := v_33 != (-2147483648)) rfl (fun hb98 => ?_) (fun hb98 => ?_)
                          · have hx90 := ifT hb98 hx90
                            refine WO_pure tbok 2 [(2, .slice a_p2 p2.length c_p2), (3, .pointer (some ⟨b1, 0, none⟩)), (6, .slice none 0 0), (7, .int .i64 0), (12, .slice (some ⟨b27, 0, none⟩) ((List.replicate (p0_5.length : Int).toNat false).length) c28), (15, .int .i64 s_9), (17, .pointer (some ⟨b75, 0, none⟩)), (18, .int .i64 s_31), (100, .slice a_p1 p1.length c_p1), (101, .int .i64 (p1.length : Int)), (102, .int .i64 s_9), (111, .slice a44 ((l_15).length) c46), (112, .int .i64 ((l_15).length : Int)), (113, .int .i64 s_31), (120, .bool true), (121, .int .i64 v_33), (122, .pointer (some ⟨b75, 5, none⟩))] rfl ⟨rfl, rfl, rfl, rfl, rfl, rfl, rfl, rfl, rfl, rfl, rfl, rfl, rfl, rfl, rfl, rfl, rfl, trivial⟩ ?_
                            refine WO_loadB tbok 3 rfl rfl rfl rfl (fun _ h => h) rfl rfl ?_
                            refine WO_pure tbok 1 [(2, .slice a_p2 p2.length c_p2), (3, .pointer (some ⟨b1, 0, none⟩)), (6, .slice none 0 0), (7, .int .i64 0), (12, .slice (some ⟨b27, 0, none⟩) ((List.replicate (p0_5.length : Int).toNat false).length) c28), (15, .int .i64 s_9), (17, .pointer (some ⟨b75, 0, none⟩)), (18, .int .i64 s_31), (100, .slice a_p1 p1.length c_p1), (101, .int .i64 (p1.length : Int)), (102, .int .i64 s_9), (111, .slice a44 ((l_15).length) c46), (112, .int .i64 ((l_15).length : Int)), (113, .int .i64 s_31), (120, .bool true), (121, .int .i64 v_33), (123, .slice a68 ((y_29).length) c69), (124, .int .i64 s_31)] rfl ⟨rfl, rfl, rfl, rfl, rfl, rfl, rfl, rfl, rfl, rfl, rfl, rfl, rfl, rfl, rfl, rfl, rfl, rfl, trivial⟩ ?_
                            obtain ⟨v_36, hy99, hx90⟩ := bind_some hx90
                            obtain ⟨hc100, hy99⟩ := ix_some hy99
                            refine WO_index tbok rfl rfl rfl rfl rfl rfl rfl rfl (SlR.addr h74) hc100 ?_
                            refine WO_loadE tbok rfl rfl rfl rfl (fun _ h => St.sat h) h74 hy99 rfl ?_
                            refine WO_pure tbok 2 [(2, .slice a_p2 p2.length c_p2), (3, .pointer (some ⟨b1, 0, none⟩)), (6, .slice none 0 0), (7, .int .i64 0), (12, .slice (some ⟨b27, 0, none⟩) ((List.replicate (p0_5.length : Int).toNat false).length) c28), (15, .int .i64 s_9), (17, .pointer (some ⟨b75, 0, none⟩)), (18, .int .i64 s_31), (100, .slice a_p1 p1.length c_p1), (101, .int .i64 (p1.length : Int)), (102, .int .i64 s_9), (111, .slice a44 ((l_15).length) c46), (112, .int .i64 ((l_15).length : Int)), (113, .int .i64 s_31), (120, .bool true), (121, .int .i64 v_33), (126, .int .i64 v_36), (127, .slice a_p2 p2.length c_p2), (128, .int .i64 s_9)] rfl ⟨rfl, rfl, rfl, rfl, rfl, rfl, rfl, rfl, rfl, rfl, rfl, rfl, rfl, rfl, rfl, rfl, rfl, rfl, rfl, trivial⟩ ?_
                            obtain ⟨v_37, hy101, hx90⟩ := bind_some hx90
                            obtain ⟨hc102, hy101⟩ := ix_some hy101
                            refine WO_index tbok rfl rfl rfl rfl rfl rfl rfl rfl (SlR.addr ((h_p2.mono (mono_FE _) hle42).mono (mono_FE _) hle73)) hc102 ?_
                            refine WO_loadE tbok rfl rfl rfl rfl (fun _ h => St.sat h) ((h_p2.mono (mono_FE _) hle42).mono (mono_FE _) hle73) hy101 rfl ?_
                            refine WO_pure tbok 3 [(2, .slice a_p2 p2.length c_p2), (3, .pointer (some ⟨b1, 0, none⟩)), (6, .slice none 0 0), (7, .int .i64 0), (12, .slice (some ⟨b27, 0, none⟩) ((List.replicate (p0_5.length : Int).toNat false).length) c28), (15, .int .i64 s_9), (17, .pointer (some ⟨b75, 0, none⟩)), (18, .int .i64 s_31), (100, .slice a_p1 p1.length c_p1), (101, .int .i64 (p1.length : Int)), (102, .int .i64 s_9), (111, .slice a44 ((l_15).length) c46), (112, .int .i64 ((l_15).length : Int)), (113, .int .i64 s_31), (133, .bool (decide ((w64 (v_36 + v_37)) < v_33)))] rfl ⟨rfl, rfl, rfl, rfl, rfl, rfl, rfl, rfl, rfl, rfl, rfl, rfl, rfl, rfl, rfl, trivial⟩ ?_
                            refine WO_tail ?_
                            refine WO_end ?_
                            cases hx90
                            refine WK.sub ?_ (WK.cls (fun _ h => h) hk91)
                            exact ⟨rfl, rfl, rfl, rfl, rfl, rfl, rfl, rfl, rfl, rfl, rfl, rfl, rfl, rfl, rfl, trivial⟩
                          · have hx90 := ifF hb98 hx90
                            refine WO_pure tbok 13 [(2, .slice a_p2 p2.length c_p2), (3, .pointer (some ⟨b1, 0, none⟩)), (6, .slice none 0 0), (7, .int .i64 0), (12, .slice (some ⟨b27, 0, none⟩) ((List.replicate (p0_5.length : Int).toNat false).length) c28), (15, .int .i64 s_9), (17, .pointer (some ⟨b75, 0, none⟩)), (18, .int .i64 s_31), (100, .slice a_p1 p1.length c_p1), (101, .int .i64 (p1.length : Int)), (102, .int .i64 s_9), (111, .slice a44 ((l_15).length) c46), (112, .int .i64 ((l_15).length : Int)), (113, .int .i64 s_31), (133, .bool false)] rfl ⟨rfl, rfl, rfl, rfl, rfl, rfl, rfl, rfl, rfl, rfl, rfl, rfl, rfl, rfl, rfl, trivial⟩ ?_
                            refine WO_tail ?_
                            refine WO_end ?_
                            cases hx90
                            refine WK.sub ?_ (WK.cls (fun _ h => h) hk91)
                            exact ⟨rfl, rfl, rfl, rfl, rfl, rfl, rfl, rfl, rfl, rfl, rfl, rfl, rfl, rfl, rfl, trivial⟩
                      · have hm81 := ifF hb87 hm81
                        refine WK_exit rfl ?_
                        cases hm81
                        refine WK.sub ?_ (WK.cls (fun _ h => h) (hk80 (l_30, L76) ⟨(hd85 _ rfl), hL76⟩))
                        exact ⟨rfl, rfl, rfl, rfl, rfl, rfl, rfl, rfl, rfl, trivial⟩
                  · have hm58 := ifF hb64 hm58
                    refine WK_exit rfl ?_
                    cases hm58
                    refine WK.sub ?_ (WK.cls (fun _ h => h) (hk57 ((l_8, s_10, s_11, s_12, s_13, s_14, l_15), (m41, L43, a44, _, c46)) ⟨(hd62 _ rfl), hle42, hL43, h47⟩))
                    exact ⟨rfl, rfl, rfl, trivial⟩
              · refine WK_block ?_
                refine WK_loop (S := List Bool × Int) (G := List Ent) (fun s => terrain_Ground_s3 p0_5 s.1 s.2) (fun s g => [(1, .slice a_p1 p1.length c_p1), (2, .slice a_p2 p2.length c_p2), (3, .pointer (some ⟨b1, 0, none⟩)), (6, .slice none 0 0), (7, .int .i64 0), (12, .slice (some ⟨b27, 0, none⟩) ((List.replicate (p0_5.length : Int).toNat false).length) c28), (87, .slice a_p0_5 p0_5.length c_p0_5), (88, .int .i64 (p0_5.length : Int)), (89, .int .i64 s.2)]) (fun s g => St w0 m m [[⟨b1, 25, [.int .i64 p0_0, .int .i64 p0_1, .int .i64 p0_2, .int .i64 p0_3, .int .i64 p0_4, .slice a_p0_5 p0_5.length c_p0_5]⟩], g]) (fun s g => OwnE 4 1 B1 (.slice (some ⟨b27, 0, none⟩) ((List.replicate (p0_5.length : Int).toNat false).length) c28) s.1 g) FUEL ((List.replicate (p0_5.length : Int).toNat false), 0) L29 x32 hx33 hL29 ⟨rfl, rfl, rfl, rfl, rfl, rfl, rfl, rfl, rfl, trivial⟩ (fun _ h => h) ?_
                rintro ⟨l_5, s_6⟩ L30 o36 fl37 hm35 hL30 hn38 hd39
                have hm35 : terrain_Ground_s3 p0_5 l_5 s_6 = some o36 := hm35
                unfold terrain_Ground_s3 at hm35
                refine WK.sub (e' := [(1, .slice a_p1 p1.length c_p1), (2, .slice a_p2 p2.length c_p2), (3, .pointer (some ⟨b1, 0, none⟩)), (6, .slice none 0 0), (7, .int .i64 0), (12, .slice (some ⟨b27, 0, none⟩) ((List.replicate (p0_5.length : Int).toNat false).length) c28), (87, .slice a_p0_5 p0_5.length c_p0_5), (88, .int .i64 (p0_5.length : Int)), (89, .int .i64 s_6)]) ⟨rfl, rfl, rfl, rfl, rfl, rfl, rfl, rfl, rfl, trivial⟩ (WK.cls (C' := St w0 m m [[⟨b1, 25, [.int .i64 p0_0, .int .i64 p0_1, .int .i64 p0_2, .int .i64 p0_3, .int .i64 p0_4, .slice a_p0_5 p0_5.length c_p0_5]⟩], L30]) (fun _ h => h) ?_)
                refine WK_seq ?_
                refine WK_region ?_
                refine WO_pure tbok 1 [(1, .slice a_p1 p1.length c_p1), (2, .slice a_p2 p2.length c_p2), (3, .pointer (some ⟨b1, 0, none⟩)), (6, .slice none 0 0), (7, .int .i64 0), (12, .slice (some ⟨b27, 0, none⟩) ((List.replicate (p0_5.length : Int).toNat false).length) c28), (87, .slice a_p0_5 p0_5.length c_p0_5), (88, .int .i64 (p0_5.length : Int)), (89, .int .i64 s_6), (90, .bool (decide (s_6 < (p0_5.length : Int))))] rfl ⟨rfl, rfl, rfl, rfl, rfl, rfl, rfl, rfl, rfl, rfl, trivial⟩ ?_
                refine WO_end ?_
                refine WK_seq ?_
                refine WK_cond (b := decide (s_6 < (p0_5.length : Int))) rfl (fun hb103 => ?_) (fun hb103 => ?_)
                · have hm35 := ifT hb103 hm35
                  refine WK_skip ?_
                  refine WK_seq ?_
                  refine WK_block ?_
                  refine WK_seq ?_
                  refine WK_region ?_
                  refine WO_pure tbok 1 [(1, .slice a_p1 p1.length c_p1), (2, .slice a_p2 p2.length c_p2), (3, .pointer (some ⟨b1, 0, none⟩)), (6, .slice none 0 0), (7, .int .i64 0), (12, .slice (some ⟨b27, 0, none⟩) ((List.replicate (p0_5.length : Int).toNat false).length) c28), (87, .slice a_p0_5 p0_5.length c_p0_5), (88, .int .i64 (p0_5.length : Int)), (89, .int .i64 s_6), (91, .int .i64 s_6)] rfl ⟨rfl, rfl, rfl, rfl, rfl, rfl, rfl, rfl, rfl, rfl, trivial⟩ ?_
                  obtain ⟨v_38, hy104, hm35⟩ := bind_some hm35
                  obtain ⟨hc105, hy104⟩ := ix_some hy104
                  refine WO_index tbok rfl rfl rfl rfl rfl rfl rfl rfl (SlR.addr h_p0_5) hc105 ?_
                  refine WO_loadE tbok rfl rfl rfl rfl (fun _ h => St.sat h) h_p0_5 hy104 rfl ?_
                  refine WO_pure tbok 2 [(1, .slice a_p1 p1.length c_p1), (2, .slice a_p2 p2.length c_p2), (3, .pointer (some ⟨b1, 0, none⟩)), (6, .slice none 0 0), (7, .int .i64 0), (12, .slice (some ⟨b27, 0, none⟩) ((List.replicate (p0_5.length : Int).toNat false).length) c28), (13, .int .i64 s_6), (14, .int .i64 v_38), (87, .slice a_p0_5 p0_5.length c_p0_5), (88, .int .i64 (p0_5.length : Int)), (89, .int .i64 s_6)] rfl ⟨rfl, rfl, rfl, rfl, rfl, rfl, rfl, rfl, rfl, rfl, rfl, trivial⟩ ?_
                  refine WO_end ?_
                  refine WK_region ?_
                  refine WO_pure tbok 4 [(1, .slice a_p1 p1.length c_p1), (2, .slice a_p2 p2.length c_p2), (3, .pointer (some ⟨b1, 0, none⟩)), (6, .slice none 0 0), (7, .int .i64 0), (12, .slice (some ⟨b27, 0, none⟩) ((List.replicate (p0_5.length : Int).toNat false).length) c28), (87, .slice a_p0_5 p0_5.length c_p0_5), (88, .int .i64 (p0_5.length : Int)), (89, .int .i64 s_6), (94, .slice (some ⟨b27, 0, none⟩) ((List.replicate (p0_5.length : Int).toNat false).length) c28), (95, .int .i64 s_6), (97, .bool (v_38 != (-2147483648)))] rfl ⟨rfl, rfl, rfl, rfl, rfl, rfl, rfl, rfl, rfl, rfl, rfl, rfl, trivial⟩ ?_
                  obtain ⟨hc106, hm35⟩ := chk_some hm35
                  refine WO_index tbok rfl rfl rfl rfl rfl rfl rfl rfl (OwnE.addr hL30) (by simpa using hc106) ?_
                  refine WO_storeO (E := B1) tbok (fun _ => rfl) 1 (v_38 != (-2147483648)) rfl rfl rfl rfl rfl hL30 rfl (by simpa using idx_lt hc106) rfl rfl rfl rfl (fun L107 hL107 => ?_)
                  refine WO.cls (C' := St w0 m m [[⟨b1, 25, [.int .i64 p0_0, .int .i64 p0_1, .int .i64 p0_2, .int .i64 p0_3, .int .i64 p0_4, .slice a_p0_5 p0_5.length c_p0_5]⟩], L107]) (fun _ h => h) ?_
                  refine WO_end ?_
                  refine WK_blk ?_
                  refine WK_region ?_
                  refine WO_pure tbok 2 [(1, .slice a_p1 p1.length c_p1), (2, .slice a_p2 p2.length c_p2), (3, .pointer (some ⟨b1, 0, none⟩)), (6, .slice none 0 0), (7, .int .i64 0), (12, .slice (some ⟨b27, 0, none⟩) ((List.replicate (p0_5.length : Int).toNat false).length) c28), (87, .slice a_p0_5 p0_5.length c_p0_5), (88, .int .i64 (p0_5.length : Int)), (89, .int .i64 (w64 (s_6 + 1)))] rfl ⟨rfl, rfl, rfl, rfl, rfl, rfl, rfl, rfl, rfl, trivial⟩ ?_
                  refine WO_end ?_
                  cases hm35
                  refine WK.sub ?_ (WK.cls (fun _ h => h) (hn38 _ L107 rfl hL107))
                  exact ⟨rfl, rfl, rfl, rfl, rfl, rfl, rfl, rfl, rfl, trivial⟩
                · have hm35 := ifF hb103 hm35
                  refine WK_exit rfl ?_
                  cases hm35
                  refine WK.sub ?_ (WK.cls (fun _ h => h) (hk34 (l_5, L30) ⟨(hd39 _ rfl), hL30⟩))
                  exact ⟨rfl, rfl, rfl, rfl, rfl, rfl, trivial⟩
            · refine WK_block ?_
              refine WK_loop (S := Int) (G := Unit) (fun s => terrain_Ground_s2 p1 s) (fun s g => [(1, .slice a_p1 p1.length c_p1), (2, .slice a_p2 p2.length c_p2), (3, .pointer (some ⟨b1, 0, none⟩)), (6, .slice none 0 0), (7, .int .i64 0), (11, .int .i64 s)]) (fun s g => St w0 m m [[⟨b1, 25, [.int .i64 p0_0, .int .i64 p0_1, .int .i64 p0_2, .int .i64 p0_3, .int .i64 p0_4, .slice a_p0_5 p0_5.length c_p0_5]⟩]]) (fun s g => True) FUEL 1 () x17 hx18 trivial ⟨rfl, rfl, rfl, rfl, rfl, rfl, trivial⟩ (fun _ h => h) ?_
              rintro s_4 ⟨⟩ o21 fl22 hm20 - hn23 hd24
              have hm20 : terrain_Ground_s2 p1 s_4 = some o21 := hm20
              unfold terrain_Ground_s2 at hm20
              refine WK.sub (e' := [(1, .slice a_p1 p1.length c_p1), (2, .slice a_p2 p2.length c_p2), (3, .pointer (some ⟨b1, 0, none⟩)), (6, .slice none 0 0), (7, .int .i64 0), (11, .int .i64 s_4)]) ⟨rfl, rfl, rfl, rfl, rfl, rfl, trivial⟩ (WK.cls (C' := St w0 m m [[⟨b1, 25, [.int .i64 p0_0, .int .i64 p0_1, .int .i64 p0_2, .int .i64 p0_3, .int .i64 p0_4, .slice a_p0_5 p0_5.length c_p0_5]⟩]]) (fun _ h => h) ?_)
              refine WK_seq ?_
              refine WK_seq ?_
              refine WK_region ?_
              refine WO_pure tbok 4 [(1, .slice a_p1 p1.length c_p1), (2, .slice a_p2 p2.length c_p2), (3, .pointer (some ⟨b1, 0, none⟩)), (6, .slice none 0 0), (7, .int .i64 0), (11, .int .i64 s_4), (69, .bool (decide (s_4 < (p1.length : Int))))] rfl ⟨rfl, rfl, rfl, rfl, rfl, rfl, rfl, trivial⟩ ?_
              refine WO_end ?_
              refine WK_cond (b := decide (s_4 < (p1.length : Int))) rfl (fun hb108 => ?_) (fun hb108 => ?_)
              · have hm20 := ifT hb108 hm20
                refine WK_skip ?_
                refine WK_seq ?_
                refine WK_block ?_
                refine WK_seq ?_
                refine WK_draw 10 [0, 1, 2, 3, 4, 5, 6, 7, 8, 9] follows_ok (by kernel_rfl) St_closed ?_
                refine WO_pure tbok 2 [(1, .slice a_p1 p1.length c_p1), (2, .slice a_p2 p2.length c_p2), (3, .pointer (some ⟨b1, 0, none⟩)), (6, .slice none 0 0), (7, .int .i64 0), (11, .int .i64 s_4), (72, .slice a_p1 p1.length c_p1), (73, .int .i64 s_4)] rfl ⟨rfl, rfl, rfl, rfl, rfl, rfl, rfl, rfl, trivial⟩ ?_
                obtain ⟨v_39, hy109, hm20⟩ := bind_some hm20
                obtain ⟨hc110, hy109⟩ := ix_some hy109
                refine WO_index tbok rfl rfl rfl rfl rfl rfl rfl rfl (SlR.addr h_p1) hc110 ?_
                refine WO_loadE tbok rfl rfl rfl rfl (fun _ h => St.sat h) h_p1 hy109 rfl ?_
                refine WO_pure tbok 3 [(1, .slice a_p1 p1.length c_p1), (2, .slice a_p2 p2.length c_p2), (3, .pointer (some ⟨b1, 0, none⟩)), (6, .slice none 0 0), (7, .int .i64 0), (11, .int .i64 s_4), (75, .int .i64 v_39), (76, .slice a_p1 p1.length c_p1), (78, .int .i64 (w64 (s_4 - 1)))] rfl ⟨rfl, rfl, rfl, rfl, rfl, rfl, rfl, rfl, rfl, trivial⟩ ?_
                obtain ⟨v_40, hy111, hm20⟩ := bind_some hm20
                obtain ⟨hc112, hy111⟩ := ix_some hy111
                refine WO_index tbok rfl rfl rfl rfl rfl rfl rfl rfl (SlR.addr h_p1) hc112 ?_
                refine WO_loadE tbok rfl rfl rfl rfl (fun _ h => St.sat h) h_p1 hy111 rfl ?_
                refine WO_pure tbok 1 [(1, .slice a_p1 p1.length c_p1), (2, .slice a_p2 p2.length c_p2), (3, .pointer (some ⟨b1, 0, none⟩)), (6, .slice none 0 0), (7, .int .i64 0), (11, .int .i64 s_4), (81, .bool (decide (v_39 ≤ v_40)))] rfl ⟨rfl, rfl, rfl, rfl, rfl, rfl, rfl, trivial⟩ ?_
                refine WO_tail ?_
                refine WO_end ?_
                refine WK_cond (b := decide (v_39 ≤ v_40)) rfl (fun hb113 => ?_) (fun hb113 => ?_)
                · have hm20 := ifT hb113 hm20
                  refine WK_seq ?_
                  refine WK_region ?_
                  refine WO_pure tbok 2 [(1, .slice a_p1 p1.length c_p1), (2, .slice a_p2 p2.length c_p2), (3, .pointer (some ⟨b1, 0, none⟩)), (6, .slice none 0 0), (7, .int .i64 5), (11, .int .i64 s_4)] rfl ⟨rfl, rfl, rfl, rfl, rfl, rfl, trivial⟩ ?_
                  refine WO_end ?_
                  cases hm20
                  have hq := hd24 _ rfl
                  subst hq
                  have hm : some _ = some _ := hm
                  cases hm
                  exact WK_ret (ret_out (L := []) (RLc_tmp rfl (RLc_tmp rfl RLc_nil)) (List.nil_sublist _) ⟨none, 0, 0, rfl, (OwnE.nil none)⟩)
                · have hm20 := ifF hb113 hm20
                  refine WK_skip ?_
                  refine WK_blk ?_
                  refine WK_region ?_
                  refine WO_pure tbok 3 [(1, .slice a_p1 p1.length c_p1), (2, .slice a_p2 p2.length c_p2), (3, .pointer (some ⟨b1, 0, none⟩)), (6, .slice none 0 0), (7, .int .i64 0), (11, .int .i64 (w64 (s_4 + 1)))] rfl ⟨rfl, rfl, rfl, rfl, rfl, rfl, trivial⟩ ?_
                  refine WO_end ?_
                  cases hm20
                  refine WK.sub ?_ (WK.cls (fun _ h => h) (hn23 _ () rfl trivial))
                  exact ⟨rfl, rfl, rfl, rfl, rfl, rfl, trivial⟩
              · have hm20 := ifF hb108 hm20
                refine WK_exit rfl ?_
                cases hm20
                refine WK.sub ?_ (WK.cls (fun _ h => h) (hk19 ((), ()) (hd24 _ rfl)))
                exact ⟨rfl, rfl, rfl, rfl, rfl, trivial⟩
          · refine WK_block ?_
            refine WK_loop (S := Int) (G := Unit) (fun s => terrain_Ground_s1 p1 p2 s) (fun s g => [(1, .slice a_p1 p1.length c_p1), (2, .slice a_p2 p2.length c_p2), (3, .pointer (some ⟨b1, 0, none⟩)), (6, .slice none 0 0), (7, .int .i64 0), (38, .slice a_p1 p1.length c_p1), (39, .int .i64 (p1.length : Int)), (40, .int .i64 s)]) (fun s g => St w0 m m [[⟨b1, 25, [.int .i64 p0_0, .int .i64 p0_1, .int .i64 p0_2, .int .i64 p0_3, .int .i64 p0_4, .slice a_p0_5 p0_5.length c_p0_5]⟩]]) (fun s g => True) FUEL 0 () x8 hx9 trivial ⟨rfl, rfl, rfl, rfl, rfl, rfl, rfl, rfl, trivial⟩ (fun _ h => h) ?_
            rintro s_3 ⟨⟩ o12 fl13 hm11 - hn14 hd15
            have hm11 : terrain_Ground_s1 p1 p2 s_3 = some o12 := hm11
            unfold terrain_Ground_s1 at hm11
            refine WK.sub (e' := [(1, .slice a_p1 p1.length c_p1), (2, .slice a_p2 p2.length c_p2), (3, .pointer (some ⟨b1, 0, none⟩)), (6, .slice none 0 0), (7, .int .i64 0), (38, .slice a_p1 p1.length c_p1), (39, .int .i64 (p1.length : Int)), (40, .int .i64 s_3)]) ⟨rfl, rfl, rfl, rfl, rfl, rfl, rfl, rfl, trivial⟩ (WK.cls (C' := St w0 m m [[⟨b1, 25, [.int .i64 p0_0, .int .i64 p0_1, .int .i64 p0_2, .int .i64 p0_3, .int .i64 p0_4, .slice a_p0_5 p0_5.length c_p0_5]⟩]]) (fun _ h => h) ?_)
            refine WK_seq ?_
            refine WK_region ?_
            refine WO_pure tbok 1 [(1, .slice a_p1 p1.length c_p1), (2, .slice a_p2 p2.length c_p2), (3, .pointer (some ⟨b1, 0, none⟩)), (6, .slice none 0 0), (7, .int .i64 0), (38, .slice a_p1 p1.length c_p1), (39, .int .i64 (p1.length : Int)), (40, .int .i64 s_3), (41, .bool (decide (s_3 < (p1.length : Int))))] rfl ⟨rfl, rfl, rfl, rfl, rfl, rfl, rfl, rfl, rfl, trivial⟩ ?_
            refine WO_end ?_
            refine WK_seq ?_
            refine WK_cond (b := decide (s_3 < (p1.length : Int))) rfl (fun hb114 => ?_) (fun hb114 => ?_)
            · have hm11 := ifT hb114 hm11
              refine WK_skip ?_
              refine WK_seq ?_
              refine WK_block ?_
              refine WK_seq ?_
              refine WK_region ?_
              refine WO_pure tbok 1 [(1, .slice a_p1 p1.length c_p1), (2, .slice a_p2 p2.length c_p2), (3, .pointer (some ⟨b1, 0, none⟩)), (6, .slice none 0 0), (7, .int .i64 0), (38, .slice a_p1 p1.length c_p1), (39, .int .i64 (p1.length : Int)), (40, .int .i64 s_3), (42, .int .i64 s_3)] rfl ⟨rfl, rfl, rfl, rfl, rfl, rfl, rfl, rfl, rfl, trivial⟩ ?_
              obtain ⟨v_41, hy115, hm11⟩ := bind_some hm11
              obtain ⟨hc116, hy115⟩ := ix_some hy115
              refine WO_index tbok rfl rfl rfl rfl rfl rfl rfl rfl (SlR.addr h_p1) hc116 ?_
              refine WO_loadE tbok rfl rfl rfl rfl (fun _ h => St.sat h) h_p1 hy115 rfl ?_
              refine WO_pure tbok 2 [(1, .slice a_p1 p1.length c_p1), (2, .slice a_p2 p2.length c_p2), (3, .pointer (some ⟨b1, 0, none⟩)), (6, .slice none 0 0), (7, .int .i64 0), (9, .int .i64 s_3), (10, .int .i64 v_41), (38, .slice a_p1 p1.length c_p1), (39, .int .i64 (p1.length : Int)), (40, .int .i64 s_3)] rfl ⟨rfl, rfl, rfl, rfl, rfl, rfl, rfl, rfl, rfl, rfl, trivial⟩ ?_
              refine WO_end ?_
              refine WK_seq ?_
              obtain ⟨s_42, hx117, hm11⟩ := bind_some hm11
              refine WK_meet [(1, .slice a_p1 p1.length c_p1), (2, .slice a_p2 p2.length c_p2), (3, .pointer (some ⟨b1, 0, none⟩)), (6, .slice none 0 0), (7, .int .i64 0), (38, .slice a_p1 p1.length c_p1), (39, .int .i64 (p1.length : Int)), (40, .int .i64 s_3), (64, .bool s_42)] (St w0 m m [[⟨b1, 25, [.int .i64 p0_0, .int .i64 p0_1, .int .i64 p0_2, .int .i64 p0_3, .int .i64 p0_4, .slice a_p0_5 p0_5.length c_p0_5]⟩]]) ?_ (fun hk118 => ?_)
              · refine WK_cond (b := s_42) rfl (fun hb119 => ?_) (fun hb119 => ?_)
                · have hm11 := ifT hb119 hm11
                  refine WK_seq ?_
                  refine WK_region ?_
                  refine WO_pure tbok 2 [(1, .slice a_p1 p1.length c_p1), (2, .slice a_p2 p2.length c_p2), (3, .pointer (some ⟨b1, 0, none⟩)), (6, .slice none 0 0), (7, .int .i64 2), (38, .slice a_p1 p1.length c_p1), (39, .int .i64 (p1.length : Int)), (40, .int .i64 s_3)] rfl ⟨rfl, rfl, rfl, rfl, rfl, rfl, rfl, rfl, trivial⟩ ?_
                  refine WO_end ?_
                  cases hm11
                  have hq := hd15 _ rfl
                  subst hq
                  have hm : some _ = some _ := hm
                  cases hm
                  exact WK_ret (ret_out (L := []) (RLc_tmp rfl (RLc_tmp rfl RLc_nil)) (List.nil_sublist _) ⟨none, 0, 0, rfl, (OwnE.nil none)⟩)
                · have hm11 := ifF hb119 hm11
                  refine WK_skip ?_
                  refine WK_blk ?_
                  refine WK_region ?_
                  refine WO_pure tbok 2 [(1, .slice a_p1 p1.length c_p1), (2, .slice a_p2 p2.length c_p2), (3, .pointer (some ⟨b1, 0, none⟩)), (6, .slice none 0 0), (7, .int .i64 0), (38, .slice a_p1 p1.length c_p1), (39, .int .i64 (p1.length : Int)), (40, .int .i64 (w64 (s_3 + 1)))] rfl ⟨rfl, rfl, rfl, rfl, rfl, rfl, rfl, rfl, trivial⟩ ?_
                  refine WO_end ?_
                  cases hm11
                  refine WK.sub ?_ (WK.cls (fun _ h => h) (hn14 _ () rfl trivial))
                  exact ⟨rfl, rfl, rfl, rfl, rfl, rfl, rfl, rfl, trivial⟩
              · refine WK_region ?_
                refine WO_pure tbok 3 [(1, .slice a_p1 p1.length c_p1), (2, .slice a_p2 p2.length c_p2), (3, .pointer (some ⟨b1, 0, none⟩)), (6, .slice none 0 0), (7, .int .i64 0), (9, .int .i64 s_3), (10, .int .i64 v_41), (38, .slice a_p1 p1.length c_p1), (39, .int .i64 (p1.length : Int)), (40, .int .i64 s_3), (47, .bool (decide (v_41 < 1)))] rfl ⟨rfl, rfl, rfl, rfl, rfl, rfl, rfl, rfl, rfl, rfl, rfl, trivial⟩ ?_
                refine WO_split (d := 47) (b := decide (v_41 < 1)) rfl (fun hb120 => ?_) (fun hb120 => ?_)
                · have hx117 := ifT hb120 hx117
                  refine WO_pure tbok 17 [(1, .slice a_p1 p1.length c_p1), (2, .slice a_p2 p2.length c_p2), (3, .pointer (some ⟨b1, 0, none⟩)), (6, .slice none 0 0), (7, .int .i64 0), (38, .slice a_p1 p1.length c_p1), (39, .int .i64 (p1.length : Int)), (40, .int .i64 s_3), (64, .bool true)] rfl ⟨rfl, rfl, rfl, rfl, rfl, rfl, rfl, rfl, rfl, trivial⟩ ?_
                  refine WO_end ?_
                  cases hx117
                  refine WK.sub ?_ (WK.cls (fun _ h => h) hk118)
                  exact ⟨rfl, rfl, rfl, rfl, rfl, rfl, rfl, rfl, rfl, trivial⟩
                · have hx117 := ifF hb120 hx117
                  refine WO_pure tbok 4 [(1, .slice a_p1 p1.length c_p1), (2, .slice a_p2 p2.length c_p2), (3, .pointer (some ⟨b1, 0, none⟩)), (6, .slice none 0 0), (7, .int .i64 0), (9, .int .i64 s_3), (38, .slice a_p1 p1.length c_p1), (39, .int .i64 (p1.length : Int)), (40, .int .i64 s_3), (51, .bool (decide (8 < v_41)))] rfl ⟨rfl, rfl, rfl, rfl, rfl, rfl, rfl, rfl, rfl, rfl, trivial⟩ ?_
                  refine WO_split (d := 51) (b := decide (8 < v_41)) rfl (fun hb121 => ?_) (fun hb121 => ?_)
                  · have hx117 := ifT hb121 hx117
                    refine WO_pure tbok 13 [(1, .slice a_p1 p1.length c_p1), (2, .slice a_p2 p2.length c_p2), (3, .pointer (some ⟨b1, 0, none⟩)), (6, .slice none 0 0), (7, .int .i64 0), (38, .slice a_p1 p1.length c_p1), (39, .int .i64 (p1.length : Int)), (40, .int .i64 s_3), (64, .bool true)] rfl ⟨rfl, rfl, rfl, rfl, rfl, rfl, rfl, rfl, rfl, trivial⟩ ?_
                    refine WO_end ?_
                    cases hx117
                    refine WK.sub ?_ (WK.cls (fun _ h => h) hk118)
                    exact ⟨rfl, rfl, rfl, rfl, rfl, rfl, rfl, rfl, rfl, trivial⟩
                  · have hx117 := ifF hb121 hx117
                    refine WO_pure tbok 2 [(1, .slice a_p1 p1.length c_p1), (2, .slice a_p2 p2.length c_p2), (3, .pointer (some ⟨b1, 0, none⟩)), (6, .slice none 0 0), (7, .int .i64 0), (9, .int .i64 s_3), (38, .slice a_p1 p1.length c_p1), (39, .int .i64 (p1.length : Int)), (40, .int .i64 s_3), (51, .bool false), (52, .slice a_p2 p2.length c_p2), (53, .int .i64 s_3)] rfl ⟨rfl, rfl, rfl, rfl, rfl, rfl, rfl, rfl, rfl, rfl, rfl, rfl, trivial⟩ ?_
                    obtain ⟨v_43, hy122, hx117⟩ := bind_some hx117
                    obtain ⟨hc123, hy122⟩ := ix_some hy122
                    refine WO_index tbok rfl rfl rfl rfl rfl rfl rfl rfl (SlR.addr h_p2) hc123 ?_
                    refine WO_loadE tbok rfl rfl rfl rfl (fun _ h => St.sat h) h_p2 hy122 rfl ?_
                    refine WO_pure tbok 3 [(1, .slice a_p1 p1.length c_p1), (2, .slice a_p2 p2.length c_p2), (3, .pointer (some ⟨b1, 0, none⟩)), (6, .slice none 0 0), (7, .int .i64 0), (9, .int .i64 s_3), (38, .slice a_p1 p1.length c_p1), (39, .int .i64 (p1.length : Int)), (40, .int .i64 s_3), (58, .bool (decide (v_43 < 0)))] rfl ⟨rfl, rfl, rfl, rfl, rfl, rfl, rfl, rfl, rfl, rfl, trivial⟩ ?_
                    refine WO_split (d := 58) (b := decide (v_43 < 0)) rfl (fun hb124 => ?_) (fun hb124 => ?_)
                    · have hx117 := ifT hb124 hx117
                      refine WO_pure tbok 6 [(1, .slice a_p1 p1.length c_p1), (2, .slice a_p2 p2.length c_p2), (3, .pointer (some ⟨b1, 0, none⟩)), (6, .slice none 0 0), (7, .int .i64 0), (38, .slice a_p1 p1.length c_p1), (39, .int .i64 (p1.length : Int)), (40, .int .i64 s_3), (64, .bool true)] rfl ⟨rfl, rfl, rfl, rfl, rfl, rfl, rfl, rfl, rfl, trivial⟩ ?_
                      refine WO_end ?_
                      cases hx117
                      refine WK.sub ?_ (WK.cls (fun _ h => h) hk118)
                      exact ⟨rfl, rfl, rfl, rfl, rfl, rfl, rfl, rfl, rfl, trivial⟩
                    · have hx117 := ifF hb124 hx117
                      refine WO_pure tbok 2 [(1, .slice a_p1 p1.length c_p1), (2, .slice a_p2 p2.length c_p2), (3, .pointer (some ⟨b1, 0, none⟩)), (6, .slice none 0 0), (7, .int .i64 0), (38, .slice a_p1 p1.length c_p1), (39, .int .i64 (p1.length : Int)), (40, .int .i64 s_3), (58, .bool false), (59, .slice a_p2 p2.length c_p2), (60, .int .i64 s_3)] rfl ⟨rfl, rfl, rfl, rfl, rfl, rfl, rfl, rfl, rfl, rfl, rfl, trivial⟩ ?_
                      obtain ⟨v_44, hy125, hx117⟩ := bind_some hx117
                      obtain ⟨hc126, hy125⟩ := ix_some hy125
                      refine WO_index tbok rfl rfl rfl rfl rfl rfl rfl rfl (SlR.addr h_p2) hc126 ?_
                      refine WO_loadE tbok rfl rfl rfl rfl (fun _ h => St.sat h) h_p2 hy125 rfl ?_
                      refine WO_pure tbok 2 [(1, .slice a_p1 p1.length c_p1), (2, .slice a_p2 p2.length c_p2), (3, .pointer (some ⟨b1, 0, none⟩)), (6, .slice none 0 0), (7, .int .i64 0), (38, .slice a_p1 p1.length c_p1), (39, .int .i64 (p1.length : Int)), (40, .int .i64 s_3), (64, .bool (decide (1048576 < v_44)))] rfl ⟨rfl, rfl, rfl, rfl, rfl, rfl, rfl, rfl, rfl, trivial⟩ ?_
                      refine WO_end ?_
                      cases hx117
                      refine WK.sub ?_ (WK.cls (fun _ h => h) hk118)
                      exact ⟨rfl, rfl, rfl, rfl, rfl, rfl, rfl, rfl, rfl, trivial⟩
            · have hm11 := ifF hb114 hm11
              refine WK_exit rfl ?_
              cases hm11
              refine WK.sub ?_ (WK.cls (fun _ h => h) (hk10 ((), ()) (hd15 _ rfl)))
              exact ⟨rfl, rfl, rfl, rfl, rfl, trivial⟩
      · refine WK_region ?_
        refine WO_pure tbok 4 [(1, .slice a_p1 p1.length c_p1), (2, .slice a_p2 p2.length c_p2), (3, .pointer (some ⟨b1, 0, none⟩)), (6, .slice none 0 0), (7, .int .i64 0), (33, .bool (decide ((p1.length : Int) < 1)))] rfl ⟨rfl, rfl, rfl, rfl, rfl, rfl, trivial⟩ ?_
        refine WO_split (d := 33) (b := decide ((p1.length : Int) < 1)) rfl (fun hb127 => ?_) (fun hb127 => ?_)
        · have hx5 := ifT hb127 hx5
          refine WO_pure tbok 4 [(1, .slice a_p1 p1.length c_p1), (2, .slice a_p2 p2.length c_p2), (3, .pointer (some ⟨b1, 0, none⟩)), (6, .slice none 0 0), (7, .int .i64 0), (37, .bool true)] rfl ⟨rfl, rfl, rfl, rfl, rfl, rfl, trivial⟩ ?_
          refine WO_end ?_
          cases hx5
          refine WK.sub ?_ (WK.cls (fun _ h => h) hk6)
          exact ⟨rfl, rfl, rfl, rfl, rfl, rfl, trivial⟩
        · have hx5 := ifF hb127 hx5
          refine WO_pure tbok 4 [(1, .slice a_p1 p1.length c_p1), (2, .slice a_p2 p2.length c_p2), (3, .pointer (some ⟨b1, 0, none⟩)), (6, .slice none 0 0), (7, .int .i64 0), (37, .bool (decide (8 < (p1.length : Int))))] rfl ⟨rfl, rfl, rfl, rfl, rfl, rfl, trivial⟩ ?_
          refine WO_end ?_
          cases hx5
          refine WK.sub ?_ (WK.cls (fun _ h => h) hk6)
          exact ⟨rfl, rfl, rfl, rfl, rfl, rfl, trivial⟩
def slices_Clone_sint_Q (r : List Int) : Value → List Ent → Prop := fun v L => ∃ (a0 : Option Addr) (q0 c0 : Nat), v = .slice a0 q0 c0 ∧ OwnE 3 1 (I1 .i64) (.slice a0 q0 c0) r L
theorem slices_Clone_sint_walk {m : Mu} {p0 : List Int} {a_p0 : Option Addr} {q_p0 c_p0 : Nat} (h_p0 : SlR (FE (I1 .i64)) 1 m (.slice a_p0 q_p0 c_p0) p0) {r : List Int} (hm : slices_Clone_sint p0 = some r) :
    Go.E.Spec Try.prog 23 [.slice a_p0 q_p0 c_p0] m (fun v _ L => slices_Clone_sint_Q r v L) := by
  refine Spec_enter Try.func23 rfl rfl rfl (fun w0 => ?_)
  refine WK.sub (e' := [(0, .slice a_p0 q_p0 c_p0)]) ⟨rfl, trivial⟩ ?_
  obtain rfl := SlR.qlen h_p0
  refine WK.sub (e' := [(0, .slice a_p0 p0.length c_p0)]) ⟨rfl, trivial⟩ ?_
  cases a_p0 with
  | none =>
    obtain ⟨hx, _, hc⟩ := SlR.none_nil h_p0
    subst hx
    subst hc
    unfold slices_Clone_sint at hm
    obtain ⟨_, hm⟩ := chk_some hm
    refine WK_seq ?_
    refine WK_region ?_
    refine WO_pure tbok 1 [(0, .slice none 0 0), (2, .slice none 0 0)] rfl ⟨rfl, rfl, trivial⟩ ?_
    refine WO_end ?_
    refine WK_seq ?_
    refine WK_seq ?_
    refine WK_region ?_
    refine WO_pure tbok 1 [(0, .slice none 0 0), (2, .slice none 0 0), (3, .slice none 0 0)] rfl ⟨rfl, rfl, rfl, trivial⟩ ?_
    refine WO_eqnil tbok rfl rfl rfl rfl rfl rfl rfl ?_
    refine WO_end ?_
    refine WK_condT rfl ?_
    refine WK_seq ?_
    refine WK_region ?_
    refine WO_pure tbok 1 [(0, .slice none 0 0), (2, .slice none 0 0)] rfl ⟨rfl, rfl, trivial⟩ ?_
    refine WO_end ?_
    cases hm
    exact WK_ret (ret_out (L := []) (RLc_tmp rfl RLc_nil) (List.nil_sublist _) ⟨none, 0, 0, rfl, (OwnE.nil none)⟩)
  | some ad =>
    unfold slices_Clone_sint at hm
    refine WK_seq ?_
    refine WK_region ?_
    refine WO_pure tbok 1 [(0, .slice (some ad) p0.length c_p0), (2, .slice none 0 0)] rfl ⟨rfl, rfl, trivial⟩ ?_
    refine WO_end ?_
    refine WK_seq ?_
    refine WK_seq ?_
    refine WK_region ?_
    refine WO_pure tbok 1 [(0, .slice (some ad) p0.length c_p0), (2, .slice none 0 0), (3, .slice (some ad) p0.length c_p0)] rfl ⟨rfl, rfl, rfl, trivial⟩ ?_
    refine WO_eqnil tbok rfl rfl rfl rfl rfl rfl rfl ?_
    refine WO_end ?_
    refine WK_condF rfl ?_
    refine WK_skip ?_
    refine WK_seq ?_
    refine WK_region ?_
    refine WO_bslice (E := (I1 .i64)) tbok (fun _ => rfl) (by decide) [] ([] : List Int) rfl rfl trivial rfl rfl rfl rfl rfl rfl rfl rfl rfl rfl rfl rfl (fun b1 hb1 => ?_)
    refine WO.cls (C' := St w0 m m [[⟨b1, 3, ([] : List Int).flatMap (I1 .i64)⟩]]) (fun _ h => h) ?_
    refine WO_pure tbok 1 [(2, .slice none 0 0), (5, .slice (some ⟨b1, 0, none⟩) 0 0), (6, .slice (some ad) p0.length c_p0)] rfl ⟨rfl, rfl, rfl, trivial⟩ ?_
    obtain ⟨hc2, hm⟩ := chk_some hm
    refine WO_appendS (E := (I1 .i64)) tbok (fun _ => rfl) (by decide) (fun _ => rfl) 0 p0 rfl rfl rfl rfl rfl rfl rfl rfl rfl rfl rfl rfl hb1 rfl (fun w hw => ⟨_, hw.sat, h_p0⟩) (ap_ok (by decide) hc2) (ap_max hc2) (fun a3 c4 L5 hL5 => ?_)
    refine WO.cls (C' := St w0 m m [L5]) (fun _ h => h) ?_
    refine WO_pure tbok 1 [(2, .slice a3 ((([] : List Int) ++ p0).length) c4)] rfl ⟨rfl, trivial⟩ ?_
    refine WO_end ?_
    cases hm
    exact WK_ret (ret_out (L := L5) (RLc_tmp rfl RLc_nil) (seg_sub 0 rfl) ⟨a3, ((([] : List Int) ++ p0).length), c4, rfl, hL5⟩)
def terrain_Fill_Q (r : Int × Int × Int × Int × Int × List Int × Int) : Value → Mu → List Ent → Prop := fun v m L => ∃ (a0 : Option Addr) (q0 c0 : Nat), v = .tuple #[.agg #[.int .i64 r.1, .int .i64 r.2.1, .int .i64 r.2.2.1, .int .i64 r.2.2.2.1, .int .i64 r.2.2.2.2.1, .slice a0 q0 c0], .int .i64 r.2.2.2.2.2.2] ∧ SlR (FE (I1 .i64)) 1 m (.slice a0 q0 c0) r.2.2.2.2.2.1
theorem terrain_Fill_walk {m : Mu} {p0_0 : Int} {p0_1 : Int} {p0_2 : Int} {p0_3 : Int} {p0_4 : Int} {p0_5 : List Int} {a_p0_5 : Option Addr} {q_p0_5 c_p0_5 : Nat} (h_p0_5 : SlR (FE (I1 .i64)) 1 m (.slice a_p0_5 q_p0_5 c_p0_5) p0_5) {r : Int × Int × Int × Int × Int × List Int × Int} (hm : terrain_Fill p0_0 p0_1 p0_2 p0_3 p0_4 p0_5 = some r) :
    Go.E.Spec Try.prog 35 [.agg #[.int .i64 p0_0, .int .i64 p0_1, .int .i64 p0_2, .int .i64 p0_3, .int .i64 p0_4, .slice a_p0_5 q_p0_5 c_p0_5]] m (terrain_Fill_Q r) := by
  refine Spec_enter Try.func35 rfl rfl rfl (fun w0 => ?_)
  refine WK.sub (e' := [(0, .agg #[.int .i64 p0_0, .int .i64 p0_1, .int .i64 p0_2, .int .i64 p0_3, .int .i64 p0_4, .slice a_p0_5 q_p0_5 c_p0_5])]) ⟨rfl, trivial⟩ ?_
  obtain rfl := SlR.qlen h_p0_5
  refine WK.sub (e' := [(0, .agg #[.int .i64 p0_0, .int .i64 p0_1, .int .i64 p0_2, .int .i64 p0_3, .int .i64 p0_4, .slice a_p0_5 p0_5.length c_p0_5])]) ⟨rfl, trivial⟩ ?_
  unfold terrain_Fill at hm
  refine WK_seq ?_
  refine WK_region ?_
  refine WO_box [.int .i64 p0_0, .int .i64 p0_1, .int .i64 p0_2, .int .i64 p0_3, .int .i64 p0_4, .slice a_p0_5 p0_5.length c_p0_5] rfl rfl trivial rfl rfl rfl (fun b1 => ?_)
  refine WO.cls (C' := St w0 m m [[⟨b1, 25, [.int .i64 p0_0, .int .i64 p0_1, .int .i64 p0_2, .int .i64 p0_3, .int .i64 p0_4, .slice a_p0_5 p0_5.length c_p0_5]⟩]]) (fun _ h => h) ?_
  refine WO_alloc tbok [.int .i64 0, .int .i64 0, .int .i64 0, .int .i64 0, .int .i64 0, .slice none 0 0] rfl rfl trivial rfl rfl rfl rfl (fun b2 => ?_)
  refine WO.cls (C' := St w0 m m [[⟨b1, 25, [.int .i64 p0_0, .int .i64 p0_1, .int .i64 p0_2, .int .i64 p0_3, .int .i64 p0_4, .slice a_p0_5 p0_5.length c_p0_5]⟩], [⟨b2, 25, [.int .i64 0, .int .i64 0, .int .i64 0, .int .i64 0, .int .i64 0, .slice none 0 0]⟩]]) (fun _ h => h) ?_
  refine WO_pure tbok 1 [(1, .pointer (some ⟨b1, 0, none⟩)), (2, .pointer (some ⟨b2, 0, none⟩)), (3, .int .i64 0)] rfl ⟨rfl, rfl, rfl, trivial⟩ ?_
  refine WO_end ?_
  refine WK_seq ?_
  refine WK_seq ?_
  refine WK_region ?_
  refine WO_loadB tbok 0 rfl rfl rfl rfl (fun _ h => h) rfl rfl ?_
  obtain ⟨y_1, hc3, hm⟩ := bind_some hm
  refine WO_call0 (.int .i64 y_1) rfl rfl trivial rfl rfl rfl rfl St_closed ⟨16, #[], #[], rfl, callable_16, fun w hw => ⟨_, hw.sat, terrain_Check_walk h_p0_5 hc3⟩⟩ ?_
  refine WO_pure tbok 1 [(1, .pointer (some ⟨b1, 0, none⟩)), (2, .pointer (some ⟨b2, 0, none⟩)), (3, .int .i64 0), (4, .int .i64 y_1)] rfl ⟨rfl, rfl, rfl, rfl, trivial⟩ ?_
  refine WO_end ?_
  refine WK_seq ?_
  refine WK_region ?_
  refine WO_pure tbok 2 [(1, .pointer (some ⟨b1, 0, none⟩)), (2, .pointer (some ⟨b2, 0, none⟩)), (3, .int .i64 0), (4, .int .i64 y_1), (18, .bool (y_1 != 0))] rfl ⟨rfl, rfl, rfl, rfl, rfl, trivial⟩ ?_
  refine WO_end ?_
  refine WK_cond (b := y_1 != 0) rfl (fun hb4 => ?_) (fun hb4 => ?_)
  · have hm := ifT hb4 hm
    refine WK_seq ?_
    refine WK_region ?_
    refine WO_pure tbok 2 [(1, .pointer (some ⟨b1, 0, none⟩)), (2, .pointer (some ⟨b2, 0, none⟩)), (3, .int .i64 0), (19, .agg #[.int .i64 0, .int .i64 0, .int .i64 0, .int .i64 0, .int .i64 0, .slice none 0 0]), (20, .int .i64 y_1)] rfl ⟨rfl, rfl, rfl, rfl, rfl, trivial⟩ ?_
    refine WO_storeB tbok 1 [.int .i64 0, .int .i64 0, .int .i64 0, .int .i64 0, .int .i64 0, .slice none 0 0] rfl rfl rfl rfl rfl rfl rfl ?_
    refine WO.cls (C' := St w0 m m [[⟨b1, 25, [.int .i64 p0_0, .int .i64 p0_1, .int .i64 p0_2, .int .i64 p0_3, .int .i64 p0_4, .slice a_p0_5 p0_5.length c_p0_5]⟩], [⟨b2, 25, [.int .i64 0, .int .i64 0, .int .i64 0, .int .i64 0, .int .i64 0, .slice none 0 0]⟩]]) (fun _ h => h) ?_
    refine WO_pure tbok 1 [(1, .pointer (some ⟨b1, 0, none⟩)), (2, .pointer (some ⟨b2, 0, none⟩)), (3, .int .i64 y_1)] rfl ⟨rfl, rfl, rfl, trivial⟩ ?_
    refine WO_end ?_
    cases hm
    exact WK_ret (ret_out (L := []) (RLc_cell tbok 1 rfl rfl rfl (RLc_tmp rfl RLc_nil)) (List.nil_sublist _) ⟨none, 0, 0, rfl, SlR_nil⟩)
  · have hm := ifF hb4 hm
    refine WK_skip ?_
    refine WK_seq ?_
    refine WK_region ?_
    refine WO_pure tbok 1 [(1, .pointer (some ⟨b1, 0, none⟩)), (2, .pointer (some ⟨b2, 0, none⟩)), (3, .int .i64 0), (21, .pointer (some ⟨b1, 5, none⟩))] rfl ⟨rfl, rfl, rfl, rfl, trivial⟩ ?_
    refine WO_loadB tbok 0 rfl rfl rfl rfl (fun _ h => h) rfl rfl ?_
    obtain ⟨y_2, hc5, hm⟩ := bind_some hm
    refine WO_call1 (slices_Clone_sint_Q y_2) rfl rfl trivial rfl rfl rfl rfl ⟨23, #[], #[], rfl, callable_23, fun w hw => ⟨_, hw.sat, slices_Clone_sint_walk h_p0_5 hc5⟩⟩ (fun v9 L8 hq => ?_)
    obtain ⟨a6, qa6, c7, rfl, hL8⟩ := hq
    obtain rfl := OwnE.qlen hL8
    refine WO.cls (C' := St w0 m m [[⟨b1, 25, [.int .i64 p0_0, .int .i64 p0_1, .int .i64 p0_2, .int .i64 p0_3, .int .i64 p0_4, .slice a_p0_5 p0_5.length c_p0_5]⟩], [⟨b2, 25, [.int .i64 0, .int .i64 0, .int .i64 0, .int .i64 0, .int .i64 0, .slice none 0 0]⟩], L8]) (fun _ h => h) ?_
    refine WO_pure tbok 1 [(1, .pointer (some ⟨b1, 0, none⟩)), (2, .pointer (some ⟨b2, 0, none⟩)), (3, .int .i64 0), (5, .slice a6 ((y_2).length) c7)] rfl ⟨rfl, rfl, rfl, rfl, trivial⟩ ?_
    refine WO_end ?_
    refine WK_seq ?_
    refine WK_region ?_
    refine WO_pure tbok 1 [(1, .pointer (some ⟨b1, 0, none⟩)), (2, .pointer (some ⟨b2, 0, none⟩)), (3, .int .i64 0), (5, .slice a6 ((y_2).length) c7), (6, .bool false)] rfl ⟨rfl, rfl, rfl, rfl, rfl, trivial⟩ ?_
    refine WO_end ?_
    refine WK_seq ?_
    refine WK_seq ?_
    refine WK_region ?_
    refine WO_pure tbok 1 [(1, .pointer (some ⟨b1, 0, none⟩)), (2, .pointer (some ⟨b2, 0, none⟩)), (3, .int .i64 0), (5, .slice a6 ((y_2).length) c7), (6, .bool false), (24, .pointer (some ⟨b1, 5, none⟩))] rfl ⟨rfl, rfl, rfl, rfl, rfl, rfl, trivial⟩ ?_
    refine WO_loadB tbok 0 rfl rfl rfl rfl (fun _ h => h) rfl rfl ?_
    refine WO_pure tbok 2 [(1, .pointer (some ⟨b1, 0, none⟩)), (2, .pointer (some ⟨b2, 0, none⟩)), (3, .int .i64 0), (5, .slice a6 ((y_2).length) c7), (6, .bool false), (25, .slice a_p0_5 p0_5.length c_p0_5), (26, .int .i64 (p0_5.length : Int)), (27, .int .i64 0)] rfl ⟨rfl, rfl, rfl, rfl, rfl, rfl, rfl, rfl, trivial⟩ ?_
    refine WO_end ?_
    obtain ⟨x12, hx13, hm⟩ := bind_some hm
    refine WK_join (β := (List Int × Bool) × (List Ent)) (fun p => p.1 = x12 ∧ OwnE 3 1 (I1 .i64) (.slice a6 ((y_2).length) c7) p.1.1 p.2) (fun p => [(1, .pointer (some ⟨b1, 0, none⟩)), (2, .pointer (some ⟨b2, 0, none⟩)), (3, .int .i64 0), (5, .slice a6 ((y_2).length) c7), (6, .bool p.1.2)]) (fun p => St w0 m m [[⟨b1, 25, [.int .i64 p0_0, .int .i64 p0_1, .int .i64 p0_2, .int .i64 p0_3, .int .i64 p0_4, .slice a_p0_5 p0_5.length c_p0_5]⟩], [⟨b2, 25, [.int .i64 0, .int .i64 0, .int .i64 0, .int .i64 0, .int .i64 0, .slice none 0 0]⟩], p.2]) ?_ (fun hk14 => ?_)
    · rintro ⟨⟨l_6, s_7⟩, L11⟩ ⟨hq20, hL11⟩
      subst hq20
      refine WK.sub (e' := [(1, .pointer (some ⟨b1, 0, none⟩)), (2, .pointer (some ⟨b2, 0, none⟩)), (3, .int .i64 0), (5, .slice a6 ((y_2).length) c7), (6, .bool s_7)]) ⟨rfl, rfl, rfl, rfl, rfl, trivial⟩ (WK.cls (C' := St w0 m m [[⟨b1, 25, [.int .i64 p0_0, .int .i64 p0_1, .int .i64 p0_2, .int .i64 p0_3, .int .i64 p0_4, .slice a_p0_5 p0_5.length c_p0_5]⟩], [⟨b2, 25, [.int .i64 0, .int .i64 0, .int .i64 0, .int .i64 0, .int .i64 0, .slice none 0 0]⟩], L11]) (fun _ h => h) ?_)
      refine WK_seq ?_
      refine WK_seq ?_
      refine WK_region ?_
      refine WO_pure tbok 2 [(1, .pointer (some ⟨b1, 0, none⟩)), (2, .pointer (some ⟨b2, 0, none⟩)), (3, .int .i64 0), (5, .slice a6 ((y_2).length) c7), (102, .bool (!s_7))] rfl ⟨rfl, rfl, rfl, rfl, rfl, trivial⟩ ?_
      refine WO_end ?_
      refine WK_cond (b := !s_7) rfl (fun hb21 => ?_) (fun hb21 => ?_)
      · have hm := ifT hb21 hm
        refine WK_seq ?_
        refine WK_region ?_
        refine WO_pure tbok 1 [(1, .pointer (some ⟨b1, 0, none⟩)), (2, .pointer (some ⟨b2, 0, none⟩)), (3, .int .i64 0), (5, .slice a6 ((y_2).length) c7), (103, .agg #[.int .i64 0, .int .i64 0, .int .i64 0, .int .i64 0, .int .i64 0, .slice none 0 0])] rfl ⟨rfl, rfl, rfl, rfl, rfl, trivial⟩ ?_
        refine WO_storeB tbok 1 [.int .i64 0, .int .i64 0, .int .i64 0, .int .i64 0, .int .i64 0, .slice none 0 0] rfl rfl rfl rfl rfl rfl rfl ?_
        refine WO.cls (C' := St w0 m m [[⟨b1, 25, [.int .i64 p0_0, .int .i64 p0_1, .int .i64 p0_2, .int .i64 p0_3, .int .i64 p0_4, .slice a_p0_5 p0_5.length c_p0_5]⟩], [⟨b2, 25, [.int .i64 0, .int .i64 0, .int .i64 0, .int .i64 0, .int .i64 0, .slice none 0 0]⟩], L11]) (fun _ h => h) ?_
        refine WO_pure tbok 1 [(1, .pointer (some ⟨b1, 0, none⟩)), (2, .pointer (some ⟨b2, 0, none⟩)), (3, .int .i64 6), (5, .slice a6 ((y_2).length) c7)] rfl ⟨rfl, rfl, rfl, rfl, trivial⟩ ?_
        refine WO_end ?_
        cases hm
        exact WK_ret (ret_out (L := []) (RLc_cell tbok 1 rfl rfl rfl (RLc_tmp rfl RLc_nil)) (List.nil_sublist _) ⟨none, 0, 0, rfl, SlR_nil⟩)
      · have hm := ifF hb21 hm
        refine WK_skip ?_
        refine WK_seq ?_
        refine WK_region ?_
        refine WO_loadB tbok 0 rfl rfl rfl rfl (fun _ h => h) rfl rfl ?_
        refine WO_pure tbok 1 [(2, .pointer (some ⟨b2, 0, none⟩)), (3, .int .i64 0), (104, .agg #[.int .i64 p0_0, .int .i64 p0_1, .int .i64 p0_2, .int .i64 p0_3, .int .i64 p0_4, .slice a_p0_5 p0_5.length c_p0_5]), (105, .slice a6 ((y_2).length) c7)] rfl ⟨rfl, rfl, rfl, rfl, trivial⟩ ?_
        refine WO_freeze 2 rfl (fun m22 hle23 hmm24 => ?_)
        refine WO.cls (C' := St w0 m m22 [[⟨b1, 25, [.int .i64 p0_0, .int .i64 p0_1, .int .i64 p0_2, .int .i64 p0_3, .int .i64 p0_4, .slice a_p0_5 p0_5.length c_p0_5]⟩], [⟨b2, 25, [.int .i64 0, .int .i64 0, .int .i64 0, .int .i64 0, .int .i64 0, .slice none 0 0]⟩], []]) (fun _ h => h) ?_
        obtain ⟨⟨y_8, y_9, y_10, y_11, y_12, y_13⟩, hc25, hm⟩ := bind_some hm
        refine WO_call2 (terrain_with_Q (y_8, y_9, y_10, y_11, y_12, y_13)) rfl rfl trivial rfl rfl rfl rfl ⟨44, #[], #[], rfl, callable_44, terrain_with_walk (h_p0_5.mono (mono_FE _) hle23) (OwnE.rd (E := (I1 .i64)) (k := 1) (fun _ => rfl) hL11 hmm24) hc25⟩ (fun v29 m30 L28 hle31 hq => ?_)
        obtain ⟨a26, qa26, c27, rfl, h32⟩ := hq
        obtain rfl := SlR.qlen h32
        refine WO.cls (C' := St w0 m m30 [[⟨b1, 25, [.int .i64 p0_0, .int .i64 p0_1, .int .i64 p0_2, .int .i64 p0_3, .int .i64 p0_4, .slice a_p0_5 p0_5.length c_p0_5]⟩], [⟨b2, 25, [.int .i64 0, .int .i64 0, .int .i64 0, .int .i64 0, .int .i64 0, .slice none 0 0]⟩], [], L28]) (fun _ h => h.sub (by simp)) ?_
        refine WO_storeB tbok 1 [.int .i64 y_8, .int .i64 y_9, .int .i64 y_10, .int .i64 y_11, .int .i64 y_12, .slice a26 ((y_13).length) c27] rfl rfl rfl rfl rfl rfl rfl ?_
        refine WO.cls (C' := St w0 m m30 [[⟨b1, 25, [.int .i64 p0_0, .int .i64 p0_1, .int .i64 p0_2, .int .i64 p0_3, .int .i64 p0_4, .slice a_p0_5 p0_5.length c_p0_5]⟩], [⟨b2, 25, [.int .i64 y_8, .int .i64 y_9, .int .i64 y_10, .int .i64 y_11, .int .i64 y_12, .slice a26 ((y_13).length) c27]⟩], [], L28]) (fun _ h => h) ?_
        refine WO_pure tbok 1 [(2, .pointer (some ⟨b2, 0, none⟩)), (3, .int .i64 0)] rfl ⟨rfl, rfl, trivial⟩ ?_
        refine WO_end ?_
        cases hm
        exact WK_ret (ret_out (L := []) (RLc_cell tbok 1 rfl rfl rfl (RLc_tmp rfl RLc_nil)) (List.nil_sublist _) ⟨a26, _, c27, rfl, h32⟩)
    · refine WK_block ?_
      refine WK_loop (S := List Int × Bool × Int) (G := List Ent) (fun s => terrain_Fill_s1 p0_3 p0_5 s.1 s.2.1 s.2.2) (fun s g => [(1, .pointer (some ⟨b1, 0, none⟩)), (2, .pointer (some ⟨b2, 0, none⟩)), (3, .int .i64 0), (5, .slice a6 ((y_2).length) c7), (6, .bool s.2.1), (25, .slice a_p0_5 p0_5.length c_p0_5), (26, .int .i64 (p0_5.length : Int)), (27, .int .i64 s.2.2)]) (fun s g => St w0 m m [[⟨b1, 25, [.int .i64 p0_0, .int .i64 p0_1, .int .i64 p0_2, .int .i64 p0_3, .int .i64 p0_4, .slice a_p0_5 p0_5.length c_p0_5]⟩], [⟨b2, 25, [.int .i64 0, .int .i64 0, .int .i64 0, .int .i64 0, .int .i64 0, .slice none 0 0]⟩], g]) (fun s g => OwnE 3 1 (I1 .i64) (.slice a6 ((y_2).length) c7) s.1 g) FUEL (y_2, false, 0) L8 x12 hx13 hL8 ⟨rfl, rfl, rfl, rfl, rfl, rfl, rfl, rfl, trivial⟩ (fun _ h => h) ?_
      rintro ⟨l_3, s_4, s_5⟩ L10 o16 fl17 hm15 hL10 hn18 hd19
      have hm15 : terrain_Fill_s1 p0_3 p0_5 l_3 s_4 s_5 = some o16 := hm15
      unfold terrain_Fill_s1 at hm15
      refine WK.sub (e' := [(1, .pointer (some ⟨b1, 0, none⟩)), (2, .pointer (some ⟨b2, 0, none⟩)), (3, .int .i64 0), (5, .slice a6 ((y_2).length) c7), (6, .bool s_4), (25, .slice a_p0_5 p0_5.length c_p0_5), (26, .int .i64 (p0_5.length : Int)), (27, .int .i64 s_5)]) ⟨rfl, rfl, rfl, rfl, rfl, rfl, rfl, rfl, trivial⟩ (WK.cls (C' := St w0 m m [[⟨b1, 25, [.int .i64 p0_0, .int .i64 p0_1, .int .i64 p0_2, .int .i64 p0_3, .int .i64 p0_4, .slice a_p0_5 p0_5.length c_p0_5]⟩], [⟨b2, 25, [.int .i64 0, .int .i64 0, .int .i64 0, .int .i64 0, .int .i64 0, .slice none 0 0]⟩], L10]) (fun _ h => h) ?_)
      refine WK_seq ?_
      refine WK_region ?_
      refine WO_pure tbok 1 [(1, .pointer (some ⟨b1, 0, none⟩)), (2, .pointer (some ⟨b2, 0, none⟩)), (3, .int .i64 0), (5, .slice a6 ((y_2).length) c7), (6, .bool s_4), (25, .slice a_p0_5 p0_5.length c_p0_5), (26, .int .i64 (p0_5.length : Int)), (27, .int .i64 s_5), (28, .bool (decide (s_5 < (p0_5.length : Int))))] rfl ⟨rfl, rfl, rfl, rfl, rfl, rfl, rfl, rfl, rfl, trivial⟩ ?_
      refine WO_end ?_
      refine WK_seq ?_
      refine WK_cond (b := decide (s_5 < (p0_5.length : Int))) rfl (fun hb33 => ?_) (fun hb33 => ?_)
      · have hm15 := ifT hb33 hm15
        refine WK_skip ?_
        refine WK_seq ?_
        refine WK_block ?_
        refine WK_seq ?_
        refine WK_region ?_
        refine WO_pure tbok 1 [(1, .pointer (some ⟨b1, 0, none⟩)), (2, .pointer (some ⟨b2, 0, none⟩)), (3, .int .i64 0), (5, .slice a6 ((y_2).length) c7), (6, .bool s_4), (25, .slice a_p0_5 p0_5.length c_p0_5), (26, .int .i64 (p0_5.length : Int)), (27, .int .i64 s_5), (29, .int .i64 s_5)] rfl ⟨rfl, rfl, rfl, rfl, rfl, rfl, rfl, rfl, rfl, trivial⟩ ?_
        obtain ⟨v_14, hy34, hm15⟩ := bind_some hm15
        obtain ⟨hc35, hy34⟩ := ix_some hy34
        refine WO_index tbok rfl rfl rfl rfl rfl rfl rfl rfl (SlR.addr h_p0_5) hc35 ?_
        refine WO_loadE tbok rfl rfl rfl rfl (fun _ h => St.sat h) h_p0_5 hy34 rfl ?_
        refine WO_pure tbok 2 [(1, .pointer (some ⟨b1, 0, none⟩)), (2, .pointer (some ⟨b2, 0, none⟩)), (3, .int .i64 0), (5, .slice a6 ((y_2).length) c7), (6, .bool s_4), (7, .int .i64 s_5), (8, .int .i64 v_14), (25, .slice a_p0_5 p0_5.length c_p0_5), (26, .int .i64 (p0_5.length : Int)), (27, .int .i64 s_5)] rfl ⟨rfl, rfl, rfl, rfl, rfl, rfl, rfl, rfl, rfl, rfl, trivial⟩ ?_
        refine WO_end ?_
        refine WK_seq ?_
        refine WK_seq ?_
        refine WK_region ?_
        refine WO_pure tbok 2 [(1, .pointer (some ⟨b1, 0, none⟩)), (2, .pointer (some ⟨b2, 0, none⟩)), (3, .int .i64 0), (5, .slice a6 ((y_2).length) c7), (6, .bool s_4), (7, .int .i64 s_5), (25, .slice a_p0_5 p0_5.length c_p0_5), (26, .int .i64 (p0_5.length : Int)), (27, .int .i64 s_5), (33, .bool (v_14 != (-2147483648)))] rfl ⟨rfl, rfl, rfl, rfl, rfl, rfl, rfl, rfl, rfl, rfl, trivial⟩ ?_
        refine WO_end ?_
        refine WK_cond (b := v_14 != (-2147483648)) rfl (fun hb36 => ?_) (fun hb36 => ?_)
        · have hm15 := ifT hb36 hm15
          refine WK_seq ?_
          refine WK_region ?_
          refine WO_pure tbok 1 [(1, .pointer (some ⟨b1, 0, none⟩)), (2, .pointer (some ⟨b2, 0, none⟩)), (3, .int .i64 0), (5, .slice a6 ((y_2).length) c7), (6, .bool true), (7, .int .i64 s_5), (25, .slice a_p0_5 p0_5.length c_p0_5), (26, .int .i64 (p0_5.length : Int)), (27, .int .i64 s_5)] rfl ⟨rfl, rfl, rfl, rfl, rfl, rfl, rfl, rfl, rfl, trivial⟩ ?_
          refine WO_end ?_
          refine WK_exit rfl ?_
          refine WK_region ?_
          refine WO_pure tbok 2 [(1, .pointer (some ⟨b1, 0, none⟩)), (2, .pointer (some ⟨b2, 0, none⟩)), (3, .int .i64 0), (5, .slice a6 ((y_2).length) c7), (6, .bool true), (25, .slice a_p0_5 p0_5.length c_p0_5), (26, .int .i64 (p0_5.length : Int)), (27, .int .i64 (w64 (s_5 + 1)))] rfl ⟨rfl, rfl, rfl, rfl, rfl, rfl, rfl, rfl, trivial⟩ ?_
          refine WO_end ?_
          cases hm15
          refine WK.sub ?_ (WK.cls (fun _ h => h) (hn18 _ L10 rfl hL10))
          exact ⟨rfl, rfl, rfl, rfl, rfl, rfl, rfl, rfl, trivial⟩
        · have hm15 := ifF hb36 hm15
          refine WK_skip ?_
          refine WK_seq ?_
          refine WK_region ?_
          refine WO_pure tbok 1 [(1, .pointer (some ⟨b1, 0, none⟩)), (2, .pointer (some ⟨b2, 0, none⟩)), (3, .int .i64 0), (5, .slice a6 ((y_2).length) c7), (6, .bool s_4), (7, .int .i64 s_5), (9, .int .i64 0), (25, .slice a_p0_5 p0_5.length c_p0_5), (26, .int .i64 (p0_5.length : Int)), (27, .int .i64 s_5)] rfl ⟨rfl, rfl, rfl, rfl, rfl, rfl, rfl, rfl, rfl, rfl, trivial⟩ ?_
          refine WO_end ?_
          refine WK_seq ?_
          refine WK_region ?_
          refine WO_pure tbok 1 [(1, .pointer (some ⟨b1, 0, none⟩)), (2, .pointer (some ⟨b2, 0, none⟩)), (3, .int .i64 0), (5, .slice a6 ((y_2).length) c7), (6, .bool s_4), (7, .int .i64 s_5), (9, .int .i64 0), (25, .slice a_p0_5 p0_5.length c_p0_5), (26, .int .i64 (p0_5.length : Int)), (27, .int .i64 s_5), (34, .pointer (some ⟨b1, 5, none⟩))] rfl ⟨rfl, rfl, rfl, rfl, rfl, rfl, rfl, rfl, rfl, rfl, rfl, trivial⟩ ?_
          refine WO_loadB tbok 0 rfl rfl rfl rfl (fun _ h => h) rfl rfl ?_
          refine WO_pure tbok 2 [(1, .pointer (some ⟨b1, 0, none⟩)), (2, .pointer (some ⟨b2, 0, none⟩)), (3, .int .i64 0), (5, .slice a6 ((y_2).length) c7), (6, .bool s_4), (7, .int .i64 s_5), (9, .int .i64 0), (25, .slice a_p0_5 p0_5.length c_p0_5), (26, .int .i64 (p0_5.length : Int)), (27, .int .i64 s_5), (35, .slice a_p0_5 p0_5.length c_p0_5), (36, .int .i64 (p0_5.length : Int)), (37, .int .i64 0)] rfl ⟨rfl, rfl, rfl, rfl, rfl, rfl, rfl, rfl, rfl, rfl, rfl, rfl, rfl, trivial⟩ ?_
          refine WO_end ?_
          obtain ⟨x39, hx40, hm15⟩ := bind_some hm15
          refine WK_join (β := (List Int) × (List Ent)) (fun p => p.1 = x39 ∧ OwnE 3 1 (I1 .i64) (.slice a6 ((y_2).length) c7) p.1 p.2) (fun p => [(1, .pointer (some ⟨b1, 0, none⟩)), (2, .pointer (some ⟨b2, 0, none⟩)), (3, .int .i64 0), (5, .slice a6 ((y_2).length) c7), (6, .bool s_4), (25, .slice a_p0_5 p0_5.length c_p0_5), (26, .int .i64 (p0_5.length : Int)), (27, .int .i64 s_5)]) (fun p => St w0 m m [[⟨b1, 25, [.int .i64 p0_0, .int .i64 p0_1, .int .i64 p0_2, .int .i64 p0_3, .int .i64 p0_4, .slice a_p0_5 p0_5.length c_p0_5]⟩], [⟨b2, 25, [.int .i64 0, .int .i64 0, .int .i64 0, .int .i64 0, .int .i64 0, .slice none 0 0]⟩], p.2]) ?_ (fun hk41 => ?_)
          · rintro ⟨l_18, L38⟩ ⟨hq47, hL38⟩
            subst hq47
            refine WK.sub (e' := [(1, .pointer (some ⟨b1, 0, none⟩)), (2, .pointer (some ⟨b2, 0, none⟩)), (3, .int .i64 0), (5, .slice a6 ((y_2).length) c7), (6, .bool s_4), (25, .slice a_p0_5 p0_5.length c_p0_5), (26, .int .i64 (p0_5.length : Int)), (27, .int .i64 s_5)]) ⟨rfl, rfl, rfl, rfl, rfl, rfl, rfl, rfl, trivial⟩ (WK.cls (C' := St w0 m m [[⟨b1, 25, [.int .i64 p0_0, .int .i64 p0_1, .int .i64 p0_2, .int .i64 p0_3, .int .i64 p0_4, .slice a_p0_5 p0_5.length c_p0_5]⟩], [⟨b2, 25, [.int .i64 0, .int .i64 0, .int .i64 0, .int .i64 0, .int .i64 0, .slice none 0 0]⟩], L38]) (fun _ h => h) ?_)
            refine WK_blk ?_
            refine WK_region ?_
            refine WO_pure tbok 2 [(1, .pointer (some ⟨b1, 0, none⟩)), (2, .pointer (some ⟨b2, 0, none⟩)), (3, .int .i64 0), (5, .slice a6 ((y_2).length) c7), (6, .bool s_4), (25, .slice a_p0_5 p0_5.length c_p0_5), (26, .int .i64 (p0_5.length : Int)), (27, .int .i64 (w64 (s_5 + 1)))] rfl ⟨rfl, rfl, rfl, rfl, rfl, rfl, rfl, rfl, trivial⟩ ?_
            refine WO_end ?_
            cases hm15
            refine WK.sub ?_ (WK.cls (fun _ h => h) (hn18 _ L38 rfl hL38))
            exact ⟨rfl, rfl, rfl, rfl, rfl, rfl, rfl, rfl, trivial⟩
          · refine WK_block ?_
            refine WK_loop (S := List Int × Int × Int) (G := List Ent) (fun s => terrain_Fill_s2 p0_3 p0_5 s_5 s.1 s.2.1 s.2.2) (fun s g => [(1, .pointer (some ⟨b1, 0, none⟩)), (2, .pointer (some ⟨b2, 0, none⟩)), (3, .int .i64 0), (5, .slice a6 ((y_2).length) c7), (6, .bool s_4), (7, .int .i64 s_5), (9, .int .i64 s.2.1), (25, .slice a_p0_5 p0_5.length c_p0_5), (26, .int .i64 (p0_5.length : Int)), (27, .int .i64 s_5), (35, .slice a_p0_5 p0_5.length c_p0_5), (36, .int .i64 (p0_5.length : Int)), (37, .int .i64 s.2.2)]) (fun s g => St w0 m m [[⟨b1, 25, [.int .i64 p0_0, .int .i64 p0_1, .int .i64 p0_2, .int .i64 p0_3, .int .i64 p0_4, .slice a_p0_5 p0_5.length c_p0_5]⟩], [⟨b2, 25, [.int .i64 0, .int .i64 0, .int .i64 0, .int .i64 0, .int .i64 0, .slice none 0 0]⟩], g]) (fun s g => OwnE 3 1 (I1 .i64) (.slice a6 ((y_2).length) c7) s.1 g) FUEL (l_3, 0, 0) L10 x39 hx40 hL10 ⟨rfl, rfl, rfl, rfl, rfl, rfl, rfl, rfl, rfl, rfl, rfl, rfl, rfl, trivial⟩ (fun _ h => h) ?_
            rintro ⟨l_15, s_16, s_17⟩ L37 o43 fl44 hm42 hL37 hn45 hd46
            have hm42 : terrain_Fill_s2 p0_3 p0_5 s_5 l_15 s_16 s_17 = some o43 := hm42
            unfold terrain_Fill_s2 at hm42
            refine WK.sub (e' := [(1, .pointer (some ⟨b1, 0, none⟩)), (2, .pointer (some ⟨b2, 0, none⟩)), (3, .int .i64 0), (5, .slice a6 ((y_2).length) c7), (6, .bool s_4), (7, .int .i64 s_5), (9, .int .i64 s_16), (25, .slice a_p0_5 p0_5.length c_p0_5), (26, .int .i64 (p0_5.length : Int)), (27, .int .i64 s_5), (35, .slice a_p0_5 p0_5.length c_p0_5), (36, .int .i64 (p0_5.length : Int)), (37, .int .i64 s_17)]) ⟨rfl, rfl, rfl, rfl, rfl, rfl, rfl, rfl, rfl, rfl, rfl, rfl, rfl, trivial⟩ (WK.cls (C' := St w0 m m [[⟨b1, 25, [.int .i64 p0_0, .int .i64 p0_1, .int .i64 p0_2, .int .i64 p0_3, .int .i64 p0_4, .slice a_p0_5 p0_5.length c_p0_5]⟩], [⟨b2, 25, [.int .i64 0, .int .i64 0, .int .i64 0, .int .i64 0, .int .i64 0, .slice none 0 0]⟩], L37]) (fun _ h => h) ?_)
            refine WK_seq ?_
            refine WK_region ?_
            refine WO_pure tbok 1 [(1, .pointer (some ⟨b1, 0, none⟩)), (2, .pointer (some ⟨b2, 0, none⟩)), (3, .int .i64 0), (5, .slice a6 ((y_2).length) c7), (6, .bool s_4), (7, .int .i64 s_5), (9, .int .i64 s_16), (25, .slice a_p0_5 p0_5.length c_p0_5), (26, .int .i64 (p0_5.length : Int)), (27, .int .i64 s_5), (35, .slice a_p0_5 p0_5.length c_p0_5), (36, .int .i64 (p0_5.length : Int)), (37, .int .i64 s_17), (38, .bool (decide (s_17 < (p0_5.length : Int))))] rfl ⟨rfl, rfl, rfl, rfl, rfl, rfl, rfl, rfl, rfl, rfl, rfl, rfl, rfl, rfl, trivial⟩ ?_
            refine WO_end ?_
            refine WK_seq ?_
            refine WK_cond (b := decide (s_17 < (p0_5.length : Int))) rfl (fun hb48 => ?_) (fun hb48 => ?_)
            · have hm42 := ifT hb48 hm42
              refine WK_skip ?_
              refine WK_seq ?_
              refine WK_block ?_
              refine WK_seq ?_
              refine WK_region ?_
              refine WO_pure tbok 1 [(1, .pointer (some ⟨b1, 0, none⟩)), (2, .pointer (some ⟨b2, 0, none⟩)), (3, .int .i64 0), (5, .slice a6 ((y_2).length) c7), (6, .bool s_4), (7, .int .i64 s_5), (9, .int .i64 s_16), (25, .slice a_p0_5 p0_5.length c_p0_5), (26, .int .i64 (p0_5.length : Int)), (27, .int .i64 s_5), (35, .slice a_p0_5 p0_5.length c_p0_5), (36, .int .i64 (p0_5.length : Int)), (37, .int .i64 s_17), (39, .int .i64 s_17)] rfl ⟨rfl, rfl, rfl, rfl, rfl, rfl, rfl, rfl, rfl, rfl, rfl, rfl, rfl, rfl, trivial⟩ ?_
              obtain ⟨v_19, hy49, hm42⟩ := bind_some hm42
              obtain ⟨hc50, hy49⟩ := ix_some hy49
              refine WO_index tbok rfl rfl rfl rfl rfl rfl rfl rfl (SlR.addr h_p0_5) hc50 ?_
              refine WO_loadE tbok rfl rfl rfl rfl (fun _ h => St.sat h) h_p0_5 hy49 rfl ?_
              refine WO_pure tbok 2 [(1, .pointer (some ⟨b1, 0, none⟩)), (2, .pointer (some ⟨b2, 0, none⟩)), (3, .int .i64 0), (5, .slice a6 ((y_2).length) c7), (6, .bool s_4), (7, .int .i64 s_5), (9, .int .i64 s_16), (10, .int .i64 s_17), (11, .int .i64 v_19), (25, .slice a_p0_5 p0_5.length c_p0_5), (26, .int .i64 (p0_5.length : Int)), (27, .int .i64 s_5), (35, .slice a_p0_5 p0_5.length c_p0_5), (36, .int .i64 (p0_5.length : Int)), (37, .int .i64 s_17)] rfl ⟨rfl, rfl, rfl, rfl, rfl, rfl, rfl, rfl, rfl, rfl, rfl, rfl, rfl, rfl, rfl, trivial⟩ ?_
              refine WO_end ?_
              refine WK_seq ?_
              refine WK_seq ?_
              refine WK_region ?_
              refine WO_pure tbok 2 [(1, .pointer (some ⟨b1, 0, none⟩)), (2, .pointer (some ⟨b2, 0, none⟩)), (3, .int .i64 0), (5, .slice a6 ((y_2).length) c7), (6, .bool s_4), (7, .int .i64 s_5), (9, .int .i64 s_16), (10, .int .i64 s_17), (11, .int .i64 v_19), (25, .slice a_p0_5 p0_5.length c_p0_5), (26, .int .i64 (p0_5.length : Int)), (27, .int .i64 s_5), (35, .slice a_p0_5 p0_5.length c_p0_5), (36, .int .i64 (p0_5.length : Int)), (37, .int .i64 s_17), (43, .bool (v_19 == (-2147483648)))] rfl ⟨rfl, rfl, rfl, rfl, rfl, rfl, rfl, rfl, rfl, rfl, rfl, rfl, rfl, rfl, rfl, rfl, trivial⟩ ?_
              refine WO_end ?_
              refine WK_cond (b := v_19 == (-2147483648)) rfl (fun hb51 => ?_) (fun hb51 => ?_)
              · have hm42 := ifT hb51 hm42
                refine WK_exit rfl ?_
                refine WK_region ?_
                refine WO_pure tbok 2 [(1, .pointer (some ⟨b1, 0, none⟩)), (2, .pointer (some ⟨b2, 0, none⟩)), (3, .int .i64 0), (5, .slice a6 ((y_2).length) c7), (6, .bool s_4), (7, .int .i64 s_5), (9, .int .i64 s_16), (25, .slice a_p0_5 p0_5.length c_p0_5), (26, .int .i64 (p0_5.length : Int)), (27, .int .i64 s_5), (35, .slice a_p0_5 p0_5.length c_p0_5), (36, .int .i64 (p0_5.length : Int)), (37, .int .i64 (w64 (s_17 + 1)))] rfl ⟨rfl, rfl, rfl, rfl, rfl, rfl, rfl, rfl, rfl, rfl, rfl, rfl, rfl, trivial⟩ ?_
                refine WO_end ?_
                cases hm42
                refine WK.sub ?_ (WK.cls (fun _ h => h) (hn45 _ L37 rfl hL37))
                exact ⟨rfl, rfl, rfl, rfl, rfl, rfl, rfl, rfl, rfl, rfl, rfl, rfl, rfl, trivial⟩
              · have hm42 := ifF hb51 hm42
                refine WK_skip ?_
                refine WK_seq ?_
                refine WK_draw 20 [0, 1, 2, 3, 4, 5, 6, 7, 8, 9, 10, 11, 12, 13, 14, 15, 16, 17, 18, 19] follows_ok (by kernel_rfl) St_closed ?_
                refine WO_pure tbok 2 [(1, .pointer (some ⟨b1, 0, none⟩)), (2, .pointer (some ⟨b2, 0, none⟩)), (3, .int .i64 0), (5, .slice a6 ((y_2).length) c7), (6, .bool s_4), (7, .int .i64 s_5), (9, .int .i64 s_16), (10, .int .i64 s_17), (11, .int .i64 v_19), (25, .slice a_p0_5 p0_5.length c_p0_5), (26, .int .i64 (p0_5.length : Int)), (27, .int .i64 s_5), (35, .slice a_p0_5 p0_5.length c_p0_5), (36, .int .i64 (p0_5.length : Int)), (37, .int .i64 s_17), (44, .int .i64 s_5), (45, .pointer (some ⟨b1, 3, none⟩))] rfl ⟨rfl, rfl, rfl, rfl, rfl, rfl, rfl, rfl, rfl, rfl, rfl, rfl, rfl, rfl, rfl, rfl, rfl, trivial⟩ ?_
                refine WO_loadB tbok 0 rfl rfl rfl rfl (fun _ h => h) rfl rfl ?_
                obtain ⟨hc52, hm42⟩ := chk_some hm42
                refine WO_rem rfl rfl rfl rfl rfl hc52 ?_
                refine WO_pure tbok 2 [(1, .pointer (some ⟨b1, 0, none⟩)), (2, .pointer (some ⟨b2, 0, none⟩)), (3, .int .i64 0), (5, .slice a6 ((y_2).length) c7), (6, .bool s_4), (7, .int .i64 s_5), (9, .int .i64 s_16), (10, .int .i64 s_17), (11, .int .i64 v_19), (25, .slice a_p0_5 p0_5.length c_p0_5), (26, .int .i64 (p0_5.length : Int)), (27, .int .i64 s_5), (35, .slice a_p0_5 p0_5.length c_p0_5), (36, .int .i64 (p0_5.length : Int)), (37, .int .i64 s_17), (47, .int .i64 (Int.tmod s_5 p0_3)), (48, .int .i64 s_17), (49, .pointer (some ⟨b1, 3, none⟩))] rfl ⟨rfl, rfl, rfl, rfl, rfl, rfl, rfl, rfl, rfl, rfl, rfl, rfl, rfl, rfl, rfl, rfl, rfl, rfl, trivial⟩ ?_
                refine WO_loadB tbok 0 rfl rfl rfl rfl (fun _ h => h) rfl rfl ?_
                obtain ⟨hc53, hm42⟩ := chk_some hm42
                refine WO_rem rfl rfl rfl rfl rfl hc53 ?_
                refine WO_pure tbok 3 [(1, .pointer (some ⟨b1, 0, none⟩)), (2, .pointer (some ⟨b2, 0, none⟩)), (3, .int .i64 0), (5, .slice a6 ((y_2).length) c7), (6, .bool s_4), (7, .int .i64 s_5), (9, .int .i64 s_16), (10, .int .i64 s_17), (11, .int .i64 v_19), (25, .slice a_p0_5 p0_5.length c_p0_5), (26, .int .i64 (p0_5.length : Int)), (27, .int .i64 s_5), (35, .slice a_p0_5 p0_5.length c_p0_5), (36, .int .i64 (p0_5.length : Int)), (37, .int .i64 s_17), (52, .int .i64 (w64 ((Int.tmod s_5 p0_3) - (Int.tmod s_17 p0_3)))), (53, .int .i64 s_5), (54, .pointer (some ⟨b1, 3, none⟩))] rfl ⟨rfl, rfl, rfl, rfl, rfl, rfl, rfl, rfl, rfl, rfl, rfl, rfl, rfl, rfl, rfl, rfl, rfl, rfl, trivial⟩ ?_
                refine WO_loadB tbok 0 rfl rfl rfl rfl (fun _ h => h) rfl rfl ?_
                obtain ⟨hc54, hm42⟩ := chk_some hm42
                refine WO_quo rfl rfl rfl rfl rfl hc54 ?_
                refine WO_pure tbok 2 [(1, .pointer (some ⟨b1, 0, none⟩)), (2, .pointer (some ⟨b2, 0, none⟩)), (3, .int .i64 0), (5, .slice a6 ((y_2).length) c7), (6, .bool s_4), (7, .int .i64 s_5), (9, .int .i64 s_16), (11, .int .i64 v_19), (25, .slice a_p0_5 p0_5.length c_p0_5), (26, .int .i64 (p0_5.length : Int)), (27, .int .i64 s_5), (35, .slice a_p0_5 p0_5.length c_p0_5), (36, .int .i64 (p0_5.length : Int)), (37, .int .i64 s_17), (52, .int .i64 (w64 ((Int.tmod s_5 p0_3) - (Int.tmod s_17 p0_3)))), (56, .int .i64 (w64 (Int.tdiv s_5 p0_3))), (57, .int .i64 s_17), (58, .pointer (some ⟨b1, 3, none⟩))] rfl ⟨rfl, rfl, rfl, rfl, rfl, rfl, rfl, rfl, rfl, rfl, rfl, rfl, rfl, rfl, rfl, rfl, rfl, rfl, trivial⟩ ?_
                refine WO_loadB tbok 0 rfl rfl rfl rfl (fun _ h => h) rfl rfl ?_
                obtain ⟨hc55, hm42⟩ := chk_some hm42
                refine WO_quo rfl rfl rfl rfl rfl hc55 ?_
                refine WO_pure tbok 3 [(1, .pointer (some ⟨b1, 0, none⟩)), (2, .pointer (some ⟨b2, 0, none⟩)), (3, .int .i64 0), (5, .slice a6 ((y_2).length) c7), (6, .bool s_4), (7, .int .i64 s_5), (9, .int .i64 s_16), (11, .int .i64 v_19), (12, .int .i64 (w64 ((Int.tmod s_5 p0_3) - (Int.tmod s_17 p0_3)))), (13, .int .i64 (w64 ((w64 (Int.tdiv s_5 p0_3)) - (w64 (Int.tdiv s_17 p0_3))))), (25, .slice a_p0_5 p0_5.length c_p0_5), (26, .int .i64 (p0_5.length : Int)), (27, .int .i64 s_5), (35, .slice a_p0_5 p0_5.length c_p0_5), (36, .int .i64 (p0_5.length : Int)), (37, .int .i64 s_17)] rfl ⟨rfl, rfl, rfl, rfl, rfl, rfl, rfl, rfl, rfl, rfl, rfl, rfl, rfl, rfl, rfl, rfl, trivial⟩ ?_
                refine WO_tail ?_
                refine WO_end ?_
                refine WK_seq ?_
                refine WK_region ?_
                refine WO_pure tbok 10 [(1, .pointer (some ⟨b1, 0, none⟩)), (2, .pointer (some ⟨b2, 0, none⟩)), (3, .int .i64 0), (5, .slice a6 ((y_2).length) c7), (6, .bool s_4), (7, .int .i64 s_5), (9, .int .i64 s_16), (11, .int .i64 v_19), (14, .int .i64 (w64 ((if (w64 ((Int.tmod s_5 p0_3) - (Int.tmod s_17 p0_3))) < (w64 (0 - (w64 ((Int.tmod s_5 p0_3) - (Int.tmod s_17 p0_3))))) then (w64 (0 - (w64 ((Int.tmod s_5 p0_3) - (Int.tmod s_17 p0_3))))) else (w64 ((Int.tmod s_5 p0_3) - (Int.tmod s_17 p0_3)))) + (if (w64 ((w64 (Int.tdiv s_5 p0_3)) - (w64 (Int.tdiv s_17 p0_3)))) < (w64 (0 - (w64 ((w64 (Int.tdiv s_5 p0_3)) - (w64 (Int.tdiv s_17 p0_3)))))) then (w64 (0 - (w64 ((w64 (Int.tdiv s_5 p0_3)) - (w64 (Int.tdiv s_17 p0_3)))))) else (w64 ((w64 (Int.tdiv s_5 p0_3)) - (w64 (Int.tdiv s_17 p0_3)))))))), (25, .slice a_p0_5 p0_5.length c_p0_5), (26, .int .i64 (p0_5.length : Int)), (27, .int .i64 s_5), (35, .slice a_p0_5 p0_5.length c_p0_5), (36, .int .i64 (p0_5.length : Int)), (37, .int .i64 s_17)] rfl ⟨rfl, rfl, rfl, rfl, rfl, rfl, rfl, rfl, rfl, rfl, rfl, rfl, rfl, rfl, rfl, trivial⟩ ?_
                refine WO_end ?_
                refine WK_seq ?_
                obtain ⟨s_20, hx56, hm42⟩ := bind_some hm42
                refine WK_meet [(1, .pointer (some ⟨b1, 0, none⟩)), (2, .pointer (some ⟨b2, 0, none⟩)), (3, .int .i64 0), (5, .slice a6 ((y_2).length) c7), (6, .bool s_4), (7, .int .i64 s_5), (9, .int .i64 s_16), (11, .int .i64 v_19), (14, .int .i64 (w64 ((if (w64 ((Int.tmod s_5 p0_3) - (Int.tmod s_17 p0_3))) < (w64 (0 - (w64 ((Int.tmod s_5 p0_3) - (Int.tmod s_17 p0_3))))) then (w64 (0 - (w64 ((Int.tmod s_5 p0_3) - (Int.tmod s_17 p0_3))))) else (w64 ((Int.tmod s_5 p0_3) - (Int.tmod s_17 p0_3)))) + (if (w64 ((w64 (Int.tdiv s_5 p0_3)) - (w64 (Int.tdiv s_17 p0_3)))) < (w64 (0 - (w64 ((w64 (Int.tdiv s_5 p0_3)) - (w64 (Int.tdiv s_17 p0_3)))))) then (w64 (0 - (w64 ((w64 (Int.tdiv s_5 p0_3)) - (w64 (Int.tdiv s_17 p0_3)))))) else (w64 ((w64 (Int.tdiv s_5 p0_3)) - (w64 (Int.tdiv s_17 p0_3)))))))), (25, .slice a_p0_5 p0_5.length c_p0_5), (26, .int .i64 (p0_5.length : Int)), (27, .int .i64 s_5), (35, .slice a_p0_5 p0_5.length c_p0_5), (36, .int .i64 (p0_5.length : Int)), (37, .int .i64 s_17), (93, .bool s_20)] (St w0 m m [[⟨b1, 25, [.int .i64 p0_0, .int .i64 p0_1, .int .i64 p0_2, .int .i64 p0_3, .int .i64 p0_4, .slice a_p0_5 p0_5.length c_p0_5]⟩], [⟨b2, 25, [.int .i64 0, .int .i64 0, .int .i64 0, .int .i64 0, .int .i64 0, .slice none 0 0]⟩], L37]) ?_ (fun hk57 => ?_)
                · obtain ⟨⟨l_21, s_22⟩, hx59, hm42⟩ := bind_some hm42
                  refine WK_join (β := List Ent) (fun p => OwnE 3 1 (I1 .i64) (.slice a6 ((y_2).length) c7) l_21 p) (fun p => [(1, .pointer (some ⟨b1, 0, none⟩)), (2, .pointer (some ⟨b2, 0, none⟩)), (3, .int .i64 0), (5, .slice a6 ((y_2).length) c7), (6, .bool s_4), (7, .int .i64 s_5), (9, .int .i64 s_22), (25, .slice a_p0_5 p0_5.length c_p0_5), (26, .int .i64 (p0_5.length : Int)), (27, .int .i64 s_5), (35, .slice a_p0_5 p0_5.length c_p0_5), (36, .int .i64 (p0_5.length : Int)), (37, .int .i64 s_17)]) (fun p => St w0 m m [[⟨b1, 25, [.int .i64 p0_0, .int .i64 p0_1, .int .i64 p0_2, .int .i64 p0_3, .int .i64 p0_4, .slice a_p0_5 p0_5.length c_p0_5]⟩], [⟨b2, 25, [.int .i64 0, .int .i64 0, .int .i64 0, .int .i64 0, .int .i64 0, .slice none 0 0]⟩], p]) ?_ (fun hk60 => ?_)
                  · rintro L58 hL58
                    refine WK.sub (e' := [(1, .pointer (some ⟨b1, 0, none⟩)), (2, .pointer (some ⟨b2, 0, none⟩)), (3, .int .i64 0), (5, .slice a6 ((y_2).length) c7), (6, .bool s_4), (7, .int .i64 s_5), (9, .int .i64 s_22), (25, .slice a_p0_5 p0_5.length c_p0_5), (26, .int .i64 (p0_5.length : Int)), (27, .int .i64 s_5), (35, .slice a_p0_5 p0_5.length c_p0_5), (36, .int .i64 (p0_5.length : Int)), (37, .int .i64 s_17)]) ⟨rfl, rfl, rfl, rfl, rfl, rfl, rfl, rfl, rfl, rfl, rfl, rfl, rfl, trivial⟩ (WK.cls (C' := St w0 m m [[⟨b1, 25, [.int .i64 p0_0, .int .i64 p0_1, .int .i64 p0_2, .int .i64 p0_3, .int .i64 p0_4, .slice a_p0_5 p0_5.length c_p0_5]⟩], [⟨b2, 25, [.int .i64 0, .int .i64 0, .int .i64 0, .int .i64 0, .int .i64 0, .slice none 0 0]⟩], L58]) (fun _ h => h) ?_)
                    refine WK_blk ?_
                    refine WK_region ?_
                    refine WO_pure tbok 2 [(1, .pointer (some ⟨b1, 0, none⟩)), (2, .pointer (some ⟨b2, 0, none⟩)), (3, .int .i64 0), (5, .slice a6 ((y_2).length) c7), (6, .bool s_4), (7, .int .i64 s_5), (9, .int .i64 s_22), (25, .slice a_p0_5 p0_5.length c_p0_5), (26, .int .i64 (p0_5.length : Int)), (27, .int .i64 s_5), (35, .slice a_p0_5 p0_5.length c_p0_5), (36, .int .i64 (p0_5.length : Int)), (37, .int .i64 (w64 (s_17 + 1)))] rfl ⟨rfl, rfl, rfl, rfl, rfl, rfl, rfl, rfl, rfl, rfl, rfl, rfl, rfl, trivial⟩ ?_
                    refine WO_end ?_
                    cases hm42
                    refine WK.sub ?_ (WK.cls (fun _ h => h) (hn45 _ L58 rfl hL58))
                    exact ⟨rfl, rfl, rfl, rfl, rfl, rfl, rfl, rfl, rfl, rfl, rfl, rfl, rfl, trivial⟩
                  · refine WK_cond (b := s_20) rfl (fun hb61 => ?_) (fun hb61 => ?_)
                    · have hx59 := ifT hb61 hx59
                      refine WK_region ?_
                      refine WO_pure tbok 4 [(1, .pointer (some ⟨b1, 0, none⟩)), (2, .pointer (some ⟨b2, 0, none⟩)), (3, .int .i64 0), (5, .slice a6 ((y_2).length) c7), (6, .bool s_4), (7, .int .i64 s_5), (9, .int .i64 s_16), (25, .slice a_p0_5 p0_5.length c_p0_5), (26, .int .i64 (p0_5.length : Int)), (27, .int .i64 s_5), (35, .slice a_p0_5 p0_5.length c_p0_5), (36, .int .i64 (p0_5.length : Int)), (37, .int .i64 s_17), (94, .slice a6 ((y_2).length) c7), (95, .int .i64 s_5), (96, .int .i64 v_19), (97, .int .i64 (w64 ((if (w64 ((Int.tmod s_5 p0_3) - (Int.tmod s_17 p0_3))) < (w64 (0 - (w64 ((Int.tmod s_5 p0_3) - (Int.tmod s_17 p0_3))))) then (w64 (0 - (w64 ((Int.tmod s_5 p0_3) - (Int.tmod s_17 p0_3))))) else (w64 ((Int.tmod s_5 p0_3) - (Int.tmod s_17 p0_3)))) + (if (w64 ((w64 (Int.tdiv s_5 p0_3)) - (w64 (Int.tdiv s_17 p0_3)))) < (w64 (0 - (w64 ((w64 (Int.tdiv s_5 p0_3)) - (w64 (Int.tdiv s_17 p0_3)))))) then (w64 (0 - (w64 ((w64 (Int.tdiv s_5 p0_3)) - (w64 (Int.tdiv s_17 p0_3)))))) else (w64 ((w64 (Int.tdiv s_5 p0_3)) - (w64 (Int.tdiv s_17 p0_3))))))))] rfl ⟨rfl, rfl, rfl, rfl, rfl, rfl, rfl, rfl, rfl, rfl, rfl, rfl, rfl, rfl, rfl, rfl, rfl, trivial⟩ ?_
                      obtain ⟨hc62, hx59⟩ := chk_some hx59
                      refine WO_index tbok rfl rfl rfl rfl rfl rfl rfl rfl (OwnE.addr hL37) (by simpa using hc62) ?_
                      refine WO_storeO (E := (I1 .i64)) tbok (fun _ => rfl) 2 v_19 rfl rfl rfl rfl rfl hL37 rfl (by simpa using idx_lt hc62) rfl rfl rfl rfl (fun L63 hL63 => ?_)
                      refine WO.cls (C' := St w0 m m [[⟨b1, 25, [.int .i64 p0_0, .int .i64 p0_1, .int .i64 p0_2, .int .i64 p0_3, .int .i64 p0_4, .slice a_p0_5 p0_5.length c_p0_5]⟩], [⟨b2, 25, [.int .i64 0, .int .i64 0, .int .i64 0, .int .i64 0, .int .i64 0, .slice none 0 0]⟩], L63]) (fun _ h => h) ?_
                      refine WO_pure tbok 1 [(1, .pointer (some ⟨b1, 0, none⟩)), (2, .pointer (some ⟨b2, 0, none⟩)), (3, .int .i64 0), (5, .slice a6 ((y_2).length) c7), (6, .bool s_4), (7, .int .i64 s_5), (9, .int .i64 (w64 ((if (w64 ((Int.tmod s_5 p0_3) - (Int.tmod s_17 p0_3))) < (w64 (0 - (w64 ((Int.tmod s_5 p0_3) - (Int.tmod s_17 p0_3))))) then (w64 (0 - (w64 ((Int.tmod s_5 p0_3) - (Int.tmod s_17 p0_3))))) else (w64 ((Int.tmod s_5 p0_3) - (Int.tmod s_17 p0_3)))) + (if (w64 ((w64 (Int.tdiv s_5 p0_3)) - (w64 (Int.tdiv s_17 p0_3)))) < (w64 (0 - (w64 ((w64 (Int.tdiv s_5 p0_3)) - (w64 (Int.tdiv s_17 p0_3)))))) then (w64 (0 - (w64 ((w64 (Int.tdiv s_5 p0_3)) - (w64 (Int.tdiv s_17 p0_3)))))) else (w64 ((w64 (Int.tdiv s_5 p0_3)) - (w64 (Int.tdiv s_17 p0_3)))))))), (25, .slice a_p0_5 p0_5.length c_p0_5), (26, .int .i64 (p0_5.length : Int)), (27, .int .i64 s_5), (35, .slice a_p0_5 p0_5.length c_p0_5), (36, .int .i64 (p0_5.length : Int)), (37, .int .i64 s_17)] rfl ⟨rfl, rfl, rfl, rfl, rfl, rfl, rfl, rfl, rfl, rfl, rfl, rfl, rfl, trivial⟩ ?_
                      refine WO_end ?_
                      cases hx59
                      refine WK.sub ?_ (WK.cls (fun _ h => h) (hk60 L63 hL63))
                      exact ⟨rfl, rfl, rfl, rfl, rfl, rfl, rfl, rfl, rfl, rfl, rfl, rfl, rfl, trivial⟩
                    · have hx59 := ifF hb61 hx59
                      refine WK_skip ?_
                      cases hx59
                      refine WK.sub ?_ (WK.cls (fun _ h => h) (hk60 L37 hL37))
                      exact ⟨rfl, rfl, rfl, rfl, rfl, rfl, rfl, rfl, rfl, rfl, rfl, rfl, rfl, trivial⟩
                · refine WK_region ?_
                  refine WO_pure tbok 2 [(1, .pointer (some ⟨b1, 0, none⟩)), (2, .pointer (some ⟨b2, 0, none⟩)), (3, .int .i64 0), (5, .slice a6 ((y_2).length) c7), (6, .bool s_4), (7, .int .i64 s_5), (9, .int .i64 s_16), (11, .int .i64 v_19), (14, .int .i64 (w64 ((if (w64 ((Int.tmod s_5 p0_3) - (Int.tmod s_17 p0_3))) < (w64 (0 - (w64 ((Int.tmod s_5 p0_3) - (Int.tmod s_17 p0_3))))) then (w64 (0 - (w64 ((Int.tmod s_5 p0_3) - (Int.tmod s_17 p0_3))))) else (w64 ((Int.tmod s_5 p0_3) - (Int.tmod s_17 p0_3)))) + (if (w64 ((w64 (Int.tdiv s_5 p0_3)) - (w64 (Int.tdiv s_17 p0_3)))) < (w64 (0 - (w64 ((w64 (Int.tdiv s_5 p0_3)) - (w64 (Int.tdiv s_17 p0_3)))))) then (w64 (0 - (w64 ((w64 (Int.tdiv s_5 p0_3)) - (w64 (Int.tdiv s_17 p0_3)))))) else (w64 ((w64 (Int.tdiv s_5 p0_3)) - (w64 (Int.tdiv s_17 p0_3)))))))), (25, .slice a_p0_5 p0_5.length c_p0_5), (26, .int .i64 (p0_5.length : Int)), (27, .int .i64 s_5), (35, .slice a_p0_5 p0_5.length c_p0_5), (36, .int .i64 (p0_5.length : Int)), (37, .int .i64 s_17), (71, .slice a6 ((y_2).length) c7), (72, .int .i64 s_5)] rfl ⟨rfl, rfl, rfl, rfl, rfl, rfl, rfl, rfl, rfl, rfl, rfl, rfl, rfl, rfl, rfl, rfl, rfl, trivial⟩ ?_
                  obtain ⟨v_23, hy64, hx56⟩ := bind_some hx56
                  obtain ⟨hc65, hy64⟩ := ix_some hy64
                  refine WO_index tbok rfl rfl rfl rfl rfl rfl rfl rfl (OwnE.addr hL37) (by simpa using hc65) ?_
                  refine WO_loadO (E := (I1 .i64)) tbok (fun _ => rfl) 2 rfl rfl rfl rfl (fun _ h => h) hL37 rfl hy64 rfl ?_
                  refine WO_pure tbok 2 [(1, .pointer (some ⟨b1, 0, none⟩)), (2, .pointer (some ⟨b2, 0, none⟩)), (3, .int .i64 0), (5, .slice a6 ((y_2).length) c7), (6, .bool s_4), (7, .int .i64 s_5), (9, .int .i64 s_16), (11, .int .i64 v_19), (14, .int .i64 (w64 ((if (w64 ((Int.tmod s_5 p0_3) - (Int.tmod s_17 p0_3))) < (w64 (0 - (w64 ((Int.tmod s_5 p0_3) - (Int.tmod s_17 p0_3))))) then (w64 (0 - (w64 ((Int.tmod s_5 p0_3) - (Int.tmod s_17 p0_3))))) else (w64 ((Int.tmod s_5 p0_3) - (Int.tmod s_17 p0_3)))) + (if (w64 ((w64 (Int.tdiv s_5 p0_3)) - (w64 (Int.tdiv s_17 p0_3)))) < (w64 (0 - (w64 ((w64 (Int.tdiv s_5 p0_3)) - (w64 (Int.tdiv s_17 p0_3)))))) then (w64 (0 - (w64 ((w64 (Int.tdiv s_5 p0_3)) - (w64 (Int.tdiv s_17 p0_3)))))) else (w64 ((w64 (Int.tdiv s_5 p0_3)) - (w64 (Int.tdiv s_17 p0_3)))))))), (25, .slice a_p0_5 p0_5.length c_p0_5), (26, .int .i64 (p0_5.length : Int)), (27, .int .i64 s_5), (35, .slice a_p0_5 p0_5.length c_p0_5), (36, .int .i64 (p0_5.length : Int)), (37, .int .i64 s_17), (76, .bool (v_23 == (-2147483648)))] rfl ⟨rfl, rfl, rfl, rfl, rfl, rfl, rfl, rfl, rfl, rfl, rfl, rfl, rfl, rfl, rfl, rfl, trivial⟩ ?_
                  refine WO_split (d := 76) (b := v_23 == (-2147483648)) rfl (fun hb66 => ?_) (fun hb66 => ?_)
                  · have hx56 := ifT hb66 hx56
                    refine WO_pure tbok 17 [(1, .pointer (some ⟨b1, 0, none⟩)), (2, .pointer (some ⟨b2, 0, none⟩)), (3, .int .i64 0), (5, .slice a6 ((y_2).length) c7), (6, .bool s_4), (7, .int .i64 s_5), (9, .int .i64 s_16), (11, .int .i64 v_19), (14, .int .i64 (w64 ((if (w64 ((Int.tmod s_5 p0_3) - (Int.tmod s_17 p0_3))) < (w64 (0 - (w64 ((Int.tmod s_5 p0_3) - (Int.tmod s_17 p0_3))))) then (w64 (0 - (w64 ((Int.tmod s_5 p0_3) - (Int.tmod s_17 p0_3))))) else (w64 ((Int.tmod s_5 p0_3) - (Int.tmod s_17 p0_3)))) + (if (w64 ((w64 (Int.tdiv s_5 p0_3)) - (w64 (Int.tdiv s_17 p0_3)))) < (w64 (0 - (w64 ((w64 (Int.tdiv s_5 p0_3)) - (w64 (Int.tdiv s_17 p0_3)))))) then (w64 (0 - (w64 ((w64 (Int.tdiv s_5 p0_3)) - (w64 (Int.tdiv s_17 p0_3)))))) else (w64 ((w64 (Int.tdiv s_5 p0_3)) - (w64 (Int.tdiv s_17 p0_3)))))))), (25, .slice a_p0_5 p0_5.length c_p0_5), (26, .int .i64 (p0_5.length : Int)), (27, .int .i64 s_5), (35, .slice a_p0_5 p0_5.length c_p0_5), (36, .int .i64 (p0_5.length : Int)), (37, .int .i64 s_17), (93, .bool true)] rfl ⟨rfl, rfl, rfl, rfl, rfl, rfl, rfl, rfl, rfl, rfl, rfl, rfl, rfl, rfl, rfl, rfl, trivial⟩ ?_
                    refine WO_end ?_
                    cases hx56
                    refine WK.sub ?_ (WK.cls (fun _ h => h) hk57)
                    exact ⟨rfl, rfl, rfl, rfl, rfl, rfl, rfl, rfl, rfl, rfl, rfl, rfl, rfl, rfl, rfl, rfl, trivial⟩
                  · have hx56 := ifF hb66 hx56
                    refine WO_pure tbok 5 [(1, .pointer (some ⟨b1, 0, none⟩)), (2, .pointer (some ⟨b2, 0, none⟩)), (3, .int .i64 0), (5, .slice a6 ((y_2).length) c7), (6, .bool s_4), (7, .int .i64 s_5), (9, .int .i64 s_16), (11, .int .i64 v_19), (14, .int .i64 (w64 ((if (w64 ((Int.tmod s_5 p0_3) - (Int.tmod s_17 p0_3))) < (w64 (0 - (w64 ((Int.tmod s_5 p0_3) - (Int.tmod s_17 p0_3))))) then (w64 (0 - (w64 ((Int.tmod s_5 p0_3) - (Int.tmod s_17 p0_3))))) else (w64 ((Int.tmod s_5 p0_3) - (Int.tmod s_17 p0_3)))) + (if (w64 ((w64 (Int.tdiv s_5 p0_3)) - (w64 (Int.tdiv s_17 p0_3)))) < (w64 (0 - (w64 ((w64 (Int.tdiv s_5 p0_3)) - (w64 (Int.tdiv s_17 p0_3)))))) then (w64 (0 - (w64 ((w64 (Int.tdiv s_5 p0_3)) - (w64 (Int.tdiv s_17 p0_3)))))) else (w64 ((w64 (Int.tdiv s_5 p0_3)) - (w64 (Int.tdiv s_17 p0_3)))))))), (25, .slice a_p0_5 p0_5.length c_p0_5), (26, .int .i64 (p0_5.length : Int)), (27, .int .i64 s_5), (35, .slice a_p0_5 p0_5.length c_p0_5), (36, .int .i64 (p0_5.length : Int)), (37, .int .i64 s_17), (81, .bool (decide ((w64 ((if (w64 ((Int.tmod s_5 p0_3) - (Int.tmod s_17 p0_3))) < (w64 (0 - (w64 ((Int.tmod s_5 p0_3) - (Int.tmod s_17 p0_3))))) then (w64 (0 - (w64 ((Int.tmod s_5 p0_3) - (Int.tmod s_17 p0_3))))) else (w64 ((Int.tmod s_5 p0_3) - (Int.tmod s_17 p0_3)))) + (if (w64 ((w64 (Int.tdiv s_5 p0_3)) - (w64 (Int.tdiv s_17 p0_3)))) < (w64 (0 - (w64 ((w64 (Int.tdiv s_5 p0_3)) - (w64 (Int.tdiv s_17 p0_3)))))) then (w64 (0 - (w64 ((w64 (Int.tdiv s_5 p0_3)) - (w64 (Int.tdiv s_17 p0_3)))))) else (w64 ((w64 (Int.tdiv s_5 p0_3)) - (w64 (Int.tdiv s_17 p0_3))))))) < s_16)))] rfl ⟨rfl, rfl, rfl, rfl, rfl, rfl, rfl, rfl, rfl, rfl, rfl, rfl, rfl, rfl, rfl, rfl, trivial⟩ ?_
                    refine WO_split (d := 81) (b := decide ((w64 ((if (w64 ((Int.tmod s_5 p0_3) - (Int.tmod s_17 p0_3))) < (w64 (0 - (w64 ((Int.tmod s_5 p0_3) - (Int.tmod s_17 p0_3))))) then (w64 (0 - (w64 ((Int.tmod s_5 p0_3) - (Int.tmod s_17 p0_3))))) else (w64 ((Int.tmod s_5 p0_3) - (Int.tmod s_17 p0_3)))) + (if (w64 ((w64 (Int.tdiv s_5 p0_3)) - (w64 (Int.tdiv s_17 p0_3)))) < (w64 (0 - (w64 ((w64 (Int.tdiv s_5 p0_3)) - (w64 (Int.tdiv s_17 p0_3)))))) then (w64 (0 - (w64 ((w64 (Int.tdiv s_5 p0_3)) - (w64 (Int.tdiv s_17 p0_3)))))) else (w64 ((w64 (Int.tdiv s_5 p0_3)) - (w64 (Int.tdiv s_17 p0_3))))))) < s_16)) rfl (fun hb67 => ?_) (fun hb67 => ?_)
                    · have hx56 := ifT hb67 hx56
                      refine WO_pure tbok 12 [(1, .pointer (some ⟨b1, 0, none⟩)), (2, .pointer (some ⟨b2, 0, none⟩)), (3, .int .i64 0), (5, .slice a6 ((y_2).length) c7), (6, .bool s_4), (7, .int .i64 s_5), (9, .int .i64 s_16), (11, .int .i64 v_19), (14, .int .i64 (w64 ((if (w64 ((Int.tmod s_5 p0_3) - (Int.tmod s_17 p0_3))) < (w64 (0 - (w64 ((Int.tmod s_5 p0_3) - (Int.tmod s_17 p0_3))))) then (w64 (0 - (w64 ((Int.tmod s_5 p0_3) - (Int.tmod s_17 p0_3))))) else (w64 ((Int.tmod s_5 p0_3) - (Int.tmod s_17 p0_3)))) + (if (w64 ((w64 (Int.tdiv s_5 p0_3)) - (w64 (Int.tdiv s_17 p0_3)))) < (w64 (0 - (w64 ((w64 (Int.tdiv s_5 p0_3)) - (w64 (Int.tdiv s_17 p0_3)))))) then (w64 (0 - (w64 ((w64 (Int.tdiv s_5 p0_3)) - (w64 (Int.tdiv s_17 p0_3)))))) else (w64 ((w64 (Int.tdiv s_5 p0_3)) - (w64 (Int.tdiv s_17 p0_3)))))))), (25, .slice a_p0_5 p0_5.length c_p0_5), (26, .int .i64 (p0_5.length : Int)), (27, .int .i64 s_5), (35, .slice a_p0_5 p0_5.length c_p0_5), (36, .int .i64 (p0_5.length : Int)), (37, .int .i64 s_17), (93, .bool true)] rfl ⟨rfl, rfl, rfl, rfl, rfl, rfl, rfl, rfl, rfl, rfl, rfl, rfl, rfl, rfl, rfl, rfl, trivial⟩ ?_
                      refine WO_end ?_
                      cases hx56
                      refine WK.sub ?_ (WK.cls (fun _ h => h) hk57)
                      exact ⟨rfl, rfl, rfl, rfl, rfl, rfl, rfl, rfl, rfl, rfl, rfl, rfl, rfl, rfl, rfl, rfl, trivial⟩
                    · have hx56 := ifF hb67 hx56
                      refine WO_pure tbok 4 [(1, .pointer (some ⟨b1, 0, none⟩)), (2, .pointer (some ⟨b2, 0, none⟩)), (3, .int .i64 0), (5, .slice a6 ((y_2).length) c7), (6, .bool s_4), (7, .int .i64 s_5), (9, .int .i64 s_16), (11, .int .i64 v_19), (14, .int .i64 (w64 ((if (w64 ((Int.tmod s_5 p0_3) - (Int.tmod s_17 p0_3))) < (w64 (0 - (w64 ((Int.tmod s_5 p0_3) - (Int.tmod s_17 p0_3))))) then (w64 (0 - (w64 ((Int.tmod s_5 p0_3) - (Int.tmod s_17 p0_3))))) else (w64 ((Int.tmod s_5 p0_3) - (Int.tmod s_17 p0_3)))) + (if (w64 ((w64 (Int.tdiv s_5 p0_3)) - (w64 (Int.tdiv s_17 p0_3)))) < (w64 (0 - (w64 ((w64 (Int.tdiv s_5 p0_3)) - (w64 (Int.tdiv s_17 p0_3)))))) then (w64 (0 - (w64 ((w64 (Int.tdiv s_5 p0_3)) - (w64 (Int.tdiv s_17 p0_3)))))) else (w64 ((w64 (Int.tdiv s_5 p0_3)) - (w64 (Int.tdiv s_17 p0_3)))))))), (25, .slice a_p0_5 p0_5.length c_p0_5), (26, .int .i64 (p0_5.length : Int)), (27, .int .i64 s_5), (35, .slice a_p0_5 p0_5.length c_p0_5), (36, .int .i64 (p0_5.length : Int)), (37, .int .i64 s_17), (81, .bool false), (85, .bool ((w64 ((if (w64 ((Int.tmod s_5 p0_3) - (Int.tmod s_17 p0_3))) < (w64 (0 - (w64 ((Int.tmod s_5 p0_3) - (Int.tmod s_17 p0_3))))) then (w64 (0 - (w64 ((Int.tmod s_5 p0_3) - (Int.tmod s_17 p0_3))))) else (w64 ((Int.tmod s_5 p0_3) - (Int.tmod s_17 p0_3)))) + (if (w64 ((w64 (Int.tdiv s_5 p0_3)) - (w64 (Int.tdiv s_17 p0_3)))) < (w64 (0 - (w64 ((w64 (Int.tdiv s_5 p0_3)) - (w64 (Int.tdiv s_17 p0_3)))))) then (w64 (0 - (w64 ((w64 (Int.tdiv s_5 p0_3)) - (w64 (Int.tdiv s_17 p0_3)))))) else (w64 ((w64 (Int.tdiv s_5 p0_3)) - (w64 (Int.tdiv s_17 p0_3))))))) == s_16))] rfl ⟨rfl, rfl, rfl, rfl, rfl, rfl, rfl, rfl, rfl, rfl, rfl, rfl, rfl, rfl, rfl, rfl, rfl, trivial⟩ ?_
                      refine WO_split (d := 85) (b := (w64 ((if (w64 ((Int.tmod s_5 p0_3) - (Int.tmod s_17 p0_3))) < (w64 (0 - (w64 ((Int.tmod s_5 p0_3) - (Int.tmod s_17 p0_3))))) then (w64 (0 - (w64 ((Int.tmod s_5 p0_3) - (Int.tmod s_17 p0_3))))) else (w64 ((Int.tmod s_5 p0_3) - (Int.tmod s_17 p0_3)))) + (if (w64 ((w64 (Int.tdiv s_5 p0_3)) - (w64 (Int.tdiv s_17 p0_3)))) < (w64 (0 - (w64 ((w64 (Int.tdiv s_5 p0_3)) - (w64 (Int.tdiv s_17 p0_3)))))) then (w64 (0 - (w64 ((w64 (Int.tdiv s_5 p0_3)) - (w64 (Int.tdiv s_17 p0_3)))))) else (w64 ((w64 (Int.tdiv s_5 p0_3)) - (w64 (Int.tdiv s_17 p0_3))))))) == s_16) rfl (fun hb68 => ?_) (fun hb68 => ?_)
                      · have hx56 := ifT hb68 hx56
                        refine WO_pure tbok 3 [(1, .pointer (some ⟨b1, 0, none⟩)), (2, .pointer (some ⟨b2, 0, none⟩)), (3, .int .i64 0), (5, .slice a6 ((y_2).length) c7), (6, .bool s_4), (7, .int .i64 s_5), (9, .int .i64 s_16), (11, .int .i64 v_19), (14, .int .i64 (w64 ((if (w64 ((Int.tmod s_5 p0_3) - (Int.tmod s_17 p0_3))) < (w64 (0 - (w64 ((Int.tmod s_5 p0_3) - (Int.tmod s_17 p0_3))))) then (w64 (0 - (w64 ((Int.tmod s_5 p0_3) - (Int.tmod s_17 p0_3))))) else (w64 ((Int.tmod s_5 p0_3) - (Int.tmod s_17 p0_3)))) + (if (w64 ((w64 (Int.tdiv s_5 p0_3)) - (w64 (Int.tdiv s_17 p0_3)))) < (w64 (0 - (w64 ((w64 (Int.tdiv s_5 p0_3)) - (w64 (Int.tdiv s_17 p0_3)))))) then (w64 (0 - (w64 ((w64 (Int.tdiv s_5 p0_3)) - (w64 (Int.tdiv s_17 p0_3)))))) else (w64 ((w64 (Int.tdiv s_5 p0_3)) - (w64 (Int.tdiv s_17 p0_3)))))))), (25, .slice a_p0_5 p0_5.length c_p0_5), (26, .int .i64 (p0_5.length : Int)), (27, .int .i64 s_5), (35, .slice a_p0_5 p0_5.length c_p0_5), (36, .int .i64 (p0_5.length : Int)), (37, .int .i64 s_17), (81, .bool false), (85, .bool true), (86, .int .i64 v_19), (87, .slice a6 ((y_2).length) c7), (88, .int .i64 s_5)] rfl ⟨rfl, rfl, rfl, rfl, rfl, rfl, rfl, rfl, rfl, rfl, rfl, rfl, rfl, rfl, rfl, rfl, rfl, rfl, rfl, rfl, trivial⟩ ?_
                        obtain ⟨v_24, hy69, hx56⟩ := bind_some hx56
                        obtain ⟨hc70, hy69⟩ := ix_some hy69
                        refine WO_index tbok rfl rfl rfl rfl rfl rfl rfl rfl (OwnE.addr hL37) (by simpa using hc70) ?_
                        refine WO_loadO (E := (I1 .i64)) tbok (fun _ => rfl) 2 rfl rfl rfl rfl (fun _ h => h) hL37 rfl hy69 rfl ?_
                        refine WO_pure tbok 3 [(1, .pointer (some ⟨b1, 0, none⟩)), (2, .pointer (some ⟨b2, 0, none⟩)), (3, .int .i64 0), (5, .slice a6 ((y_2).length) c7), (6, .bool s_4), (7, .int .i64 s_5), (9, .int .i64 s_16), (11, .int .i64 v_19), (14, .int .i64 (w64 ((if (w64 ((Int.tmod s_5 p0_3) - (Int.tmod s_17 p0_3))) < (w64 (0 - (w64 ((Int.tmod s_5 p0_3) - (Int.tmod s_17 p0_3))))) then (w64 (0 - (w64 ((Int.tmod s_5 p0_3) - (Int.tmod s_17 p0_3))))) else (w64 ((Int.tmod s_5 p0_3) - (Int.tmod s_17 p0_3)))) + (if (w64 ((w64 (Int.tdiv s_5 p0_3)) - (w64 (Int.tdiv s_17 p0_3)))) < (w64 (0 - (w64 ((w64 (Int.tdiv s_5 p0_3)) - (w64 (Int.tdiv s_17 p0_3)))))) then (w64 (0 - (w64 ((w64 (Int.tdiv s_5 p0_3)) - (w64 (Int.tdiv s_17 p0_3)))))) else (w64 ((w64 (Int.tdiv s_5 p0_3)) - (w64 (Int.tdiv s_17 p0_3)))))))), (25, .slice a_p0_5 p0_5.length c_p0_5), (26, .int .i64 (p0_5.length : Int)), (27, .int .i64 s_5), (35, .slice a_p0_5 p0_5.length c_p0_5), (36, .int .i64 (p0_5.length : Int)), (37, .int .i64 s_17), (93, .bool (decide (v_19 < v_24)))] rfl ⟨rfl, rfl, rfl, rfl, rfl, rfl, rfl, rfl, rfl, rfl, rfl, rfl, rfl, rfl, rfl, rfl, trivial⟩ ?_
                        refine WO_end ?_
                        cases hx56
                        refine WK.sub ?_ (WK.cls (fun _ h => h) hk57)
                        exact ⟨rfl, rfl, rfl, rfl, rfl, rfl, rfl, rfl, rfl, rfl, rfl, rfl, rfl, rfl, rfl, rfl, trivial⟩
                      · have hx56 := ifF hb68 hx56
                        refine WO_pure tbok 8 [(1, .pointer (some ⟨b1, 0, none⟩)), (2, .pointer (some ⟨b2, 0, none⟩)), (3, .int .i64 0), (5, .slice a6 ((y_2).length) c7), (6, .bool s_4), (7, .int .i64 s_5), (9, .int .i64 s_16), (11, .int .i64 v_19), (14, .int .i64 (w64 ((if (w64 ((Int.tmod s_5 p0_3) - (Int.tmod s_17 p0_3))) < (w64 (0 - (w64 ((Int.tmod s_5 p0_3) - (Int.tmod s_17 p0_3))))) then (w64 (0 - (w64 ((Int.tmod s_5 p0_3) - (Int.tmod s_17 p0_3))))) else (w64 ((Int.tmod s_5 p0_3) - (Int.tmod s_17 p0_3)))) + (if (w64 ((w64 (Int.tdiv s_5 p0_3)) - (w64 (Int.tdiv s_17 p0_3)))) < (w64 (0 - (w64 ((w64 (Int.tdiv s_5 p0_3)) - (w64 (Int.tdiv s_17 p0_3)))))) then (w64 (0 - (w64 ((w64 (Int.tdiv s_5 p0_3)) - (w64 (Int.tdiv s_17 p0_3)))))) else (w64 ((w64 (Int.tdiv s_5 p0_3)) - (w64 (Int.tdiv s_17 p0_3)))))))), (25, .slice a_p0_5 p0_5.length c_p0_5), (26, .int .i64 (p0_5.length : Int)), (27, .int .i64 s_5), (35, .slice a_p0_5 p0_5.length c_p0_5), (36, .int .i64 (p0_5.length : Int)), (37, .int .i64 s_17), (93, .bool false)] rfl ⟨rfl, rfl, rfl, rfl, rfl, rfl, rfl, rfl, rfl, rfl, rfl, rfl, rfl, rfl, rfl, rfl, trivial⟩ ?_
                        refine WO_end ?_
                        cases hx56
                        refine WK.sub ?_ (WK.cls (fun _ h => h) hk57)
                        exact ⟨rfl, rfl, rfl, rfl, rfl, rfl, rfl, rfl, rfl, rfl, rfl, rfl, rfl, rfl, rfl, rfl, trivial⟩
            · have hm42 := ifF hb48 hm42
              refine WK_exit rfl ?_
              cases hm42
              refine WK.sub ?_ (WK.cls (fun _ h => h) (hk41 (l_15, L37) ⟨(hd46 _ rfl), hL37⟩))
              exact ⟨rfl, rfl, rfl, rfl, rfl, rfl, rfl, rfl, trivial⟩
      · have hm15 := ifF hb33 hm15
        refine WK_exit rfl ?_
        cases hm15
        refine WK.sub ?_ (WK.cls (fun _ h => h) (hk14 ((l_3, s_4), L10) ⟨(hd19 _ rfl), hL10⟩))
        exact ⟨rfl, rfl, rfl, rfl, rfl, trivial⟩
theorem slices_IndexFunc_sapi_Spot_walk {m : Mu} {p0 : List (Int × Int × Int)} {p1 : Int → Int → Int → Option Bool} {a_p0 : Option Addr} {q_p0 c_p0 : Nat} {p1v : Value} (h_p0 : SlR (FE T3) 3 m (.slice a_p0 q_p0 c_p0) p0) (hp1 : ∀ (m1 : Mu), Le m m1 → ∀ (u1 : Int), ∀ (u2 : Int), ∀ (u3 : Int), ∀ (r : Bool), p1 u1 u2 u3 = some r → SpecV Try.prog p1v [.agg #[.int .i64 u1, .int .i64 u2, .int .i64 u3]] m1 (fun v _ _ => v = .bool r)) {r : Int} (hm : slices_IndexFunc_sapi_Spot p0 p1 = some r) :
    Go.E.Spec Try.prog 57 [.slice a_p0 q_p0 c_p0, p1v] m (fun v _ _ => v = .int .i64 r) := by
  refine Spec_enter Try.func57 rfl rfl rfl (fun w0 => ?_)
  refine WK.sub (e' := [(0, .slice a_p0 q_p0 c_p0), (1, p1v)]) ⟨rfl, rfl, trivial⟩ ?_
  obtain rfl := SlR.qlen h_p0
  refine WK.sub (e' := [(0, .slice a_p0 p0.length c_p0), (1, p1v)]) ⟨rfl, rfl, trivial⟩ ?_
  unfold slices_IndexFunc_sapi_Spot at hm
  refine WK_seq ?_
  refine WK_region ?_
  refine WO_pure tbok 1 [(0, .slice a_p0 p0.length c_p0), (1, p1v), (4, .int .i64 0)] rfl ⟨rfl, rfl, rfl, trivial⟩ ?_
  refine WO_end ?_
  refine WK_seq ?_
  refine WK_seq ?_
  refine WK_region ?_
  refine WO_pure tbok 3 [(0, .slice a_p0 p0.length c_p0), (1, p1v), (4, .int .i64 0), (7, .int .i64 (p0.length : Int)), (8, .int .i64 0)] rfl ⟨rfl, rfl, rfl, rfl, rfl, trivial⟩ ?_
  refine WO_end ?_
  obtain ⟨x1, hx2, hm⟩ := bind_some hm
  refine WK_join (β := Unit × Unit) (fun p => Sum.inr p.1 = x1) (fun p => [(4, .int .i64 0)]) (fun p => St w0 m m []) ?_ (fun hk3 => ?_)
  · rintro ⟨⟨⟩, ⟨⟩⟩ hq9
    subst hq9
    refine WK.sub (e' := [(4, .int .i64 0)]) ⟨rfl, trivial⟩ (WK.cls (C' := St w0 m m []) (fun _ h => h) ?_)
    refine WK_seq ?_
    refine WK_region ?_
    refine WO_pure tbok 1 [(4, .int .i64 (-1))] rfl ⟨rfl, trivial⟩ ?_
    refine WO_end ?_
    cases hm
    exact WK_ret (ret_out (L := []) (RLc_tmp rfl RLc_nil) (List.nil_sublist _) rfl)
  · refine WK_block ?_
    refine WK_loop (S := Int) (G := Unit) (fun s => slices_IndexFunc_sapi_Spot_s1 p0 p1 s) (fun s g => [(0, .slice a_p0 p0.length c_p0), (1, p1v), (4, .int .i64 0), (7, .int .i64 (p0.length : Int)), (8, .int .i64 s)]) (fun s g => St w0 m m []) (fun s g => True) FUEL 0 () x1 hx2 trivial ⟨rfl, rfl, rfl, rfl, rfl, trivial⟩ (fun _ h => h) ?_
    rintro s_1 ⟨⟩ o5 fl6 hm4 - hn7 hd8
    have hm4 : slices_IndexFunc_sapi_Spot_s1 p0 p1 s_1 = some o5 := hm4
    unfold slices_IndexFunc_sapi_Spot_s1 at hm4
    refine WK.sub (e' := [(0, .slice a_p0 p0.length c_p0), (1, p1v), (4, .int .i64 0), (7, .int .i64 (p0.length : Int)), (8, .int .i64 s_1)]) ⟨rfl, rfl, rfl, rfl, rfl, trivial⟩ (WK.cls (C' := St w0 m m []) (fun _ h => h) ?_)
    refine WK_seq ?_
    refine WK_region ?_
    refine WO_pure tbok 1 [(0, .slice a_p0 p0.length c_p0), (1, p1v), (4, .int .i64 0), (7, .int .i64 (p0.length : Int)), (8, .int .i64 s_1), (9, .bool (decide (s_1 < (p0.length : Int))))] rfl ⟨rfl, rfl, rfl, rfl, rfl, rfl, trivial⟩ ?_
    refine WO_end ?_
    refine WK_seq ?_
    refine WK_cond (b := decide (s_1 < (p0.length : Int))) rfl (fun hb10 => ?_) (fun hb10 => ?_)
    · have hm4 := ifT hb10 hm4
      refine WK_skip ?_
      refine WK_seq ?_
      refine WK_block ?_
      refine WK_seq ?_
      refine WK_region ?_
      refine WO_pure tbok 2 [(0, .slice a_p0 p0.length c_p0), (1, p1v), (4, .int .i64 0), (5, .int .i64 s_1), (7, .int .i64 (p0.length : Int)), (8, .int .i64 s_1)] rfl ⟨rfl, rfl, rfl, rfl, rfl, rfl, trivial⟩ ?_
      refine WO_end ?_
      refine WK_seq ?_
      refine WK_region ?_
      refine WO_pure tbok 3 [(0, .slice a_p0 p0.length c_p0), (1, p1v), (4, .int .i64 0), (5, .int .i64 s_1), (7, .int .i64 (p0.length : Int)), (8, .int .i64 s_1), (11, p1v), (12, .slice a_p0 p0.length c_p0), (13, .int .i64 s_1)] rfl ⟨rfl, rfl, rfl, rfl, rfl, rfl, rfl, rfl, rfl, trivial⟩ ?_
      obtain ⟨v_2, hy11, hm4⟩ := bind_some hm4
      obtain ⟨hc12, hy11⟩ := ix_some hy11
      refine WO_index tbok rfl rfl rfl rfl rfl rfl rfl rfl (SlR.addr h_p0) hc12 ?_
      refine WO_loadE tbok rfl rfl rfl rfl (fun _ h => St.sat h) h_p0 hy11 rfl ?_
      obtain ⟨y_3, hc13, hm4⟩ := bind_some hm4
      obtain ⟨f0, first0, cap0, hf0, hcal0, hsp0⟩ := hp1 _ (Le.refl _) v_2.1 v_2.2.1 v_2.2.2 _ hc13
      refine WO_call0 (.bool y_3) rfl rfl trivial rfl rfl rfl rfl St_closed ⟨f0, first0, cap0, hf0, hcal0, fun w hw => ⟨m, hw.sat, hsp0⟩⟩ ?_
      refine WO_end ?_
      refine WK_cond (b := y_3) rfl (fun hb14 => ?_) (fun hb14 => ?_)
      · have hm4 := ifT hb14 hm4
        refine WK_seq ?_
        refine WK_region ?_
        refine WO_pure tbok 2 [(0, .slice a_p0 p0.length c_p0), (1, p1v), (4, .int .i64 s_1), (7, .int .i64 (p0.length : Int)), (8, .int .i64 s_1)] rfl ⟨rfl, rfl, rfl, rfl, rfl, trivial⟩ ?_
        refine WO_end ?_
        cases hm4
        have hq := hd8 _ rfl
        subst hq
        have hm : some _ = some _ := hm
        cases hm
        exact WK_ret (ret_out (L := []) (RLc_tmp rfl RLc_nil) (List.nil_sublist _) rfl)
      · have hm4 := ifF hb14 hm4
        refine WK_skip ?_
        refine WK_blk ?_
        refine WK_region ?_
        refine WO_pure tbok 2 [(0, .slice a_p0 p0.length c_p0), (1, p1v), (4, .int .i64 0), (7, .int .i64 (p0.length : Int)), (8, .int .i64 (w64 (s_1 + 1)))] rfl ⟨rfl, rfl, rfl, rfl, rfl, trivial⟩ ?_
        refine WO_end ?_
        cases hm4
        refine WK.sub ?_ (WK.cls (fun _ h => h) (hn7 _ () rfl trivial))
        exact ⟨rfl, rfl, rfl, rfl, rfl, trivial⟩
    · have hm4 := ifF hb10 hm4
      refine WK_exit rfl ?_
      cases hm4
      refine WK.sub ?_ (WK.cls (fun _ h => h) (hk3 ((), ()) (hd8 _ rfl)))
      exact ⟨rfl, trivial⟩
theorem slices_ContainsFunc_sapi_Spot_walk {m : Mu} {p0 : List (Int × Int × Int)} {p1 : Int → Int → Int → Option Bool} {a_p0 : Option Addr} {q_p0 c_p0 : Nat} {p1v : Value} (h_p0 : SlR (FE T3) 3 m (.slice a_p0 q_p0 c_p0) p0) (hp1 : ∀ (m1 : Mu), Le m m1 → ∀ (u1 : Int), ∀ (u2 : Int), ∀ (u3 : Int), ∀ (r : Bool), p1 u1 u2 u3 = some r → SpecV Try.prog p1v [.agg #[.int .i64 u1, .int .i64 u2, .int .i64 u3]] m1 (fun v _ _ => v = .bool r)) {r : Bool} (hm : slices_ContainsFunc_sapi_Spot p0 p1 = some r) :
    Go.E.Spec Try.prog 39 [.slice a_p0 q_p0 c_p0, p1v] m (fun v _ _ => v = .bool r) := by
  refine Spec_enter Try.func39 rfl rfl rfl (fun w0 => ?_)
  refine WK.sub (e' := [(0, .slice a_p0 q_p0 c_p0), (1, p1v)]) ⟨rfl, rfl, trivial⟩ ?_
  obtain rfl := SlR.qlen h_p0
  refine WK.sub (e' := [(0, .slice a_p0 p0.length c_p0), (1, p1v)]) ⟨rfl, rfl, trivial⟩ ?_
  unfold slices_ContainsFunc_sapi_Spot at hm
  refine WK_seq ?_
  refine WK_region ?_
  refine WO_pure tbok 1 [(0, .slice a_p0 p0.length c_p0), (1, p1v), (4, .bool false)] rfl ⟨rfl, rfl, rfl, trivial⟩ ?_
  refine WO_end ?_
  refine WK_seq ?_
  refine WK_region ?_
  refine WO_pure tbok 2 [(4, .bool false), (5, .slice a_p0 p0.length c_p0), (6, p1v)] rfl ⟨rfl, rfl, rfl, trivial⟩ ?_
  obtain ⟨y_1, hc1, hm⟩ := bind_some hm
  refine WO_call0 (.int .i64 y_1) rfl rfl trivial rfl rfl rfl rfl St_closed ⟨57, #[], #[], rfl, callable_57, fun w hw => ⟨_, hw.sat, slices_IndexFunc_sapi_Spot_walk h_p0 hp1 hc1⟩⟩ ?_
  refine WO_pure tbok 2 [(4, .bool (decide (0 ≤ y_1)))] rfl ⟨rfl, trivial⟩ ?_
  refine WO_end ?_
  cases hm
  exact WK_ret (ret_out (L := []) (RLc_tmp rfl RLc_nil) (List.nil_sublist _) rfl)
theorem terrain_Surface_c1_walk {m : Mu} {p0_0 : Int} {p0_1 : Int} {p0_2 : Int}   {r : Bool} (hm : terrain_Surface_c1 p0_0 p0_1 p0_2 = some r) :
    Go.E.Spec Try.prog 40 [.agg #[.int .i64 p0_0, .int .i64 p0_1, .int .i64 p0_2]] m (fun v _ _ => v = .bool r) := by
  refine Spec_enter Try.func40 rfl rfl rfl (fun w0 => ?_)
  refine WK.sub (e' := [(0, .agg #[.int .i64 p0_0, .int .i64 p0_1, .int .i64 p0_2])]) ⟨rfl, trivial⟩ ?_
  refine WK.sub (e' := [(0, .agg #[.int .i64 p0_0, .int .i64 p0_1, .int .i64 p0_2])]) ⟨rfl, trivial⟩ ?_
  unfold terrain_Surface_c1 at hm
  refine WK_seq ?_
  refine WK_region ?_
  refine WO_box [.int .i64 p0_0, .int .i64 p0_1, .int .i64 p0_2] rfl rfl trivial rfl rfl rfl (fun b1 => ?_)
  refine WO.cls (C' := St w0 m m [[⟨b1, 60, [.int .i64 p0_0, .int .i64 p0_1, .int .i64 p0_2]⟩]]) (fun _ h => h) ?_
  refine WO_pure tbok 1 [(1, .pointer (some ⟨b1, 0, none⟩)), (2, .bool false)] rfl ⟨rfl, rfl, trivial⟩ ?_
  refine WO_end ?_
  refine WK_seq ?_
  refine WK_region ?_
  refine WO_pure tbok 1 [(1, .pointer (some ⟨b1, 0, none⟩)), (2, .bool false), (3, .pointer (some ⟨b1, 0, none⟩))] rfl ⟨rfl, rfl, rfl, trivial⟩ ?_
  refine WO_loadB tbok 0 rfl rfl rfl rfl (fun _ h => h) rfl rfl ?_
  obtain ⟨y_1, hc2, hm⟩ := bind_some hm
  refine WO_call0 (.bool y_1) rfl rfl trivial rfl rfl rfl rfl St_closed ⟨41, #[], #[], rfl, callable_41, fun w hw => ⟨_, hw.sat, terrain_far_walk hc2⟩⟩ ?_
  refine WO_pure tbok 1 [(1, .pointer (some ⟨b1, 0, none⟩)), (2, .bool false), (6, .bool y_1)] rfl ⟨rfl, rfl, rfl, trivial⟩ ?_
  refine WO_split (d := 6) (b := y_1) rfl (fun hb3 => ?_) (fun hb3 => ?_)
  · have hm := ifT hb3 hm
    refine WO_pure tbok 2 [(1, .pointer (some ⟨b1, 0, none⟩)), (2, .bool false), (6, .bool true)] rfl ⟨rfl, rfl, rfl, trivial⟩ ?_
    refine WO_skip rfl rfl ?_
    refine WO_pure tbok 4 [(2, .bool false), (11, .bool true)] rfl ⟨rfl, rfl, trivial⟩ ?_
    refine WO_skip rfl rfl ?_
    refine WO_pure tbok 2 [(2, .bool true)] rfl ⟨rfl, trivial⟩ ?_
    refine WO_end ?_
    cases hm
    exact WK_ret (ret_out (L := []) (RLc_tmp rfl RLc_nil) (List.nil_sublist _) rfl)
  · have hm := ifF hb3 hm
    refine WO_pure tbok 1 [(1, .pointer (some ⟨b1, 0, none⟩)), (2, .bool false), (6, .bool false), (7, .pointer (some ⟨b1, 1, none⟩))] rfl ⟨rfl, rfl, rfl, rfl, trivial⟩ ?_
    refine WO_loadB tbok 0 rfl rfl rfl rfl (fun _ h => h) rfl rfl ?_
    obtain ⟨y_2, hc4, hm⟩ := bind_some hm
    refine WO_call0 (.bool y_2) rfl rfl trivial rfl rfl rfl rfl St_closed ⟨41, #[], #[], rfl, callable_41, fun w hw => ⟨_, hw.sat, terrain_far_walk hc4⟩⟩ ?_
    refine WO_pure tbok 2 [(1, .pointer (some ⟨b1, 0, none⟩)), (2, .bool false), (11, .bool y_2)] rfl ⟨rfl, rfl, rfl, trivial⟩ ?_
    refine WO_split (d := 11) (b := y_2) rfl (fun hb5 => ?_) (fun hb5 => ?_)
    · have hm := ifT hb5 hm
      refine WO_pure tbok 2 [(2, .bool false), (11, .bool true)] rfl ⟨rfl, rfl, trivial⟩ ?_
      refine WO_skip rfl rfl ?_
      refine WO_pure tbok 2 [(2, .bool true)] rfl ⟨rfl, trivial⟩ ?_
      refine WO_end ?_
      cases hm
      exact WK_ret (ret_out (L := []) (RLc_tmp rfl RLc_nil) (List.nil_sublist _) rfl)
    · have hm := ifF hb5 hm
      refine WO_pure tbok 1 [(2, .bool false), (11, .bool false), (12, .pointer (some ⟨b1, 2, none⟩))] rfl ⟨rfl, rfl, rfl, trivial⟩ ?_
      refine WO_loadB tbok 0 rfl rfl rfl rfl (fun _ h => h) rfl rfl ?_
      obtain ⟨y_3, hc6, hm⟩ := bind_some hm
      refine WO_call0 (.bool y_3) rfl rfl trivial rfl rfl rfl rfl St_closed ⟨41, #[], #[], rfl, callable_41, fun w hw => ⟨_, hw.sat, terrain_far_walk hc6⟩⟩ ?_
      refine WO_pure tbok 2 [(2, .bool y_3)] rfl ⟨rfl, trivial⟩ ?_
      refine WO_end ?_
      cases hm
      exact WK_ret (ret_out (L := []) (RLc_tmp rfl RLc_nil) (List.nil_sublist _) rfl)
theorem terrain_cell_walk {m : Mu} {p0 : Int} {p1 : Int} {p2 : Int} {p3 : Int}   {r : Int} (hm : terrain_cell p0 p1 p2 p3 = some r) :
    Go.E.Spec Try.prog 43 [.int .i64 p0, .int .i64 p1, .int .i64 p2, .int .i64 p3] m (fun v _ _ => v = .int .i64 r) := by
  refine Spec_enter Try.func43 rfl rfl rfl (fun w0 => ?_)
  refine WK.sub (e' := [(0, .int .i64 p0), (1, .int .i64 p1), (2, .int .i64 p2), (3, .int .i64 p3)]) ⟨rfl, rfl, rfl, rfl, trivial⟩ ?_
  refine WK.sub (e' := [(0, .int .i64 p0), (1, .int .i64 p1), (2, .int .i64 p2), (3, .int .i64 p3)]) ⟨rfl, rfl, rfl, rfl, trivial⟩ ?_
  unfold terrain_cell at hm
  refine WK_seq ?_
  refine WK_region ?_
  refine WO_pure tbok 1 [(0, .int .i64 p0), (1, .int .i64 p1), (2, .int .i64 p2), (3, .int .i64 p3), (8, .int .i64 0)] rfl ⟨rfl, rfl, rfl, rfl, rfl, trivial⟩ ?_
  refine WO_end ?_
  refine WK_seq ?_
  refine WK_region ?_
  refine WO_pure tbok 7 [(2, .int .i64 p2), (3, .int .i64 p3), (8, .int .i64 0), (9, .int .i64 (w64 ((w64 (p0 - p1)) + (w64 (Int.tdiv p2 2)))))] rfl ⟨rfl, rfl, rfl, rfl, trivial⟩ ?_
  refine WO_end ?_
  refine WK_seq ?_
  refine WK_seq ?_
  obtain ⟨s_1, hx1, hm⟩ := bind_some hm
  refine WK_meet [(2, .int .i64 p2), (8, .int .i64 0), (9, .int .i64 (w64 ((w64 (p0 - p1)) + (w64 (Int.tdiv p2 2))))), (24, .bool s_1)] (St w0 m m []) ?_ (fun hk2 => ?_)
  · refine WK_cond (b := s_1) rfl (fun hb3 => ?_) (fun hb3 => ?_)
    · have hm := ifT hb3 hm
      refine WK_seq ?_
      refine WK_region ?_
      refine WO_pure tbok 1 [(2, .int .i64 p2), (8, .int .i64 (-1)), (9, .int .i64 (w64 ((w64 (p0 - p1)) + (w64 (Int.tdiv p2 2)))))] rfl ⟨rfl, rfl, rfl, trivial⟩ ?_
      refine WO_end ?_
      cases hm
      exact WK_ret (ret_out (L := []) (RLc_tmp rfl RLc_nil) (List.nil_sublist _) rfl)
    · have hm := ifF hb3 hm
      refine WK_skip ?_
      refine WK_seq ?_
      refine WK_region ?_
      refine WO_pure tbok 2 [(8, .int .i64 0), (25, .int .i64 (w64 ((w64 (p0 - p1)) + (w64 (Int.tdiv p2 2))))), (26, .int .i64 p2)] rfl ⟨rfl, rfl, rfl, trivial⟩ ?_
      obtain ⟨hc4, hm⟩ := chk_some hm
      refine WO_quo rfl rfl rfl rfl rfl hc4 ?_
      refine WO_pure tbok 1 [(8, .int .i64 (w64 (Int.tdiv (w64 ((w64 (p0 - p1)) + (w64 (Int.tdiv p2 2)))) p2)))] rfl ⟨rfl, trivial⟩ ?_
      refine WO_end ?_
      cases hm
      exact WK_ret (ret_out (L := []) (RLc_tmp rfl RLc_nil) (List.nil_sublist _) rfl)
  · refine WK_region ?_
    refine WO_pure tbok 3 [(2, .int .i64 p2), (3, .int .i64 p3), (8, .int .i64 0), (9, .int .i64 (w64 ((w64 (p0 - p1)) + (w64 (Int.tdiv p2 2))))), (18, .bool (decide ((w64 ((w64 (p0 - p1)) + (w64 (Int.tdiv p2 2)))) < 0)))] rfl ⟨rfl, rfl, rfl, rfl, rfl, trivial⟩ ?_
    refine WO_split (d := 18) (b := decide ((w64 ((w64 (p0 - p1)) + (w64 (Int.tdiv p2 2)))) < 0)) rfl (fun hb5 => ?_) (fun hb5 => ?_)
    · have hx1 := ifT hb5 hx1
      refine WO_pure tbok 6 [(2, .int .i64 p2), (8, .int .i64 0), (9, .int .i64 (w64 ((w64 (p0 - p1)) + (w64 (Int.tdiv p2 2))))), (24, .bool true)] rfl ⟨rfl, rfl, rfl, rfl, trivial⟩ ?_
      refine WO_end ?_
      cases hx1
      refine WK.sub ?_ (WK.cls (fun _ h => h) hk2)
      exact ⟨rfl, rfl, rfl, rfl, trivial⟩
    · have hx1 := ifF hb5 hx1
      refine WO_pure tbok 2 [(2, .int .i64 p2), (3, .int .i64 p3), (8, .int .i64 0), (9, .int .i64 (w64 ((w64 (p0 - p1)) + (w64 (Int.tdiv p2 2))))), (18, .bool false), (19, .int .i64 (w64 ((w64 (p0 - p1)) + (w64 (Int.tdiv p2 2))))), (20, .int .i64 p2)] rfl ⟨rfl, rfl, rfl, rfl, rfl, rfl, rfl, trivial⟩ ?_
      obtain ⟨hc6, hx1⟩ := chk_some hx1
      refine WO_quo rfl rfl rfl rfl rfl hc6 ?_
      refine WO_pure tbok 3 [(2, .int .i64 p2), (8, .int .i64 0), (9, .int .i64 (w64 ((w64 (p0 - p1)) + (w64 (Int.tdiv p2 2))))), (24, .bool (decide (p3 ≤ (w64 (Int.tdiv (w64 ((w64 (p0 - p1)) + (w64 (Int.tdiv p2 2)))) p2)))))] rfl ⟨rfl, rfl, rfl, rfl, trivial⟩ ?_
      refine WO_end ?_
      cases hx1
      refine WK.sub ?_ (WK.cls (fun _ h => h) hk2)
      exact ⟨rfl, rfl, rfl, rfl, trivial⟩
def terrain_Surface_Q (r : Int × Int × Int × Int × Int × List Int × Int) : Value → Mu → List Ent → Prop := fun v m L => ∃ (a0 : Option Addr) (q0 c0 : Nat), v = .tuple #[.agg #[.int .i64 r.1, .int .i64 r.2.1, .int .i64 r.2.2.1, .int .i64 r.2.2.2.1, .int .i64 r.2.2.2.2.1, .slice a0 q0 c0], .int .i64 r.2.2.2.2.2.2] ∧ SlR (FE (I1 .i64)) 1 m (.slice a0 q0 c0) r.2.2.2.2.2.1
theorem terrain_Surface_walk {m : Mu} {p0 : List (Int × Int × Int)} {p1_0 : Int} {p1_1 : Int} {p1_2 : Int} {p1_3 : Int} {p1_4 : Int} {p1_5 : List Int} {a_p0 : Option Addr} {q_p0 c_p0 : Nat} {a_p1_5 : Option Addr} {q_p1_5 c_p1_5 : Nat} (h_p0 : SlR (FE T3) 3 m (.slice a_p0 q_p0 c_p0) p0) (h_p1_5 : SlR (FE (I1 .i64)) 1 m (.slice a_p1_5 q_p1_5 c_p1_5) p1_5) {r : Int × Int × Int × Int × Int × List Int × Int} (hm : terrain_Surface p0 p1_0 p1_1 p1_2 p1_3 p1_4 p1_5 = some r) :
    Go.E.Spec Try.prog 13 [.slice a_p0 q_p0 c_p0, .agg #[.int .i64 p1_0, .int .i64 p1_1, .int .i64 p1_2, .int .i64 p1_3, .int .i64 p1_4, .slice a_p1_5 q_p1_5 c_p1_5]] m (terrain_Surface_Q r) := by
  refine Spec_enter Try.func13 rfl rfl rfl (fun w0 => ?_)
  refine WK.sub (e' := [(0, .slice a_p0 q_p0 c_p0), (1, .agg #[.int .i64 p1_0, .int .i64 p1_1, .int .i64 p1_2, .int .i64 p1_3, .int .i64 p1_4, .slice a_p1_5 q_p1_5 c_p1_5])]) ⟨rfl, rfl, trivial⟩ ?_
  obtain rfl := SlR.qlen h_p0
  obtain rfl := SlR.qlen h_p1_5
  refine WK.sub (e' := [(0, .slice a_p0 p0.length c_p0), (1, .agg #[.int .i64 p1_0, .int .i64 p1_1, .int .i64 p1_2, .int .i64 p1_3, .int .i64 p1_4, .slice a_p1_5 p1_5.length c_p1_5])]) ⟨rfl, rfl, trivial⟩ ?_
  unfold terrain_Surface at hm
  refine WK_seq ?_
  refine WK_region ?_
  refine WO_box [.int .i64 p1_0, .int .i64 p1_1, .int .i64 p1_2, .int .i64 p1_3, .int .i64 p1_4, .slice a_p1_5 p1_5.length c_p1_5] rfl rfl trivial rfl rfl rfl (fun b1 => ?_)
  refine WO.cls (C' := St w0 m m [[⟨b1, 25, [.int .i64 p1_0, .int .i64 p1_1, .int .i64 p1_2, .int .i64 p1_3, .int .i64 p1_4, .slice a_p1_5 p1_5.length c_p1_5]⟩]]) (fun _ h => h) ?_
  refine WO_alloc tbok [.int .i64 0, .int .i64 0, .int .i64 0, .int .i64 0, .int .i64 0, .slice none 0 0] rfl rfl trivial rfl rfl rfl rfl (fun b2 => ?_)
  refine WO.cls (C' := St w0 m m [[⟨b1, 25, [.int .i64 p1_0, .int .i64 p1_1, .int .i64 p1_2, .int .i64 p1_3, .int .i64 p1_4, .slice a_p1_5 p1_5.length c_p1_5]⟩], [⟨b2, 25, [.int .i64 0, .int .i64 0, .int .i64 0, .int .i64 0, .int .i64 0, .slice none 0 0]⟩]]) (fun _ h => h) ?_
  refine WO_pure tbok 1 [(0, .slice a_p0 p0.length c_p0), (3, .pointer (some ⟨b1, 0, none⟩)), (4, .pointer (some ⟨b2, 0, none⟩)), (5, .int .i64 0)] rfl ⟨rfl, rfl, rfl, rfl, trivial⟩ ?_
  refine WO_end ?_
  refine WK_seq ?_
  refine WK_seq ?_
  refine WK_region ?_
  refine WO_loadB tbok 0 rfl rfl rfl rfl (fun _ h => h) rfl rfl ?_
  obtain ⟨y_1, hc3, hm⟩ := bind_some hm
  refine WO_call0 (.int .i64 y_1) rfl rfl trivial rfl rfl rfl rfl St_closed ⟨16, #[], #[], rfl, callable_16, fun w hw => ⟨_, hw.sat, terrain_Check_walk h_p1_5 hc3⟩⟩ ?_
  refine WO_pure tbok 1 [(0, .slice a_p0 p0.length c_p0), (3, .pointer (some ⟨b1, 0, none⟩)), (4, .pointer (some ⟨b2, 0, none⟩)), (5, .int .i64 0), (6, .int .i64 y_1)] rfl ⟨rfl, rfl, rfl, rfl, rfl, trivial⟩ ?_
  refine WO_end ?_
  refine WK_seq ?_
  refine WK_region ?_
  refine WO_pure tbok 2 [(0, .slice a_p0 p0.length c_p0), (3, .pointer (some ⟨b1, 0, none⟩)), (4, .pointer (some ⟨b2, 0, none⟩)), (5, .int .i64 0), (6, .int .i64 y_1), (16, .bool (y_1 != 0))] rfl ⟨rfl, rfl, rfl, rfl, rfl, rfl, trivial⟩ ?_
  refine WO_end ?_
  refine WK_cond (b := y_1 != 0) rfl (fun hb4 => ?_) (fun hb4 => ?_)
  · have hm := ifT hb4 hm
    refine WK_seq ?_
    refine WK_region ?_
    refine WO_pure tbok 2 [(0, .slice a_p0 p0.length c_p0), (3, .pointer (some ⟨b1, 0, none⟩)), (4, .pointer (some ⟨b2, 0, none⟩)), (5, .int .i64 0), (17, .agg #[.int .i64 0, .int .i64 0, .int .i64 0, .int .i64 0, .int .i64 0, .slice none 0 0]), (18, .int .i64 y_1)] rfl ⟨rfl, rfl, rfl, rfl, rfl, rfl, trivial⟩ ?_
    refine WO_storeB tbok 1 [.int .i64 0, .int .i64 0, .int .i64 0, .int .i64 0, .int .i64 0, .slice none 0 0] rfl rfl rfl rfl rfl rfl rfl ?_
    refine WO.cls (C' := St w0 m m [[⟨b1, 25, [.int .i64 p1_0, .int .i64 p1_1, .int .i64 p1_2, .int .i64 p1_3, .int .i64 p1_4, .slice a_p1_5 p1_5.length c_p1_5]⟩], [⟨b2, 25, [.int .i64 0, .int .i64 0, .int .i64 0, .int .i64 0, .int .i64 0, .slice none 0 0]⟩]]) (fun _ h => h) ?_
    refine WO_pure tbok 1 [(0, .slice a_p0 p0.length c_p0), (3, .pointer (some ⟨b1, 0, none⟩)), (4, .pointer (some ⟨b2, 0, none⟩)), (5, .int .i64 y_1)] rfl ⟨rfl, rfl, rfl, rfl, trivial⟩ ?_
    refine WO_end ?_
    cases hm
    exact WK_ret (ret_out (L := []) (RLc_cell tbok 1 rfl rfl rfl (RLc_tmp rfl RLc_nil)) (List.nil_sublist _) ⟨none, 0, 0, rfl, SlR_nil⟩)
  · have hm := ifF hb4 hm
    refine WK_skip ?_
    refine WK_seq ?_
    refine WK_seq ?_
    refine WK_region ?_
    refine WO_pure tbok 3 [(0, .slice a_p0 p0.length c_p0), (3, .pointer (some ⟨b1, 0, none⟩)), (4, .pointer (some ⟨b2, 0, none⟩)), (5, .int .i64 0), (21, .bool (decide (4096 < (p0.length : Int))))] rfl ⟨rfl, rfl, rfl, rfl, rfl, trivial⟩ ?_
    refine WO_end ?_
    refine WK_cond (b := decide (4096 < (p0.length : Int))) rfl (fun hb5 => ?_) (fun hb5 => ?_)
    · have hm := ifT hb5 hm
      refine WK_seq ?_
      refine WK_region ?_
      refine WO_pure tbok 1 [(0, .slice a_p0 p0.length c_p0), (3, .pointer (some ⟨b1, 0, none⟩)), (4, .pointer (some ⟨b2, 0, none⟩)), (5, .int .i64 0), (22, .agg #[.int .i64 0, .int .i64 0, .int .i64 0, .int .i64 0, .int .i64 0, .slice none 0 0])] rfl ⟨rfl, rfl, rfl, rfl, rfl, trivial⟩ ?_
      refine WO_storeB tbok 1 [.int .i64 0, .int .i64 0, .int .i64 0, .int .i64 0, .int .i64 0, .slice none 0 0] rfl rfl rfl rfl rfl rfl rfl ?_
      refine WO.cls (C' := St w0 m m [[⟨b1, 25, [.int .i64 p1_0, .int .i64 p1_1, .int .i64 p1_2, .int .i64 p1_3, .int .i64 p1_4, .slice a_p1_5 p1_5.length c_p1_5]⟩], [⟨b2, 25, [.int .i64 0, .int .i64 0, .int .i64 0, .int .i64 0, .int .i64 0, .slice none 0 0]⟩]]) (fun _ h => h) ?_
      refine WO_pure tbok 1 [(0, .slice a_p0 p0.length c_p0), (3, .pointer (some ⟨b1, 0, none⟩)), (4, .pointer (some ⟨b2, 0, none⟩)), (5, .int .i64 3)] rfl ⟨rfl, rfl, rfl, rfl, trivial⟩ ?_
      refine WO_end ?_
      cases hm
      exact WK_ret (ret_out (L := []) (RLc_cell tbok 1 rfl rfl rfl (RLc_tmp rfl RLc_nil)) (List.nil_sublist _) ⟨none, 0, 0, rfl, SlR_nil⟩)
    · have hm := ifF hb5 hm
      refine WK_skip ?_
      refine WK_seq ?_
      refine WK_seq ?_
      refine WK_region ?_
      refine WO_pure tbok 1 [(0, .slice a_p0 p0.length c_p0), (3, .pointer (some ⟨b1, 0, none⟩)), (4, .pointer (some ⟨b2, 0, none⟩)), (5, .int .i64 0), (23, .slice a_p0 p0.length c_p0)] rfl ⟨rfl, rfl, rfl, rfl, rfl, trivial⟩ ?_
      obtain ⟨y_5, hc6, hm⟩ := bind_some hm
      refine WO_call0 (.bool y_5) rfl rfl trivial rfl rfl rfl rfl St_closed ⟨39, #[], #[], rfl, callable_39, fun w hw => ⟨_, hw.sat, slices_ContainsFunc_sapi_Spot_walk h_p0 (fun m1 hm1 z_2 z_3 z_4 _ h => specV_cap callable_40 (terrain_Surface_c1_walk h)) hc6⟩⟩ ?_
      refine WO_end ?_
      refine WK_cond (b := y_5) rfl (fun hb7 => ?_) (fun hb7 => ?_)
      · have hm := ifT hb7 hm
        refine WK_seq ?_
        refine WK_region ?_
        refine WO_pure tbok 1 [(0, .slice a_p0 p0.length c_p0), (3, .pointer (some ⟨b1, 0, none⟩)), (4, .pointer (some ⟨b2, 0, none⟩)), (5, .int .i64 0), (25, .agg #[.int .i64 0, .int .i64 0, .int .i64 0, .int .i64 0, .int .i64 0, .slice none 0 0])] rfl ⟨rfl, rfl, rfl, rfl, rfl, trivial⟩ ?_
        refine WO_storeB tbok 1 [.int .i64 0, .int .i64 0, .int .i64 0, .int .i64 0, .int .i64 0, .slice none 0 0] rfl rfl rfl rfl rfl rfl rfl ?_
        refine WO.cls (C' := St w0 m m [[⟨b1, 25, [.int .i64 p1_0, .int .i64 p1_1, .int .i64 p1_2, .int .i64 p1_3, .int .i64 p1_4, .slice a_p1_5 p1_5.length c_p1_5]⟩], [⟨b2, 25, [.int .i64 0, .int .i64 0, .int .i64 0, .int .i64 0, .int .i64 0, .slice none 0 0]⟩]]) (fun _ h => h) ?_
        refine WO_pure tbok 1 [(0, .slice a_p0 p0.length c_p0), (3, .pointer (some ⟨b1, 0, none⟩)), (4, .pointer (some ⟨b2, 0, none⟩)), (5, .int .i64 2)] rfl ⟨rfl, rfl, rfl, rfl, trivial⟩ ?_
        refine WO_end ?_
        cases hm
        exact WK_ret (ret_out (L := []) (RLc_cell tbok 1 rfl rfl rfl (RLc_tmp rfl RLc_nil)) (List.nil_sublist _) ⟨none, 0, 0, rfl, SlR_nil⟩)
      · have hm := ifF hb7 hm
        refine WK_skip ?_
        refine WK_seq ?_
        refine WK_region ?_
        refine WO_pure tbok 1 [(0, .slice a_p0 p0.length c_p0), (3, .pointer (some ⟨b1, 0, none⟩)), (4, .pointer (some ⟨b2, 0, none⟩)), (5, .int .i64 0), (26, .pointer (some ⟨b1, 5, none⟩))] rfl ⟨rfl, rfl, rfl, rfl, rfl, trivial⟩ ?_
        refine WO_loadB tbok 0 rfl rfl rfl rfl (fun _ h => h) rfl rfl ?_
        refine WO_pure tbok 1 [(0, .slice a_p0 p0.length c_p0), (3, .pointer (some ⟨b1, 0, none⟩)), (4, .pointer (some ⟨b2, 0, none⟩)), (5, .int .i64 0), (28, .int .i64 (p1_5.length : Int))] rfl ⟨rfl, rfl, rfl, rfl, rfl, trivial⟩ ?_
        obtain ⟨y_6, hc8, hm⟩ := bind_some hm
        refine WO_call1 (terrain_blank_Q y_6) rfl rfl trivial rfl rfl rfl rfl ⟨42, #[], #[], rfl, callable_42, fun w hw => ⟨_, hw.sat, terrain_blank_walk hc8⟩⟩ (fun v12 L11 hq => ?_)
        obtain ⟨a9, qa9, c10, rfl, hL11⟩ := hq
        obtain rfl := OwnE.qlen hL11
        refine WO.cls (C' := St w0 m m [[⟨b1, 25, [.int .i64 p1_0, .int .i64 p1_1, .int .i64 p1_2, .int .i64 p1_3, .int .i64 p1_4, .slice a_p1_5 p1_5.length c_p1_5]⟩], [⟨b2, 25, [.int .i64 0, .int .i64 0, .int .i64 0, .int .i64 0, .int .i64 0, .slice none 0 0]⟩], L11]) (fun _ h => h) ?_
        refine WO_pure tbok 1 [(0, .slice a_p0 p0.length c_p0), (3, .pointer (some ⟨b1, 0, none⟩)), (4, .pointer (some ⟨b2, 0, none⟩)), (5, .int .i64 0), (7, .slice a9 ((y_6).length) c10)] rfl ⟨rfl, rfl, rfl, rfl, rfl, trivial⟩ ?_
        refine WO_end ?_
        refine WK_seq ?_
        refine WK_seq ?_
        refine WK_region ?_
        refine WO_pure tbok 3 [(3, .pointer (some ⟨b1, 0, none⟩)), (4, .pointer (some ⟨b2, 0, none⟩)), (5, .int .i64 0), (7, .slice a9 ((y_6).length) c10), (30, .slice a_p0 p0.length c_p0), (31, .int .i64 (p0.length : Int)), (32, .int .i64 0)] rfl ⟨rfl, rfl, rfl, rfl, rfl, rfl, rfl, trivial⟩ ?_
        refine WO_end ?_
        obtain ⟨x15, hx16, hm⟩ := bind_some hm
        refine WK_join (β := (List Int) × (List Ent)) (fun p => p.1 = x15 ∧ OwnE 3 1 (I1 .i64) (.slice a9 ((y_6).length) c10) p.1 p.2) (fun p => [(3, .pointer (some ⟨b1, 0, none⟩)), (4, .pointer (some ⟨b2, 0, none⟩)), (5, .int .i64 0), (7, .slice a9 ((y_6).length) c10)]) (fun p => St w0 m m [[⟨b1, 25, [.int .i64 p1_0, .int .i64 p1_1, .int .i64 p1_2, .int .i64 p1_3, .int .i64 p1_4, .slice a_p1_5 p1_5.length c_p1_5]⟩], [⟨b2, 25, [.int .i64 0, .int .i64 0, .int .i64 0, .int .i64 0, .int .i64 0, .slice none 0 0]⟩], p.2]) ?_ (fun hk17 => ?_)
        · rintro ⟨l_9, L14⟩ ⟨hq23, hL14⟩
          subst hq23
          refine WK.sub (e' := [(3, .pointer (some ⟨b1, 0, none⟩)), (4, .pointer (some ⟨b2, 0, none⟩)), (5, .int .i64 0), (7, .slice a9 ((y_6).length) c10)]) ⟨rfl, rfl, rfl, rfl, trivial⟩ (WK.cls (C' := St w0 m m [[⟨b1, 25, [.int .i64 p1_0, .int .i64 p1_1, .int .i64 p1_2, .int .i64 p1_3, .int .i64 p1_4, .slice a_p1_5 p1_5.length c_p1_5]⟩], [⟨b2, 25, [.int .i64 0, .int .i64 0, .int .i64 0, .int .i64 0, .int .i64 0, .slice none 0 0]⟩], L14]) (fun _ h => h) ?_)
          refine WK_seq ?_
          refine WK_region ?_
          refine WO_loadB tbok 0 rfl rfl rfl rfl (fun _ h => h) rfl rfl ?_
          refine WO_pure tbok 1 [(4, .pointer (some ⟨b2, 0, none⟩)), (5, .int .i64 0), (77, .agg #[.int .i64 p1_0, .int .i64 p1_1, .int .i64 p1_2, .int .i64 p1_3, .int .i64 p1_4, .slice a_p1_5 p1_5.length c_p1_5]), (78, .slice a9 ((y_6).length) c10)] rfl ⟨rfl, rfl, rfl, rfl, trivial⟩ ?_
          refine WO_freeze 2 rfl (fun m24 hle25 hmm26 => ?_)
          refine WO.cls (C' := St w0 m m24 [[⟨b1, 25, [.int .i64 p1_0, .int .i64 p1_1, .int .i64 p1_2, .int .i64 p1_3, .int .i64 p1_4, .slice a_p1_5 p1_5.length c_p1_5]⟩], [⟨b2, 25, [.int .i64 0, .int .i64 0, .int .i64 0, .int .i64 0, .int .i64 0, .slice none 0 0]⟩], []]) (fun _ h => h) ?_
          obtain ⟨⟨y_10, y_11, y_12, y_13, y_14, y_15⟩, hc27, hm⟩ := bind_some hm
          refine WO_call2 (terrain_with_Q (y_10, y_11, y_12, y_13, y_14, y_15)) rfl rfl trivial rfl rfl rfl rfl ⟨44, #[], #[], rfl, callable_44, terrain_with_walk (h_p1_5.mono (mono_FE _) hle25) (OwnE.rd (E := (I1 .i64)) (k := 1) (fun _ => rfl) hL14 hmm26) hc27⟩ (fun v31 m32 L30 hle33 hq => ?_)
          obtain ⟨a28, qa28, c29, rfl, h34⟩ := hq
          obtain rfl := SlR.qlen h34
          refine WO.cls (C' := St w0 m m32 [[⟨b1, 25, [.int .i64 p1_0, .int .i64 p1_1, .int .i64 p1_2, .int .i64 p1_3, .int .i64 p1_4, .slice a_p1_5 p1_5.length c_p1_5]⟩], [⟨b2, 25, [.int .i64 0, .int .i64 0, .int .i64 0, .int .i64 0, .int .i64 0, .slice none 0 0]⟩], [], L30]) (fun _ h => h.sub (by simp)) ?_
          refine WO_storeB tbok 1 [.int .i64 y_10, .int .i64 y_11, .int .i64 y_12, .int .i64 y_13, .int .i64 y_14, .slice a28 ((y_15).length) c29] rfl rfl rfl rfl rfl rfl rfl ?_
          refine WO.cls (C' := St w0 m m32 [[⟨b1, 25, [.int .i64 p1_0, .int .i64 p1_1, .int .i64 p1_2, .int .i64 p1_3, .int .i64 p1_4, .slice a_p1_5 p1_5.length c_p1_5]⟩], [⟨b2, 25, [.int .i64 y_10, .int .i64 y_11, .int .i64 y_12, .int .i64 y_13, .int .i64 y_14, .slice a28 ((y_15).length) c29]⟩], [], L30]) (fun _ h => h) ?_
          refine WO_pure tbok 1 [(4, .pointer (some ⟨b2, 0, none⟩)), (5, .int .i64 0)] rfl ⟨rfl, rfl, trivial⟩ ?_
          refine WO_end ?_
          cases hm
          exact WK_ret (ret_out (L := []) (RLc_cell tbok 1 rfl rfl rfl (RLc_tmp rfl RLc_nil)) (List.nil_sublist _) ⟨a28, _, c29, rfl, h34⟩)
        · refine WK_block ?_
          refine WK_loop (S := List Int × Int) (G := List Ent) (fun s => terrain_Surface_s1 p0 p1_0 p1_1 p1_2 p1_3 p1_4 s.1 s.2) (fun s g => [(3, .pointer (some ⟨b1, 0, none⟩)), (4, .pointer (some ⟨b2, 0, none⟩)), (5, .int .i64 0), (7, .slice a9 ((y_6).length) c10), (30, .slice a_p0 p0.length c_p0), (31, .int .i64 (p0.length : Int)), (32, .int .i64 s.2)]) (fun s g => St w0 m m [[⟨b1, 25, [.int .i64 p1_0, .int .i64 p1_1, .int .i64 p1_2, .int .i64 p1_3, .int .i64 p1_4, .slice a_p1_5 p1_5.length c_p1_5]⟩], [⟨b2, 25, [.int .i64 0, .int .i64 0, .int .i64 0, .int .i64 0, .int .i64 0, .slice none 0 0]⟩], g]) (fun s g => OwnE 3 1 (I1 .i64) (.slice a9 ((y_6).length) c10) s.1 g) FUEL (y_6, 0) L11 x15 hx16 hL11 ⟨rfl, rfl, rfl, rfl, rfl, rfl, rfl, trivial⟩ (fun _ h => h) ?_
          rintro ⟨l_7, s_8⟩ L13 o19 fl20 hm18 hL13 hn21 hd22
          have hm18 : terrain_Surface_s1 p0 p1_0 p1_1 p1_2 p1_3 p1_4 l_7 s_8 = some o19 := hm18
          unfold terrain_Surface_s1 at hm18
          refine WK.sub (e' := [(3, .pointer (some ⟨b1, 0, none⟩)), (4, .pointer (some ⟨b2, 0, none⟩)), (5, .int .i64 0), (7, .slice a9 ((y_6).length) c10), (30, .slice a_p0 p0.length c_p0), (31, .int .i64 (p0.length : Int)), (32, .int .i64 s_8)]) ⟨rfl, rfl, rfl, rfl, rfl, rfl, rfl, trivial⟩ (WK.cls (C' := St w0 m m [[⟨b1, 25, [.int .i64 p1_0, .int .i64 p1_1, .int .i64 p1_2, .int .i64 p1_3, .int .i64 p1_4, .slice a_p1_5 p1_5.length c_p1_5]⟩], [⟨b2, 25, [.int .i64 0, .int .i64 0, .int .i64 0, .int .i64 0, .int .i64 0, .slice none 0 0]⟩], L13]) (fun _ h => h) ?_)
          refine WK_seq ?_
          refine WK_region ?_
          refine WO_pure tbok 1 [(3, .pointer (some ⟨b1, 0, none⟩)), (4, .pointer (some ⟨b2, 0, none⟩)), (5, .int .i64 0), (7, .slice a9 ((y_6).length) c10), (30, .slice a_p0 p0.length c_p0), (31, .int .i64 (p0.length : Int)), (32, .int .i64 s_8), (33, .bool (decide (s_8 < (p0.length : Int))))] rfl ⟨rfl, rfl, rfl, rfl, rfl, rfl, rfl, rfl, trivial⟩ ?_
          refine WO_end ?_
          refine WK_seq ?_
          refine WK_cond (b := decide (s_8 < (p0.length : Int))) rfl (fun hb35 => ?_) (fun hb35 => ?_)
          · have hm18 := ifT hb35 hm18
            refine WK_skip ?_
            refine WK_seq ?_
            refine WK_block ?_
            refine WK_seq ?_
            refine WK_region ?_
            obtain ⟨v_16, hy36, hm18⟩ := bind_some hm18
            obtain ⟨hc37, hy36⟩ := ix_some hy36
            refine WO_index tbok rfl rfl rfl rfl rfl rfl rfl rfl (SlR.addr h_p0) hc37 ?_
            refine WO_loadE tbok rfl rfl rfl rfl (fun _ h => St.sat h) h_p0 hy36 rfl ?_
            refine WO_alloc tbok [.int .i64 0, .int .i64 0, .int .i64 0] rfl rfl trivial rfl rfl rfl rfl (fun b38 => ?_)
            refine WO.cls (C' := St w0 m m [[⟨b1, 25, [.int .i64 p1_0, .int .i64 p1_1, .int .i64 p1_2, .int .i64 p1_3, .int .i64 p1_4, .slice a_p1_5 p1_5.length c_p1_5]⟩], [⟨b2, 25, [.int .i64 0, .int .i64 0, .int .i64 0, .int .i64 0, .int .i64 0, .slice none 0 0]⟩], L13, [⟨b38, 60, [.int .i64 0, .int .i64 0, .int .i64 0]⟩]]) (fun _ h => h) ?_
            refine WO_storeB tbok 3 [.int .i64 v_16.1, .int .i64 v_16.2.1, .int .i64 v_16.2.2] rfl rfl rfl rfl rfl rfl rfl ?_
            refine WO.cls (C' := St w0 m m [[⟨b1, 25, [.int .i64 p1_0, .int .i64 p1_1, .int .i64 p1_2, .int .i64 p1_3, .int .i64 p1_4, .slice a_p1_5 p1_5.length c_p1_5]⟩], [⟨b2, 25, [.int .i64 0, .int .i64 0, .int .i64 0, .int .i64 0, .int .i64 0, .slice none 0 0]⟩], L13, [⟨b38, 60, [.int .i64 v_16.1, .int .i64 v_16.2.1, .int .i64 v_16.2.2]⟩]]) (fun _ h => h) ?_
            refine WO_end ?_
            refine WK_seq ?_
            refine WK_draw 20 [0, 1, 2, 3, 4, 5, 6, 7, 9, 10, 11, 12, 13, 14, 15, 16, 8, 17, 18, 19] follows_ok (by kernel_rfl) St_closed ?_
            refine WO_pure tbok 1 [(3, .pointer (some ⟨b1, 0, none⟩)), (4, .pointer (some ⟨b2, 0, none⟩)), (5, .int .i64 0), (7, .slice a9 ((y_6).length) c10), (9, .pointer (some ⟨b38, 0, none⟩)), (30, .slice a_p0 p0.length c_p0), (31, .int .i64 (p0.length : Int)), (32, .int .i64 s_8), (36, .pointer (some ⟨b38, 0, none⟩))] rfl ⟨rfl, rfl, rfl, rfl, rfl, rfl, rfl, rfl, rfl, trivial⟩ ?_
            refine WO_loadB tbok 3 rfl rfl rfl rfl (fun _ h => h) rfl rfl ?_
            refine WO_pure tbok 1 [(3, .pointer (some ⟨b1, 0, none⟩)), (4, .pointer (some ⟨b2, 0, none⟩)), (5, .int .i64 0), (7, .slice a9 ((y_6).length) c10), (9, .pointer (some ⟨b38, 0, none⟩)), (30, .slice a_p0 p0.length c_p0), (31, .int .i64 (p0.length : Int)), (32, .int .i64 s_8), (37, .int .i64 v_16.1), (38, .pointer (some ⟨b1, 0, none⟩))] rfl ⟨rfl, rfl, rfl, rfl, rfl, rfl, rfl, rfl, rfl, rfl, trivial⟩ ?_
            refine WO_loadB tbok 0 rfl rfl rfl rfl (fun _ h => h) rfl rfl ?_
            refine WO_pure tbok 1 [(3, .pointer (some ⟨b1, 0, none⟩)), (4, .pointer (some ⟨b2, 0, none⟩)), (5, .int .i64 0), (7, .slice a9 ((y_6).length) c10), (9, .pointer (some ⟨b38, 0, none⟩)), (30, .slice a_p0 p0.length c_p0), (31, .int .i64 (p0.length : Int)), (32, .int .i64 s_8), (37, .int .i64 v_16.1), (39, .int .i64 p1_0), (40, .pointer (some ⟨b1, 2, none⟩))] rfl ⟨rfl, rfl, rfl, rfl, rfl, rfl, rfl, rfl, rfl, rfl, rfl, trivial⟩ ?_
            refine WO_loadB tbok 0 rfl rfl rfl rfl (fun _ h => h) rfl rfl ?_
            refine WO_pure tbok 1 [(3, .pointer (some ⟨b1, 0, none⟩)), (4, .pointer (some ⟨b2, 0, none⟩)), (5, .int .i64 0), (7, .slice a9 ((y_6).length) c10), (9, .pointer (some ⟨b38, 0, none⟩)), (30, .slice a_p0 p0.length c_p0), (31, .int .i64 (p0.length : Int)), (32, .int .i64 s_8), (37, .int .i64 v_16.1), (39, .int .i64 p1_0), (41, .int .i64 p1_2), (42, .pointer (some ⟨b1, 3, none⟩))] rfl ⟨rfl, rfl, rfl, rfl, rfl, rfl, rfl, rfl, rfl, rfl, rfl, rfl, trivial⟩ ?_
            refine WO_loadB tbok 0 rfl rfl rfl rfl (fun _ h => h) rfl rfl ?_
            refine WO_pure tbok 1 [(3, .pointer (some ⟨b1, 0, none⟩)), (4, .pointer (some ⟨b2, 0, none⟩)), (5, .int .i64 0), (7, .slice a9 ((y_6).length) c10), (9, .pointer (some ⟨b38, 0, none⟩)), (30, .slice a_p0 p0.length c_p0), (31, .int .i64 (p0.length : Int)), (32, .int .i64 s_8), (37, .int .i64 v_16.1), (39, .int .i64 p1_0), (41, .int .i64 p1_2), (43, .int .i64 p1_3), (45, .pointer (some ⟨b38, 1, none⟩))] rfl ⟨rfl, rfl, rfl, rfl, rfl, rfl, rfl, rfl, rfl, rfl, rfl, rfl, rfl, trivial⟩ ?_
            refine WO_loadB tbok 3 rfl rfl rfl rfl (fun _ h => h) rfl rfl ?_
            refine WO_pure tbok 1 [(3, .pointer (some ⟨b1, 0, none⟩)), (4, .pointer (some ⟨b2, 0, none⟩)), (5, .int .i64 0), (7, .slice a9 ((y_6).length) c10), (9, .pointer (some ⟨b38, 0, none⟩)), (30, .slice a_p0 p0.length c_p0), (31, .int .i64 (p0.length : Int)), (32, .int .i64 s_8), (37, .int .i64 v_16.1), (39, .int .i64 p1_0), (41, .int .i64 p1_2), (43, .int .i64 p1_3), (46, .int .i64 v_16.2.1), (47, .pointer (some ⟨b1, 1, none⟩))] rfl ⟨rfl, rfl, rfl, rfl, rfl, rfl, rfl, rfl, rfl, rfl, rfl, rfl, rfl, rfl, trivial⟩ ?_
            refine WO_loadB tbok 0 rfl rfl rfl rfl (fun _ h => h) rfl rfl ?_
            refine WO_pure tbok 1 [(3, .pointer (some ⟨b1, 0, none⟩)), (4, .pointer (some ⟨b2, 0, none⟩)), (5, .int .i64 0), (7, .slice a9 ((y_6).length) c10), (9, .pointer (some ⟨b38, 0, none⟩)), (30, .slice a_p0 p0.length c_p0), (31, .int .i64 (p0.length : Int)), (32, .int .i64 s_8), (37, .int .i64 v_16.1), (39, .int .i64 p1_0), (41, .int .i64 p1_2), (43, .int .i64 p1_3), (46, .int .i64 v_16.2.1), (48, .int .i64 p1_1), (49, .pointer (some ⟨b1, 2, none⟩))] rfl ⟨rfl, rfl, rfl, rfl, rfl, rfl, rfl, rfl, rfl, rfl, rfl, rfl, rfl, rfl, rfl, trivial⟩ ?_
            refine WO_loadB tbok 0 rfl rfl rfl rfl (fun _ h => h) rfl rfl ?_
            refine WO_pure tbok 1 [(3, .pointer (some ⟨b1, 0, none⟩)), (4, .pointer (some ⟨b2, 0, none⟩)), (5, .int .i64 0), (7, .slice a9 ((y_6).length) c10), (9, .pointer (some ⟨b38, 0, none⟩)), (30, .slice a_p0 p0.length c_p0), (31, .int .i64 (p0.length : Int)), (32, .int .i64 s_8), (37, .int .i64 v_16.1), (39, .int .i64 p1_0), (41, .int .i64 p1_2), (43, .int .i64 p1_3), (46, .int .i64 v_16.2.1), (48, .int .i64 p1_1), (50, .int .i64 p1_2), (51, .pointer (some ⟨b1, 4, none⟩))] rfl ⟨rfl, rfl, rfl, rfl, rfl, rfl, rfl, rfl, rfl, rfl, rfl, rfl, rfl, rfl, rfl, rfl, trivial⟩ ?_
            refine WO_loadB tbok 0 rfl rfl rfl rfl (fun _ h => h) rfl rfl ?_
            obtain ⟨y_17, hc39, hm18⟩ := bind_some hm18
            refine WO_call0 (.int .i64 y_17) rfl rfl St_closed rfl rfl rfl rfl St_closed ⟨43, #[], #[], rfl, callable_43, fun w hw => ⟨_, hw.sat, terrain_cell_walk hc39⟩⟩ ?_
            obtain ⟨y_18, hc40, hm18⟩ := bind_some hm18
            refine WO_call0 (.int .i64 y_18) rfl rfl St_closed rfl rfl rfl rfl St_closed ⟨43, #[], #[], rfl, callable_43, fun w hw => ⟨_, hw.sat, terrain_cell_walk hc40⟩⟩ ?_
            refine WO_pure tbok 2 [(3, .pointer (some ⟨b1, 0, none⟩)), (4, .pointer (some ⟨b2, 0, none⟩)), (5, .int .i64 0), (7, .slice a9 ((y_6).length) c10), (9, .pointer (some ⟨b38, 0, none⟩)), (10, .int .i64 y_17), (11, .int .i64 y_18), (30, .slice a_p0 p0.length c_p0), (31, .int .i64 (p0.length : Int)), (32, .int .i64 s_8)] rfl ⟨rfl, rfl, rfl, rfl, rfl, rfl, rfl, rfl, rfl, rfl, trivial⟩ ?_
            refine WO_tail ?_
            refine WO_end ?_
            refine WK_seq ?_
            obtain ⟨s_19, hx41, hm18⟩ := bind_some hm18
            refine WK_meet [(3, .pointer (some ⟨b1, 0, none⟩)), (4, .pointer (some ⟨b2, 0, none⟩)), (5, .int .i64 0), (7, .slice a9 ((y_6).length) c10), (9, .pointer (some ⟨b38, 0, none⟩)), (10, .int .i64 y_17), (11, .int .i64 y_18), (30, .slice a_p0 p0.length c_p0), (31, .int .i64 (p0.length : Int)), (32, .int .i64 s_8), (59, .bool s_19)] (St w0 m m [[⟨b1, 25, [.int .i64 p1_0, .int .i64 p1_1, .int .i64 p1_2, .int .i64 p1_3, .int .i64 p1_4, .slice a_p1_5 p1_5.length c_p1_5]⟩], [⟨b2, 25, [.int .i64 0, .int .i64 0, .int .i64 0, .int .i64 0, .int .i64 0, .slice none 0 0]⟩], L13, [⟨b38, 60, [.int .i64 v_16.1, .int .i64 v_16.2.1, .int .i64 v_16.2.2]⟩]]) ?_ (fun hk42 => ?_)
            · obtain ⟨l_20, hx44, hm18⟩ := bind_some hm18
              refine WK_join (β := List Ent) (fun p => OwnE 3 1 (I1 .i64) (.slice a9 ((y_6).length) c10) l_20 p) (fun p => [(3, .pointer (some ⟨b1, 0, none⟩)), (4, .pointer (some ⟨b2, 0, none⟩)), (5, .int .i64 0), (7, .slice a9 ((y_6).length) c10), (30, .slice a_p0 p0.length c_p0), (31, .int .i64 (p0.length : Int)), (32, .int .i64 s_8)]) (fun p => St w0 m m [[⟨b1, 25, [.int .i64 p1_0, .int .i64 p1_1, .int .i64 p1_2, .int .i64 p1_3, .int .i64 p1_4, .slice a_p1_5 p1_5.length c_p1_5]⟩], [⟨b2, 25, [.int .i64 0, .int .i64 0, .int .i64 0, .int .i64 0, .int .i64 0, .slice none 0 0]⟩], p, [⟨b38, 60, [.int .i64 v_16.1, .int .i64 v_16.2.1, .int .i64 v_16.2.2]⟩]]) ?_ (fun hk45 => ?_)
              · rintro L43 hL43
                refine WK.sub (e' := [(3, .pointer (some ⟨b1, 0, none⟩)), (4, .pointer (some ⟨b2, 0, none⟩)), (5, .int .i64 0), (7, .slice a9 ((y_6).length) c10), (30, .slice a_p0 p0.length c_p0), (31, .int .i64 (p0.length : Int)), (32, .int .i64 s_8)]) ⟨rfl, rfl, rfl, rfl, rfl, rfl, rfl, trivial⟩ (WK.cls (C' := St w0 m m [[⟨b1, 25, [.int .i64 p1_0, .int .i64 p1_1, .int .i64 p1_2, .int .i64 p1_3, .int .i64 p1_4, .slice a_p1_5 p1_5.length c_p1_5]⟩], [⟨b2, 25, [.int .i64 0, .int .i64 0, .int .i64 0, .int .i64 0, .int .i64 0, .slice none 0 0]⟩], L43, [⟨b38, 60, [.int .i64 v_16.1, .int .i64 v_16.2.1, .int .i64 v_16.2.2]⟩]]) (fun _ h => h) ?_)
                refine WK_blk ?_
                refine WK_region ?_
                refine WO_pure tbok 2 [(3, .pointer (some ⟨b1, 0, none⟩)), (4, .pointer (some ⟨b2, 0, none⟩)), (5, .int .i64 0), (7, .slice a9 ((y_6).length) c10), (30, .slice a_p0 p0.length c_p0), (31, .int .i64 (p0.length : Int)), (32, .int .i64 (w64 (s_8 + 1)))] rfl ⟨rfl, rfl, rfl, rfl, rfl, rfl, rfl, trivial⟩ ?_
                refine WO_end ?_
                cases hm18
                refine WK.sub ?_ (WK.cls (fun _ h => St.take 3 h) (hn21 _ L43 rfl hL43))
                exact ⟨rfl, rfl, rfl, rfl, rfl, rfl, rfl, trivial⟩
              · refine WK_cond (b := s_19) rfl (fun hb46 => ?_) (fun hb46 => ?_)
                · have hx44 := ifT hb46 hx44
                  refine WK_seq ?_
                  refine WK_region ?_
                  refine WO_pure tbok 2 [(3, .pointer (some ⟨b1, 0, none⟩)), (4, .pointer (some ⟨b2, 0, none⟩)), (5, .int .i64 0), (7, .slice a9 ((y_6).length) c10), (9, .pointer (some ⟨b38, 0, none⟩)), (10, .int .i64 y_17), (30, .slice a_p0 p0.length c_p0), (31, .int .i64 (p0.length : Int)), (32, .int .i64 s_8), (60, .int .i64 y_18), (61, .pointer (some ⟨b1, 3, none⟩))] rfl ⟨rfl, rfl, rfl, rfl, rfl, rfl, rfl, rfl, rfl, rfl, rfl, trivial⟩ ?_
                  refine WO_loadB tbok 0 rfl rfl rfl rfl (fun _ h => h) rfl rfl ?_
                  refine WO_pure tbok 4 [(3, .pointer (some ⟨b1, 0, none⟩)), (4, .pointer (some ⟨b2, 0, none⟩)), (5, .int .i64 0), (7, .slice a9 ((y_6).length) c10), (9, .pointer (some ⟨b38, 0, none⟩)), (12, .int .i64 (w64 ((w64 (y_18 * p1_3)) + y_17))), (30, .slice a_p0 p0.length c_p0), (31, .int .i64 (p0.length : Int)), (32, .int .i64 s_8)] rfl ⟨rfl, rfl, rfl, rfl, rfl, rfl, rfl, rfl, rfl, trivial⟩ ?_
                  refine WO_end ?_
                  refine WK_draw 10 [0, 1, 2, 3, 4, 5, 6, 7, 8, 9] follows_ok (by kernel_rfl) St_closed ?_
                  refine WO_pure tbok 4 [(3, .pointer (some ⟨b1, 0, none⟩)), (4, .pointer (some ⟨b2, 0, none⟩)), (5, .int .i64 0), (7, .slice a9 ((y_6).length) c10), (9, .pointer (some ⟨b38, 0, none⟩)), (30, .slice a_p0 p0.length c_p0), (31, .int .i64 (p0.length : Int)), (32, .int .i64 s_8), (66, .slice a9 ((y_6).length) c10), (67, .int .i64 (w64 ((w64 (y_18 * p1_3)) + y_17))), (68, .slice a9 ((y_6).length) c10), (69, .int .i64 (w64 ((w64 (y_18 * p1_3)) + y_17)))] rfl ⟨rfl, rfl, rfl, rfl, rfl, rfl, rfl, rfl, rfl, rfl, rfl, rfl, trivial⟩ ?_
                  obtain ⟨v_21, hy47, hx44⟩ := bind_some hx44
                  obtain ⟨hc48, hy47⟩ := ix_some hy47
                  refine WO_index tbok rfl rfl rfl rfl rfl rfl rfl rfl (OwnE.addr hL13) (by simpa using hc48) ?_
                  refine WO_loadO (E := (I1 .i64)) tbok (fun _ => rfl) 2 rfl rfl rfl rfl (fun _ h => h) hL13 rfl hy47 rfl ?_
                  refine WO_pure tbok 1 [(3, .pointer (some ⟨b1, 0, none⟩)), (4, .pointer (some ⟨b2, 0, none⟩)), (5, .int .i64 0), (7, .slice a9 ((y_6).length) c10), (30, .slice a_p0 p0.length c_p0), (31, .int .i64 (p0.length : Int)), (32, .int .i64 s_8), (66, .slice a9 ((y_6).length) c10), (67, .int .i64 (w64 ((w64 (y_18 * p1_3)) + y_17))), (71, .int .i64 v_21), (72, .pointer (some ⟨b38, 2, none⟩))] rfl ⟨rfl, rfl, rfl, rfl, rfl, rfl, rfl, rfl, rfl, rfl, rfl, trivial⟩ ?_
                  refine WO_loadB tbok 3 rfl rfl rfl rfl (fun _ h => h) rfl rfl ?_
                  refine WO_pure tbok 1 [(3, .pointer (some ⟨b1, 0, none⟩)), (4, .pointer (some ⟨b2, 0, none⟩)), (5, .int .i64 0), (7, .slice a9 ((y_6).length) c10), (30, .slice a_p0 p0.length c_p0), (31, .int .i64 (p0.length : Int)), (32, .int .i64 s_8), (66, .slice a9 ((y_6).length) c10), (67, .int .i64 (w64 ((w64 (y_18 * p1_3)) + y_17))), (74, .int .i64 (if v_21 < v_16.2.2 then v_16.2.2 else v_21))] rfl ⟨rfl, rfl, rfl, rfl, rfl, rfl, rfl, rfl, rfl, rfl, trivial⟩ ?_
                  obtain ⟨hc49, hx44⟩ := chk_some hx44
                  refine WO_index tbok rfl rfl rfl rfl rfl rfl rfl rfl (OwnE.addr hL13) (by simpa using hc49) ?_
                  refine WO_tail ?_
                  refine WO_storeO (E := (I1 .i64)) tbok (fun _ => rfl) 2 (if v_21 < v_16.2.2 then v_16.2.2 else v_21) rfl rfl rfl rfl rfl hL13 rfl (by simpa using idx_lt hc49) rfl rfl rfl rfl (fun L50 hL50 => ?_)
                  refine WO.cls (C' := St w0 m m [[⟨b1, 25, [.int .i64 p1_0, .int .i64 p1_1, .int .i64 p1_2, .int .i64 p1_3, .int .i64 p1_4, .slice a_p1_5 p1_5.length c_p1_5]⟩], [⟨b2, 25, [.int .i64 0, .int .i64 0, .int .i64 0, .int .i64 0, .int .i64 0, .slice none 0 0]⟩], L50, [⟨b38, 60, [.int .i64 v_16.1, .int .i64 v_16.2.1, .int .i64 v_16.2.2]⟩]]) (fun _ h => h) ?_
                  refine WO_end ?_
                  cases hx44
                  refine WK.sub ?_ (WK.cls (fun _ h => h) (hk45 L50 hL50))
                  exact ⟨rfl, rfl, rfl, rfl, rfl, rfl, rfl, trivial⟩
                · have hx44 := ifF hb46 hx44
                  refine WK_skip ?_
                  cases hx44
                  refine WK.sub ?_ (WK.cls (fun _ h => h) (hk45 L13 hL13))
                  exact ⟨rfl, rfl, rfl, rfl, rfl, rfl, rfl, trivial⟩
            · refine WK_region ?_
              refine WO_pure tbok 3 [(3, .pointer (some ⟨b1, 0, none⟩)), (4, .pointer (some ⟨b2, 0, none⟩)), (5, .int .i64 0), (7, .slice a9 ((y_6).length) c10), (9, .pointer (some ⟨b38, 0, none⟩)), (10, .int .i64 y_17), (11, .int .i64 y_18), (30, .slice a_p0 p0.length c_p0), (31, .int .i64 (p0.length : Int)), (32, .int .i64 s_8), (56, .bool (decide (0 ≤ y_17)))] rfl ⟨rfl, rfl, rfl, rfl, rfl, rfl, rfl, rfl, rfl, rfl, rfl, trivial⟩ ?_
              refine WO_split (d := 56) (b := decide (0 ≤ y_17)) rfl (fun hb51 => ?_) (fun hb51 => ?_)
              · have hx41 := ifT hb51 hx41
                refine WO_pure tbok 3 [(3, .pointer (some ⟨b1, 0, none⟩)), (4, .pointer (some ⟨b2, 0, none⟩)), (5, .int .i64 0), (7, .slice a9 ((y_6).length) c10), (9, .pointer (some ⟨b38, 0, none⟩)), (10, .int .i64 y_17), (11, .int .i64 y_18), (30, .slice a_p0 p0.length c_p0), (31, .int .i64 (p0.length : Int)), (32, .int .i64 s_8), (59, .bool (decide (0 ≤ y_18)))] rfl ⟨rfl, rfl, rfl, rfl, rfl, rfl, rfl, rfl, rfl, rfl, rfl, trivial⟩ ?_
                refine WO_end ?_
                cases hx41
                refine WK.sub ?_ (WK.cls (fun _ h => h) hk42)
                exact ⟨rfl, rfl, rfl, rfl, rfl, rfl, rfl, rfl, rfl, rfl, rfl, trivial⟩
              · have hx41 := ifF hb51 hx41
                refine WO_pure tbok 3 [(3, .pointer (some ⟨b1, 0, none⟩)), (4, .pointer (some ⟨b2, 0, none⟩)), (5, .int .i64 0), (7, .slice a9 ((y_6).length) c10), (9, .pointer (some ⟨b38, 0, none⟩)), (10, .int .i64 y_17), (11, .int .i64 y_18), (30, .slice a_p0 p0.length c_p0), (31, .int .i64 (p0.length : Int)), (32, .int .i64 s_8), (59, .bool false)] rfl ⟨rfl, rfl, rfl, rfl, rfl, rfl, rfl, rfl, rfl, rfl, rfl, trivial⟩ ?_
                refine WO_end ?_
                cases hx41
                refine WK.sub ?_ (WK.cls (fun _ h => h) hk42)
                exact ⟨rfl, rfl, rfl, rfl, rfl, rfl, rfl, rfl, rfl, rfl, rfl, trivial⟩
          · have hm18 := ifF hb35 hm18
            refine WK_exit rfl ?_
            cases hm18
            refine WK.sub ?_ (WK.cls (fun _ h => h) (hk17 (l_7, L13) ⟨(hd22 _ rfl), hL13⟩))
            exact ⟨rfl, rfl, rfl, rfl, trivial⟩
end Go.Proofs.Ytcaeieofjchpjaa
