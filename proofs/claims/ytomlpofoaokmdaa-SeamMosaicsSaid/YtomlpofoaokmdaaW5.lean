import Derived.Test.YtomlpofoaokmdaaTab
import Derived.Test.YtomlpofoaokmdaaM
import Derived.Test.YtomlpofoaokmdaaW4
set_option linter.unusedVariables false
set_option maxRecDepth 100000
set_option maxHeartbeats 4000000
namespace Go.Proofs.Ytomlpofoaokmdaa
open Go.E Go.RowKit
attribute [local irreducible] Go.E.WO Go.E.WK
def fiducialref13_Copy_Q (r : Int × Int × Int × List Int) : Value → List Ent → Prop := fun v L => ∃ (a0 : Option Addr) (q0 c0 : Nat), v = .agg #[.int .i64 r.1, .int .i64 r.2.1, .int .i64 r.2.2.1, .slice a0 q0 c0] ∧ OwnE 3 1 (I1 .i64) (.slice a0 q0 c0) r.2.2.2 L
theorem fiducialref13_Copy_walk {m : Mu} {p0_0 : Int} {p0_1 : Int} {p0_2 : Int} {p0_3 : List Int} {a_p0_3 : Option Addr} {q_p0_3 c_p0_3 : Nat} (h_p0_3 : SlR (FE (I1 .i64)) 1 m (.slice a_p0_3 q_p0_3 c_p0_3) p0_3) {r : Int × Int × Int × List Int} (hm : fiducialref13_Copy p0_0 p0_1 p0_2 p0_3 = some r) :
    Go.E.Spec Try.prog 54 [.agg #[.int .i64 p0_0, .int .i64 p0_1, .int .i64 p0_2, .slice a_p0_3 q_p0_3 c_p0_3]] m (fun v _ L => fiducialref13_Copy_Q r v L) := by
  refine Spec_enter Try.func54 rfl rfl rfl (fun w0 => ?_)
  refine WK.sub (e' := [(0, .agg #[.int .i64 p0_0, .int .i64 p0_1, .int .i64 p0_2, .slice a_p0_3 q_p0_3 c_p0_3])]) ⟨rfl, trivial⟩ ?_
  obtain rfl := SlR.qlen h_p0_3
  refine WK.sub (e' := [(0, .agg #[.int .i64 p0_0, .int .i64 p0_1, .int .i64 p0_2, .slice a_p0_3 p0_3.length c_p0_3])]) ⟨rfl, trivial⟩ ?_
  unfold fiducialref13_Copy at hm
  refine WK_seq ?_
  refine WK_region ?_
  refine WO_box [.int .i64 p0_0, .int .i64 p0_1, .int .i64 p0_2, .slice a_p0_3 p0_3.length c_p0_3] rfl rfl trivial rfl rfl rfl (fun b2 => ?_)
  refine WO.cls (C' := St w0 m m [[⟨b2, 50, [.int .i64 p0_0, .int .i64 p0_1, .int .i64 p0_2, .slice a_p0_3 p0_3.length c_p0_3]⟩]]) (fun _ h => h) ?_
  refine WO_alloc tbok [.int .i64 0, .int .i64 0, .int .i64 0, .slice none 0 0] rfl rfl trivial rfl rfl rfl rfl (fun b3 => ?_)
  refine WO.cls (C' := St w0 m m [[⟨b2, 50, [.int .i64 p0_0, .int .i64 p0_1, .int .i64 p0_2, .slice a_p0_3 p0_3.length c_p0_3]⟩], [⟨b3, 50, [.int .i64 0, .int .i64 0, .int .i64 0, .slice none 0 0]⟩]]) (fun _ h => h) ?_
  refine WO_end ?_
  refine WK_seq ?_
  refine WK_region ?_
  refine WO_bslice (E := (I1 .i64)) tbok (fun _ => rfl) (by decide) [] ([] : List Int) rfl rfl trivial rfl rfl rfl rfl rfl rfl rfl rfl rfl rfl rfl rfl (fun b4 hb4 => ?_)
  refine WO.cls (C' := St w0 m m [[⟨b2, 50, [.int .i64 p0_0, .int .i64 p0_1, .int .i64 p0_2, .slice a_p0_3 p0_3.length c_p0_3]⟩], [⟨b3, 50, [.int .i64 0, .int .i64 0, .int .i64 0, .slice none 0 0]⟩], [⟨b4, 3, ([] : List Int).flatMap (I1 .i64)⟩]]) (fun _ h => h) ?_
  refine WO_pure tbok 1 [(1, .pointer (some ⟨b2, 0, none⟩)), (2, .pointer (some ⟨b3, 0, none⟩)), (3, .slice (some ⟨b4, 0, none⟩) 0 0), (4, .pointer (some ⟨b2, 3, none⟩))] rfl ⟨rfl, rfl, rfl, rfl, trivial⟩ ?_
  refine WO_loadB tbok 0 rfl rfl rfl rfl (fun _ h => h) rfl rfl ?_
  obtain ⟨hc6, hm⟩ := chk_some hm
  refine WO_appendS (E := (I1 .i64)) tbok (fun _ => rfl) (by decide) (fun _ => rfl) 2 p0_3 rfl rfl rfl rfl rfl rfl rfl rfl rfl rfl rfl rfl hb4 rfl (fun w hw => ⟨_, hw.sat, h_p0_3⟩) (ap_ok (by decide) hc6) (ap_max hc6) (fun a7 c8 L9 hL9 => ?_)
  refine WO.cls (C' := St w0 m m [[⟨b2, 50, [.int .i64 p0_0, .int .i64 p0_1, .int .i64 p0_2, .slice a_p0_3 p0_3.length c_p0_3]⟩], [⟨b3, 50, [.int .i64 0, .int .i64 0, .int .i64 0, .slice none 0 0]⟩], L9]) (fun _ h => h) ?_
  refine WO_pure tbok 1 [(1, .pointer (some ⟨b2, 0, none⟩)), (2, .pointer (some ⟨b3, 0, none⟩)), (6, .slice a7 ((([] : List Int) ++ p0_3).length) c8), (7, .pointer (some ⟨b2, 3, none⟩))] rfl ⟨rfl, rfl, rfl, rfl, trivial⟩ ?_
  refine WO_storeB tbok 0 [.int .i64 p0_0, .int .i64 p0_1, .int .i64 p0_2, .slice a7 ((([] : List Int) ++ p0_3).length) c8] rfl rfl rfl rfl rfl rfl rfl ?_
  refine WO.cls (C' := St w0 m m [[⟨b2, 50, [.int .i64 p0_0, .int .i64 p0_1, .int .i64 p0_2, .slice a7 ((([] : List Int) ++ p0_3).length) c8]⟩], [⟨b3, 50, [.int .i64 0, .int .i64 0, .int .i64 0, .slice none 0 0]⟩], L9]) (fun _ h => h) ?_
  refine WO_end ?_
  refine WK_seq ?_
  refine WK_region ?_
  refine WO_loadB tbok 0 rfl rfl rfl rfl (fun _ h => h) rfl rfl ?_
  refine WO_storeB tbok 1 [.int .i64 p0_0, .int .i64 p0_1, .int .i64 p0_2, .slice a7 ((([] : List Int) ++ p0_3).length) c8] rfl rfl rfl rfl rfl rfl rfl ?_
  refine WO.cls (C' := St w0 m m [[⟨b2, 50, [.int .i64 p0_0, .int .i64 p0_1, .int .i64 p0_2, .slice a7 ((([] : List Int) ++ p0_3).length) c8]⟩], [⟨b3, 50, [.int .i64 p0_0, .int .i64 p0_1, .int .i64 p0_2, .slice a7 ((([] : List Int) ++ p0_3).length) c8]⟩], L9]) (fun _ h => h) ?_
  refine WO_end ?_
  cases hm
  exact WK_ret (ret_out (L := L9) (RLc_cell tbok 1 rfl rfl rfl RLc_nil) (seg_sub 2 rfl) ⟨a7, ((([] : List Int) ++ p0_3).length), c8, rfl, hL9⟩)
def fiduciallaw50_mosaicked_Q (r : Int × Int × Int × List Int × Int) : Value → List Ent → Prop := fun v L => ∃ (a0 : Option Addr) (q0 c0 : Nat), v = .tuple #[.agg #[.int .i64 r.1, .int .i64 r.2.1, .int .i64 r.2.2.1, .slice a0 q0 c0], .int .i64 r.2.2.2.2] ∧ OwnE 3 1 (I1 .i64) (.slice a0 q0 c0) r.2.2.2.1 L
theorem fiduciallaw50_mosaicked_walk {m : Mu} {p0_0 : Int} {p0_1 : Int} {p0_2 : Int} {p0_3 : List Int} {p1_0 : Int} {p1_1 : Int} {p1_2 : Int} {p1_3 : List Int} {p2 : List Int} {a_p0_3 : Option Addr} {q_p0_3 c_p0_3 : Nat} {a_p1_3 : Option Addr} {q_p1_3 c_p1_3 : Nat} {a_p2 : Option Addr} {q_p2 c_p2 : Nat} (h_p0_3 : SlR (FE (I1 .i64)) 1 m (.slice a_p0_3 q_p0_3 c_p0_3) p0_3) (h_p1_3 : SlR (FE (I1 .i64)) 1 m (.slice a_p1_3 q_p1_3 c_p1_3) p1_3) (h_p2 : SlR (FE (I1 .i64)) 1 m (.slice a_p2 q_p2 c_p2) p2) {r : Int × Int × Int × List Int × Int} (hm : fiduciallaw50_mosaicked p0_0 p0_1 p0_2 p0_3 p1_0 p1_1 p1_2 p1_3 p2 = some r) :
    Go.E.Spec Try.prog 31 [.agg #[.int .i64 p0_0, .int .i64 p0_1, .int .i64 p0_2, .slice a_p0_3 q_p0_3 c_p0_3], .agg #[.int .i64 p1_0, .int .i64 p1_1, .int .i64 p1_2, .slice a_p1_3 q_p1_3 c_p1_3], .slice a_p2 q_p2 c_p2] m (fun v _ L => fiduciallaw50_mosaicked_Q r v L) := by
  refine Spec_enter Try.func31 rfl rfl rfl (fun w0 => ?_)
  refine WK.sub (e' := [(0, .agg #[.int .i64 p0_0, .int .i64 p0_1, .int .i64 p0_2, .slice a_p0_3 q_p0_3 c_p0_3]), (1, .agg #[.int .i64 p1_0, .int .i64 p1_1, .int .i64 p1_2, .slice a_p1_3 q_p1_3 c_p1_3]), (2, .slice a_p2 q_p2 c_p2)]) ⟨rfl, rfl, rfl, trivial⟩ ?_
  obtain rfl := SlR.qlen h_p0_3
  obtain rfl := SlR.qlen h_p1_3
  obtain rfl := SlR.qlen h_p2
  refine WK.sub (e' := [(0, .agg #[.int .i64 p0_0, .int .i64 p0_1, .int .i64 p0_2, .slice a_p0_3 p0_3.length c_p0_3]), (1, .agg #[.int .i64 p1_0, .int .i64 p1_1, .int .i64 p1_2, .slice a_p1_3 p1_3.length c_p1_3]), (2, .slice a_p2 p2.length c_p2)]) ⟨rfl, rfl, rfl, trivial⟩ ?_
  unfold fiduciallaw50_mosaicked at hm
  refine WK_seq ?_
  refine WK_region ?_
  refine WO_box [.int .i64 p0_0, .int .i64 p0_1, .int .i64 p0_2, .slice a_p0_3 p0_3.length c_p0_3] rfl rfl trivial rfl rfl rfl (fun b4 => ?_)
  refine WO.cls (C' := St w0 m m [[⟨b4, 50, [.int .i64 p0_0, .int .i64 p0_1, .int .i64 p0_2, .slice a_p0_3 p0_3.length c_p0_3]⟩]]) (fun _ h => h) ?_
  refine WO_box [.int .i64 p1_0, .int .i64 p1_1, .int .i64 p1_2, .slice a_p1_3 p1_3.length c_p1_3] rfl rfl trivial rfl rfl rfl (fun b5 => ?_)
  refine WO.cls (C' := St w0 m m [[⟨b4, 50, [.int .i64 p0_0, .int .i64 p0_1, .int .i64 p0_2, .slice a_p0_3 p0_3.length c_p0_3]⟩], [⟨b5, 50, [.int .i64 p1_0, .int .i64 p1_1, .int .i64 p1_2, .slice a_p1_3 p1_3.length c_p1_3]⟩]]) (fun _ h => h) ?_
  refine WO_alloc tbok [.int .i64 0, .int .i64 0, .int .i64 0, .slice none 0 0] rfl rfl trivial rfl rfl rfl rfl (fun b6 => ?_)
  refine WO.cls (C' := St w0 m m [[⟨b4, 50, [.int .i64 p0_0, .int .i64 p0_1, .int .i64 p0_2, .slice a_p0_3 p0_3.length c_p0_3]⟩], [⟨b5, 50, [.int .i64 p1_0, .int .i64 p1_1, .int .i64 p1_2, .slice a_p1_3 p1_3.length c_p1_3]⟩], [⟨b6, 50, [.int .i64 0, .int .i64 0, .int .i64 0, .slice none 0 0]⟩]]) (fun _ h => h) ?_
  refine WO_pure tbok 1 [(2, .slice a_p2 p2.length c_p2), (3, .pointer (some ⟨b4, 0, none⟩)), (4, .pointer (some ⟨b5, 0, none⟩)), (6, .pointer (some ⟨b6, 0, none⟩)), (7, .int .i64 0)] rfl ⟨rfl, rfl, rfl, rfl, rfl, trivial⟩ ?_
  refine WO_end ?_
  refine WK_seq ?_
  refine WK_seq ?_
  refine WK_region ?_
  refine WO_loadB tbok 0 rfl rfl rfl rfl (fun _ h => h) rfl rfl ?_
  refine WO_loadB tbok 1 rfl rfl rfl rfl (fun _ h => h) rfl rfl ?_
  obtain ⟨y_1, hc7, hm⟩ := bind_some hm
  refine WO_call0 (.int .i64 y_1) rfl rfl trivial rfl rfl rfl rfl St_closed ⟨33, #[], #[], rfl, callable_33, fun w hw => ⟨_, hw.sat, fiduciallaw50_fits_walk h_p0_3 h_p1_3 hc7⟩⟩ ?_
  refine WO_pure tbok 1 [(2, .slice a_p2 p2.length c_p2), (3, .pointer (some ⟨b4, 0, none⟩)), (4, .pointer (some ⟨b5, 0, none⟩)), (6, .pointer (some ⟨b6, 0, none⟩)), (7, .int .i64 0), (8, .int .i64 y_1)] rfl ⟨rfl, rfl, rfl, rfl, rfl, rfl, trivial⟩ ?_
  refine WO_end ?_
  refine WK_seq ?_
  refine WK_region ?_
  refine WO_pure tbok 2 [(2, .slice a_p2 p2.length c_p2), (3, .pointer (some ⟨b4, 0, none⟩)), (4, .pointer (some ⟨b5, 0, none⟩)), (6, .pointer (some ⟨b6, 0, none⟩)), (7, .int .i64 0), (8, .int .i64 y_1), (15, .bool (y_1 != 0))] rfl ⟨rfl, rfl, rfl, rfl, rfl, rfl, rfl, trivial⟩ ?_
  refine WO_end ?_
  refine WK_cond (b := y_1 != 0) rfl (fun hb8 => ?_) (fun hb8 => ?_)
  · have hm := ifT hb8 hm
    refine WK_seq ?_
    refine WK_region ?_
    refine WO_pure tbok 2 [(2, .slice a_p2 p2.length c_p2), (3, .pointer (some ⟨b4, 0, none⟩)), (4, .pointer (some ⟨b5, 0, none⟩)), (6, .pointer (some ⟨b6, 0, none⟩)), (7, .int .i64 0), (16, .agg #[.int .i64 0, .int .i64 0, .int .i64 0, .slice none 0 0]), (17, .int .i64 y_1)] rfl ⟨rfl, rfl, rfl, rfl, rfl, rfl, rfl, trivial⟩ ?_
    refine WO_storeB tbok 2 [.int .i64 0, .int .i64 0, .int .i64 0, .slice none 0 0] rfl rfl rfl rfl rfl rfl rfl ?_
    refine WO.cls (C' := St w0 m m [[⟨b4, 50, [.int .i64 p0_0, .int .i64 p0_1, .int .i64 p0_2, .slice a_p0_3 p0_3.length c_p0_3]⟩], [⟨b5, 50, [.int .i64 p1_0, .int .i64 p1_1, .int .i64 p1_2, .slice a_p1_3 p1_3.length c_p1_3]⟩], [⟨b6, 50, [.int .i64 0, .int .i64 0, .int .i64 0, .slice none 0 0]⟩]]) (fun _ h => h) ?_
    refine WO_pure tbok 1 [(2, .slice a_p2 p2.length c_p2), (3, .pointer (some ⟨b4, 0, none⟩)), (4, .pointer (some ⟨b5, 0, none⟩)), (6, .pointer (some ⟨b6, 0, none⟩)), (7, .int .i64 y_1)] rfl ⟨rfl, rfl, rfl, rfl, rfl, trivial⟩ ?_
    refine WO_end ?_
    cases hm
    exact WK_ret (ret_out (L := []) (RLc_cell tbok 2 rfl rfl rfl (RLc_tmp rfl RLc_nil)) (List.nil_sublist _) ⟨none, 0, 0, rfl, (OwnE.nil none)⟩)
  · have hm := ifF hb8 hm
    refine WK_skip ?_
    refine WK_seq ?_
    refine WK_seq ?_
    obtain ⟨s_2, hx9, hm⟩ := bind_some hm
    refine WK_meet [(2, .slice a_p2 p2.length c_p2), (3, .pointer (some ⟨b4, 0, none⟩)), (4, .pointer (some ⟨b5, 0, none⟩)), (6, .pointer (some ⟨b6, 0, none⟩)), (7, .int .i64 0), (27, .bool s_2)] (St w0 m m [[⟨b4, 50, [.int .i64 p0_0, .int .i64 p0_1, .int .i64 p0_2, .slice a_p0_3 p0_3.length c_p0_3]⟩], [⟨b5, 50, [.int .i64 p1_0, .int .i64 p1_1, .int .i64 p1_2, .slice a_p1_3 p1_3.length c_p1_3]⟩], [⟨b6, 50, [.int .i64 0, .int .i64 0, .int .i64 0, .slice none 0 0]⟩]]) ?_ (fun hk10 => ?_)
    · refine WK_cond (b := s_2) rfl (fun hb11 => ?_) (fun hb11 => ?_)
      · have hm := ifT hb11 hm
        refine WK_seq ?_
        refine WK_region ?_
        refine WO_pure tbok 1 [(2, .slice a_p2 p2.length c_p2), (3, .pointer (some ⟨b4, 0, none⟩)), (4, .pointer (some ⟨b5, 0, none⟩)), (6, .pointer (some ⟨b6, 0, none⟩)), (7, .int .i64 0), (28, .agg #[.int .i64 0, .int .i64 0, .int .i64 0, .slice none 0 0])] rfl ⟨rfl, rfl, rfl, rfl, rfl, rfl, trivial⟩ ?_
        refine WO_storeB tbok 2 [.int .i64 0, .int .i64 0, .int .i64 0, .slice none 0 0] rfl rfl rfl rfl rfl rfl rfl ?_
        refine WO.cls (C' := St w0 m m [[⟨b4, 50, [.int .i64 p0_0, .int .i64 p0_1, .int .i64 p0_2, .slice a_p0_3 p0_3.length c_p0_3]⟩], [⟨b5, 50, [.int .i64 p1_0, .int .i64 p1_1, .int .i64 p1_2, .slice a_p1_3 p1_3.length c_p1_3]⟩], [⟨b6, 50, [.int .i64 0, .int .i64 0, .int .i64 0, .slice none 0 0]⟩]]) (fun _ h => h) ?_
        refine WO_pure tbok 1 [(2, .slice a_p2 p2.length c_p2), (3, .pointer (some ⟨b4, 0, none⟩)), (4, .pointer (some ⟨b5, 0, none⟩)), (6, .pointer (some ⟨b6, 0, none⟩)), (7, .int .i64 11)] rfl ⟨rfl, rfl, rfl, rfl, rfl, trivial⟩ ?_
        refine WO_end ?_
        cases hm
        exact WK_ret (ret_out (L := []) (RLc_cell tbok 2 rfl rfl rfl (RLc_tmp rfl RLc_nil)) (List.nil_sublist _) ⟨none, 0, 0, rfl, (OwnE.nil none)⟩)
      · have hm := ifF hb11 hm
        refine WK_skip ?_
        refine WK_seq ?_
        refine WK_region ?_
        refine WO_loadB tbok 1 rfl rfl rfl rfl (fun _ h => h) rfl rfl ?_
        obtain ⟨⟨y_3, y_4, y_5, y_6⟩, hc12, hm⟩ := bind_some hm
        refine WO_call1 (fiducialref13_Copy_Q (y_3, y_4, y_5, y_6)) rfl rfl trivial rfl rfl rfl rfl ⟨54, #[], #[], rfl, callable_54, fun w hw => ⟨_, hw.sat, fiducialref13_Copy_walk h_p1_3 hc12⟩⟩ (fun v17 L16 hq => ?_)
        obtain ⟨a13, qa13, c14, rfl, hL16⟩ := hq
        obtain rfl := OwnE.qlen hL16
        refine WO.cls (C' := St w0 m m [[⟨b4, 50, [.int .i64 p0_0, .int .i64 p0_1, .int .i64 p0_2, .slice a_p0_3 p0_3.length c_p0_3]⟩], [⟨b5, 50, [.int .i64 p1_0, .int .i64 p1_1, .int .i64 p1_2, .slice a_p1_3 p1_3.length c_p1_3]⟩], [⟨b6, 50, [.int .i64 0, .int .i64 0, .int .i64 0, .slice none 0 0]⟩], L16]) (fun _ h => h) ?_
        refine WO_alloc tbok [.int .i64 0, .int .i64 0, .int .i64 0, .slice none 0 0] rfl rfl trivial rfl rfl rfl rfl (fun b18 => ?_)
        refine WO.cls (C' := St w0 m m [[⟨b4, 50, [.int .i64 p0_0, .int .i64 p0_1, .int .i64 p0_2, .slice a_p0_3 p0_3.length c_p0_3]⟩], [⟨b5, 50, [.int .i64 p1_0, .int .i64 p1_1, .int .i64 p1_2, .slice a_p1_3 p1_3.length c_p1_3]⟩], [⟨b6, 50, [.int .i64 0, .int .i64 0, .int .i64 0, .slice none 0 0]⟩], L16, [⟨b18, 50, [.int .i64 0, .int .i64 0, .int .i64 0, .slice none 0 0]⟩]]) (fun _ h => h) ?_
        refine WO_storeB tbok 4 [.int .i64 y_3, .int .i64 y_4, .int .i64 y_5, .slice a13 ((y_6).length) c14] rfl rfl rfl rfl rfl rfl rfl ?_
        refine WO.cls (C' := St w0 m m [[⟨b4, 50, [.int .i64 p0_0, .int .i64 p0_1, .int .i64 p0_2, .slice a_p0_3 p0_3.length c_p0_3]⟩], [⟨b5, 50, [.int .i64 p1_0, .int .i64 p1_1, .int .i64 p1_2, .slice a_p1_3 p1_3.length c_p1_3]⟩], [⟨b6, 50, [.int .i64 0, .int .i64 0, .int .i64 0, .slice none 0 0]⟩], L16, [⟨b18, 50, [.int .i64 y_3, .int .i64 y_4, .int .i64 y_5, .slice a13 ((y_6).length) c14]⟩]]) (fun _ h => h) ?_
        refine WO_end ?_
        refine WK_seq ?_
        refine WK_seq ?_
        refine WK_region ?_
        refine WO_pure tbok 1 [(2, .slice a_p2 p2.length c_p2), (3, .pointer (some ⟨b4, 0, none⟩)), (6, .pointer (some ⟨b6, 0, none⟩)), (7, .int .i64 0), (9, .pointer (some ⟨b18, 0, none⟩)), (31, .pointer (some ⟨b18, 3, none⟩))] rfl ⟨rfl, rfl, rfl, rfl, rfl, rfl, trivial⟩ ?_
        refine WO_loadB tbok 4 rfl rfl rfl rfl (fun _ h => h) rfl rfl ?_
        refine WO_pure tbok 2 [(2, .slice a_p2 p2.length c_p2), (3, .pointer (some ⟨b4, 0, none⟩)), (6, .pointer (some ⟨b6, 0, none⟩)), (7, .int .i64 0), (9, .pointer (some ⟨b18, 0, none⟩)), (33, .int .i64 ((y_6).length : Int)), (34, .int .i64 0)] rfl ⟨rfl, rfl, rfl, rfl, rfl, rfl, rfl, trivial⟩ ?_
        refine WO_end ?_
        obtain ⟨x23, hx24, hm⟩ := bind_some hm
        refine WK_join (β := (List Int) × (List Ent)) (fun p => p.1 = x23 ∧ OwnE 3 1 (I1 .i64) (.slice a13 ((y_6).length) c14) p.1 p.2) (fun p => [(6, .pointer (some ⟨b6, 0, none⟩)), (7, .int .i64 0), (9, .pointer (some ⟨b18, 0, none⟩))]) (fun p => St w0 m m [[⟨b4, 50, [.int .i64 p0_0, .int .i64 p0_1, .int .i64 p0_2, .slice a_p0_3 p0_3.length c_p0_3]⟩], [⟨b5, 50, [.int .i64 p1_0, .int .i64 p1_1, .int .i64 p1_2, .slice a_p1_3 p1_3.length c_p1_3]⟩], [⟨b6, 50, [.int .i64 0, .int .i64 0, .int .i64 0, .slice none 0 0]⟩], p.2, [⟨b18, 50, [.int .i64 y_3, .int .i64 y_4, .int .i64 y_5, .slice a13 ((y_6).length) c14]⟩]]) ?_ (fun hk25 => ?_)
        · rintro ⟨l_9, L22⟩ ⟨hq31, hL22⟩
          subst hq31
          refine WK.sub (e' := [(6, .pointer (some ⟨b6, 0, none⟩)), (7, .int .i64 0), (9, .pointer (some ⟨b18, 0, none⟩))]) ⟨rfl, rfl, rfl, trivial⟩ (WK.cls (C' := St w0 m m [[⟨b4, 50, [.int .i64 p0_0, .int .i64 p0_1, .int .i64 p0_2, .slice a_p0_3 p0_3.length c_p0_3]⟩], [⟨b5, 50, [.int .i64 p1_0, .int .i64 p1_1, .int .i64 p1_2, .slice a_p1_3 p1_3.length c_p1_3]⟩], [⟨b6, 50, [.int .i64 0, .int .i64 0, .int .i64 0, .slice none 0 0]⟩], L22, [⟨b18, 50, [.int .i64 y_3, .int .i64 y_4, .int .i64 y_5, .slice a13 ((y_6).length) c14]⟩]]) (fun _ h => h) ?_)
          refine WK_seq ?_
          refine WK_region ?_
          refine WO_loadB tbok 4 rfl rfl rfl rfl (fun _ h => h) rfl rfl ?_
          refine WO_storeB tbok 2 [.int .i64 y_3, .int .i64 y_4, .int .i64 y_5, .slice a13 ((y_6).length) c14] rfl rfl rfl rfl rfl rfl rfl ?_
          refine WO.cls (C' := St w0 m m [[⟨b4, 50, [.int .i64 p0_0, .int .i64 p0_1, .int .i64 p0_2, .slice a_p0_3 p0_3.length c_p0_3]⟩], [⟨b5, 50, [.int .i64 p1_0, .int .i64 p1_1, .int .i64 p1_2, .slice a_p1_3 p1_3.length c_p1_3]⟩], [⟨b6, 50, [.int .i64 y_3, .int .i64 y_4, .int .i64 y_5, .slice a13 ((y_6).length) c14]⟩], L22, [⟨b18, 50, [.int .i64 y_3, .int .i64 y_4, .int .i64 y_5, .slice a13 ((y_6).length) c14]⟩]]) (fun _ h => h) ?_
          refine WO_pure tbok 1 [(6, .pointer (some ⟨b6, 0, none⟩)), (7, .int .i64 0)] rfl ⟨rfl, rfl, trivial⟩ ?_
          refine WO_end ?_
          cases hm
          exact WK_ret (ret_out (L := L22) (RLc_cell tbok 2 rfl rfl rfl (RLc_tmp rfl RLc_nil)) (seg_sub 3 rfl) ⟨a13, _, c14, rfl, hL22⟩)
        · refine WK_block ?_
          refine WK_loop (S := List Int × Int) (G := List Ent) (fun s => fiduciallaw50_mosaicked_s1 p0_0 p0_3 p2 y_6 s.1 s.2) (fun s g => [(2, .slice a_p2 p2.length c_p2), (3, .pointer (some ⟨b4, 0, none⟩)), (6, .pointer (some ⟨b6, 0, none⟩)), (7, .int .i64 0), (9, .pointer (some ⟨b18, 0, none⟩)), (33, .int .i64 ((y_6).length : Int)), (34, .int .i64 s.2)]) (fun s g => St w0 m m [[⟨b4, 50, [.int .i64 p0_0, .int .i64 p0_1, .int .i64 p0_2, .slice a_p0_3 p0_3.length c_p0_3]⟩], [⟨b5, 50, [.int .i64 p1_0, .int .i64 p1_1, .int .i64 p1_2, .slice a_p1_3 p1_3.length c_p1_3]⟩], [⟨b6, 50, [.int .i64 0, .int .i64 0, .int .i64 0, .slice none 0 0]⟩], g, [⟨b18, 50, [.int .i64 y_3, .int .i64 y_4, .int .i64 y_5, .slice a13 ((y_6).length) c14]⟩]]) (fun s g => OwnE 3 1 (I1 .i64) (.slice a13 ((y_6).length) c14) s.1 g) FUEL (y_6, 0) L16 x23 hx24 hL16 ⟨rfl, rfl, rfl, rfl, rfl, rfl, rfl, trivial⟩ (fun _ h => h) ?_
          rintro ⟨l_7, s_8⟩ L20 o27 fl28 hm26 hL20 hn29 hd30
          have hm26 : fiduciallaw50_mosaicked_s1 p0_0 p0_3 p2 y_6 l_7 s_8 = some o27 := hm26
          unfold fiduciallaw50_mosaicked_s1 at hm26
          refine WK.sub (e' := [(2, .slice a_p2 p2.length c_p2), (3, .pointer (some ⟨b4, 0, none⟩)), (6, .pointer (some ⟨b6, 0, none⟩)), (7, .int .i64 0), (9, .pointer (some ⟨b18, 0, none⟩)), (33, .int .i64 ((y_6).length : Int)), (34, .int .i64 s_8)]) ⟨rfl, rfl, rfl, rfl, rfl, rfl, rfl, trivial⟩ (WK.cls (C' := St w0 m m [[⟨b4, 50, [.int .i64 p0_0, .int .i64 p0_1, .int .i64 p0_2, .slice a_p0_3 p0_3.length c_p0_3]⟩], [⟨b5, 50, [.int .i64 p1_0, .int .i64 p1_1, .int .i64 p1_2, .slice a_p1_3 p1_3.length c_p1_3]⟩], [⟨b6, 50, [.int .i64 0, .int .i64 0, .int .i64 0, .slice none 0 0]⟩], L20, [⟨b18, 50, [.int .i64 y_3, .int .i64 y_4, .int .i64 y_5, .slice a13 ((y_6).length) c14]⟩]]) (fun _ h => h) ?_)
          refine WK_seq ?_
          refine WK_region ?_
          refine WO_pure tbok 1 [(2, .slice a_p2 p2.length c_p2), (3, .pointer (some ⟨b4, 0, none⟩)), (6, .pointer (some ⟨b6, 0, none⟩)), (7, .int .i64 0), (9, .pointer (some ⟨b18, 0, none⟩)), (33, .int .i64 ((y_6).length : Int)), (34, .int .i64 s_8), (35, .bool (decide (s_8 < ((y_6).length : Int))))] rfl ⟨rfl, rfl, rfl, rfl, rfl, rfl, rfl, rfl, trivial⟩ ?_
          refine WO_end ?_
          refine WK_seq ?_
          refine WK_cond (b := decide (s_8 < ((y_6).length : Int))) rfl (fun hb32 => ?_) (fun hb32 => ?_)
          · have hm26 := ifT hb32 hm26
            refine WK_skip ?_
            refine WK_seq ?_
            refine WK_block ?_
            refine WK_seq ?_
            refine WK_region ?_
            refine WO_pure tbok 2 [(2, .slice a_p2 p2.length c_p2), (3, .pointer (some ⟨b4, 0, none⟩)), (6, .pointer (some ⟨b6, 0, none⟩)), (7, .int .i64 0), (9, .pointer (some ⟨b18, 0, none⟩)), (10, .int .i64 s_8), (33, .int .i64 ((y_6).length : Int)), (34, .int .i64 s_8)] rfl ⟨rfl, rfl, rfl, rfl, rfl, rfl, rfl, rfl, trivial⟩ ?_
            refine WO_end ?_
            refine WK_seq ?_
            refine WK_draw 12 [0, 1, 2, 3, 4, 5, 6, 7, 8, 9, 10, 11] follows_ok (by kernel_rfl) St_closed ?_
            refine WO_pure tbok 2 [(2, .slice a_p2 p2.length c_p2), (3, .pointer (some ⟨b4, 0, none⟩)), (6, .pointer (some ⟨b6, 0, none⟩)), (7, .int .i64 0), (9, .pointer (some ⟨b18, 0, none⟩)), (10, .int .i64 s_8), (33, .int .i64 ((y_6).length : Int)), (34, .int .i64 s_8), (37, .int .i64 s_8), (38, .pointer (some ⟨b4, 0, none⟩))] rfl ⟨rfl, rfl, rfl, rfl, rfl, rfl, rfl, rfl, rfl, rfl, trivial⟩ ?_
            refine WO_loadB tbok 0 rfl rfl rfl rfl (fun _ h => h) rfl rfl ?_
            obtain ⟨hc33, hm26⟩ := chk_some hm26
            refine WO_rem rfl rfl rfl rfl rfl hc33 ?_
            refine WO_pure tbok 3 [(2, .slice a_p2 p2.length c_p2), (3, .pointer (some ⟨b4, 0, none⟩)), (6, .pointer (some ⟨b6, 0, none⟩)), (7, .int .i64 0), (9, .pointer (some ⟨b18, 0, none⟩)), (10, .int .i64 s_8), (33, .int .i64 ((y_6).length : Int)), (34, .int .i64 s_8), (40, .int .i64 (Int.tmod s_8 p0_0)), (41, .slice a_p2 p2.length c_p2), (42, .int .i64 s_8), (43, .pointer (some ⟨b4, 0, none⟩))] rfl ⟨rfl, rfl, rfl, rfl, rfl, rfl, rfl, rfl, rfl, rfl, rfl, rfl, trivial⟩ ?_
            refine WO_loadB tbok 0 rfl rfl rfl rfl (fun _ h => h) rfl rfl ?_
            obtain ⟨hc34, hm26⟩ := chk_some hm26
            refine WO_quo rfl rfl rfl rfl rfl hc34 ?_
            obtain ⟨v_10, hy35, hm26⟩ := bind_some hm26
            obtain ⟨hc36, hy35⟩ := ix_some hy35
            refine WO_index tbok rfl rfl rfl rfl rfl rfl rfl rfl (SlR.addr h_p2) hc36 ?_
            refine WO_loadE tbok rfl rfl rfl rfl (fun _ h => St.sat h) h_p2 hy35 rfl ?_
            refine WO_pure tbok 1 [(2, .slice a_p2 p2.length c_p2), (3, .pointer (some ⟨b4, 0, none⟩)), (6, .pointer (some ⟨b6, 0, none⟩)), (7, .int .i64 0), (9, .pointer (some ⟨b18, 0, none⟩)), (10, .int .i64 s_8), (33, .int .i64 ((y_6).length : Int)), (34, .int .i64 s_8), (48, .bool (decide ((Int.tmod s_8 p0_0) < v_10)))] rfl ⟨rfl, rfl, rfl, rfl, rfl, rfl, rfl, rfl, rfl, trivial⟩ ?_
            refine WO_tail ?_
            refine WO_end ?_
            obtain ⟨l_11, hx39, hm26⟩ := bind_some hm26
            refine WK_join (β := List Ent) (fun p => OwnE 3 1 (I1 .i64) (.slice a13 ((y_6).length) c14) l_11 p) (fun p => [(2, .slice a_p2 p2.length c_p2), (3, .pointer (some ⟨b4, 0, none⟩)), (6, .pointer (some ⟨b6, 0, none⟩)), (7, .int .i64 0), (9, .pointer (some ⟨b18, 0, none⟩)), (33, .int .i64 ((y_6).length : Int)), (34, .int .i64 s_8)]) (fun p => St w0 m m [[⟨b4, 50, [.int .i64 p0_0, .int .i64 p0_1, .int .i64 p0_2, .slice a_p0_3 p0_3.length c_p0_3]⟩], [⟨b5, 50, [.int .i64 p1_0, .int .i64 p1_1, .int .i64 p1_2, .slice a_p1_3 p1_3.length c_p1_3]⟩], [⟨b6, 50, [.int .i64 0, .int .i64 0, .int .i64 0, .slice none 0 0]⟩], p, [⟨b18, 50, [.int .i64 y_3, .int .i64 y_4, .int .i64 y_5, .slice a13 ((y_6).length) c14]⟩]]) ?_ (fun hk40 => ?_)
            · rintro L38 hL38
              refine WK.sub (e' := [(2, .slice a_p2 p2.length c_p2), (3, .pointer (some ⟨b4, 0, none⟩)), (6, .pointer (some ⟨b6, 0, none⟩)), (7, .int .i64 0), (9, .pointer (some ⟨b18, 0, none⟩)), (33, .int .i64 ((y_6).length : Int)), (34, .int .i64 s_8)]) ⟨rfl, rfl, rfl, rfl, rfl, rfl, rfl, trivial⟩ (WK.cls (C' := St w0 m m [[⟨b4, 50, [.int .i64 p0_0, .int .i64 p0_1, .int .i64 p0_2, .slice a_p0_3 p0_3.length c_p0_3]⟩], [⟨b5, 50, [.int .i64 p1_0, .int .i64 p1_1, .int .i64 p1_2, .slice a_p1_3 p1_3.length c_p1_3]⟩], [⟨b6, 50, [.int .i64 0, .int .i64 0, .int .i64 0, .slice none 0 0]⟩], L38, [⟨b18, 50, [.int .i64 y_3, .int .i64 y_4, .int .i64 y_5, .slice a13 ((y_6).length) c14]⟩]]) (fun _ h => h) ?_)
              refine WK_blk ?_
              refine WK_region ?_
              refine WO_pure tbok 2 [(2, .slice a_p2 p2.length c_p2), (3, .pointer (some ⟨b4, 0, none⟩)), (6, .pointer (some ⟨b6, 0, none⟩)), (7, .int .i64 0), (9, .pointer (some ⟨b18, 0, none⟩)), (33, .int .i64 ((y_6).length : Int)), (34, .int .i64 (w64 (s_8 + 1)))] rfl ⟨rfl, rfl, rfl, rfl, rfl, rfl, rfl, trivial⟩ ?_
              refine WO_end ?_
              cases hm26
              refine WK.sub ?_ (WK.cls (fun _ h => h) (hn29 _ L38 rfl hL38))
              exact ⟨rfl, rfl, rfl, rfl, rfl, rfl, rfl, trivial⟩
            · refine WK_cond (b := decide ((Int.tmod s_8 p0_0) < v_10)) rfl (fun hb41 => ?_) (fun hb41 => ?_)
              · have hx39 := ifT hb41 hx39
                refine WK_draw 9 [0, 1, 2, 3, 4, 5, 6, 7, 8] follows_ok (by kernel_rfl) St_closed ?_
                refine WO_pure tbok 1 [(2, .slice a_p2 p2.length c_p2), (3, .pointer (some ⟨b4, 0, none⟩)), (6, .pointer (some ⟨b6, 0, none⟩)), (7, .int .i64 0), (9, .pointer (some ⟨b18, 0, none⟩)), (10, .int .i64 s_8), (33, .int .i64 ((y_6).length : Int)), (34, .int .i64 s_8), (49, .pointer (some ⟨b18, 3, none⟩))] rfl ⟨rfl, rfl, rfl, rfl, rfl, rfl, rfl, rfl, rfl, trivial⟩ ?_
                refine WO_loadB tbok 4 rfl rfl rfl rfl (fun _ h => h) rfl rfl ?_
                refine WO_pure tbok 2 [(2, .slice a_p2 p2.length c_p2), (3, .pointer (some ⟨b4, 0, none⟩)), (6, .pointer (some ⟨b6, 0, none⟩)), (7, .int .i64 0), (9, .pointer (some ⟨b18, 0, none⟩)), (10, .int .i64 s_8), (33, .int .i64 ((y_6).length : Int)), (34, .int .i64 s_8), (50, .slice a13 ((y_6).length) c14), (51, .int .i64 s_8), (52, .pointer (some ⟨b4, 3, none⟩))] rfl ⟨rfl, rfl, rfl, rfl, rfl, rfl, rfl, rfl, rfl, rfl, rfl, trivial⟩ ?_
                refine WO_loadB tbok 0 rfl rfl rfl rfl (fun _ h => h) rfl rfl ?_
                refine WO_pure tbok 1 [(2, .slice a_p2 p2.length c_p2), (3, .pointer (some ⟨b4, 0, none⟩)), (6, .pointer (some ⟨b6, 0, none⟩)), (7, .int .i64 0), (9, .pointer (some ⟨b18, 0, none⟩)), (33, .int .i64 ((y_6).length : Int)), (34, .int .i64 s_8), (50, .slice a13 ((y_6).length) c14), (51, .int .i64 s_8), (53, .slice a_p0_3 p0_3.length c_p0_3), (54, .int .i64 s_8)] rfl ⟨rfl, rfl, rfl, rfl, rfl, rfl, rfl, rfl, rfl, rfl, rfl, trivial⟩ ?_
                obtain ⟨v_12, hy42, hx39⟩ := bind_some hx39
                obtain ⟨hc43, hy42⟩ := ix_some hy42
                refine WO_index tbok rfl rfl rfl rfl rfl rfl rfl rfl (SlR.addr h_p0_3) hc43 ?_
                refine WO_loadE tbok rfl rfl rfl rfl (fun _ h => St.sat h) h_p0_3 hy42 rfl ?_
                obtain ⟨hc44, hx39⟩ := chk_some hx39
                refine WO_index tbok rfl rfl rfl rfl rfl rfl rfl rfl (OwnE.addr hL20) (by simpa using hc44) ?_
                refine WO_tail ?_
                refine WO_storeO (E := (I1 .i64)) tbok (fun _ => rfl) 3 v_12 rfl rfl rfl rfl rfl hL20 rfl (by simpa using idx_lt hc44) rfl rfl rfl rfl (fun L45 hL45 => ?_)
                refine WO.cls (C' := St w0 m m [[⟨b4, 50, [.int .i64 p0_0, .int .i64 p0_1, .int .i64 p0_2, .slice a_p0_3 p0_3.length c_p0_3]⟩], [⟨b5, 50, [.int .i64 p1_0, .int .i64 p1_1, .int .i64 p1_2, .slice a_p1_3 p1_3.length c_p1_3]⟩], [⟨b6, 50, [.int .i64 0, .int .i64 0, .int .i64 0, .slice none 0 0]⟩], L45, [⟨b18, 50, [.int .i64 y_3, .int .i64 y_4, .int .i64 y_5, .slice a13 ((y_6).length) c14]⟩]]) (fun _ h => h) ?_
                refine WO_end ?_
                cases hx39
                refine WK.sub ?_ (WK.cls (fun _ h => h) (hk40 L45 hL45))
                exact ⟨rfl, rfl, rfl, rfl, rfl, rfl, rfl, trivial⟩
              · have hx39 := ifF hb41 hx39
                refine WK_skip ?_
                cases hx39
                refine WK.sub ?_ (WK.cls (fun _ h => h) (hk40 L20 hL20))
                exact ⟨rfl, rfl, rfl, rfl, rfl, rfl, rfl, trivial⟩
          · have hm26 := ifF hb32 hm26
            refine WK_exit rfl ?_
            cases hm26
            refine WK.sub ?_ (WK.cls (fun _ h => h) (hk25 (l_7, L20) ⟨(hd30 _ rfl), hL20⟩))
            exact ⟨rfl, rfl, rfl, trivial⟩
    · refine WK_region ?_
      refine WO_pure tbok 3 [(2, .slice a_p2 p2.length c_p2), (3, .pointer (some ⟨b4, 0, none⟩)), (4, .pointer (some ⟨b5, 0, none⟩)), (6, .pointer (some ⟨b6, 0, none⟩)), (7, .int .i64 0), (19, .int .i64 (p2.length : Int)), (20, .pointer (some ⟨b4, 1, none⟩))] rfl ⟨rfl, rfl, rfl, rfl, rfl, rfl, rfl, trivial⟩ ?_
      refine WO_loadB tbok 0 rfl rfl rfl rfl (fun _ h => h) rfl rfl ?_
      refine WO_pure tbok 2 [(2, .slice a_p2 p2.length c_p2), (3, .pointer (some ⟨b4, 0, none⟩)), (4, .pointer (some ⟨b5, 0, none⟩)), (6, .pointer (some ⟨b6, 0, none⟩)), (7, .int .i64 0), (23, .bool ((p2.length : Int) != p0_1))] rfl ⟨rfl, rfl, rfl, rfl, rfl, rfl, trivial⟩ ?_
      refine WO_split (d := 23) (b := (p2.length : Int) != p0_1) rfl (fun hb47 => ?_) (fun hb47 => ?_)
      · have hx9 := ifT hb47 hx9
        refine WO_pure tbok 2 [(2, .slice a_p2 p2.length c_p2), (3, .pointer (some ⟨b4, 0, none⟩)), (4, .pointer (some ⟨b5, 0, none⟩)), (6, .pointer (some ⟨b6, 0, none⟩)), (7, .int .i64 0), (23, .bool true)] rfl ⟨rfl, rfl, rfl, rfl, rfl, rfl, trivial⟩ ?_
        refine WO_skip rfl rfl ?_
        refine WO_pure tbok 1 [(2, .slice a_p2 p2.length c_p2), (3, .pointer (some ⟨b4, 0, none⟩)), (4, .pointer (some ⟨b5, 0, none⟩)), (6, .pointer (some ⟨b6, 0, none⟩)), (7, .int .i64 0), (27, .bool true)] rfl ⟨rfl, rfl, rfl, rfl, rfl, rfl, trivial⟩ ?_
        refine WO_end ?_
        cases hx9
        refine WK.sub ?_ (WK.cls (fun _ h => h) hk10)
        exact ⟨rfl, rfl, rfl, rfl, rfl, rfl, trivial⟩
      · have hx9 := ifF hb47 hx9
        refine WO_pure tbok 2 [(2, .slice a_p2 p2.length c_p2), (3, .pointer (some ⟨b4, 0, none⟩)), (4, .pointer (some ⟨b5, 0, none⟩)), (6, .pointer (some ⟨b6, 0, none⟩)), (7, .int .i64 0), (23, .bool false), (24, .slice a_p2 p2.length c_p2), (25, .func (.func 53) #[] #[.pointer (some ⟨b4, 0, none⟩)])] rfl ⟨rfl, rfl, rfl, rfl, rfl, rfl, rfl, rfl, trivial⟩ ?_
        obtain ⟨y_14, hc48, hx9⟩ := bind_some hx9
        refine WO_call0 (.bool y_14) rfl rfl trivial rfl rfl rfl rfl St_closed ⟨13, #[], #[], rfl, callable_13, fun w hw => ⟨_, hw.satV, slices_ContainsFunc_sint_walk (h_p2.mono (mono_FE _) hw.leV) (fun m1 hm1 z_13 _ h => specV_cap callable_53 (fiduciallaw50_mosaicked_c1_walk (hm1 _ _ (hw.memV (i := 0) rfl (List.mem_singleton.2 rfl))) ((h_p0_3.mono (mono_FE _) hw.leV).mono (mono_FE _) hm1) h)) hc48⟩⟩ ?_
        refine WO_pure tbok 1 [(2, .slice a_p2 p2.length c_p2), (3, .pointer (some ⟨b4, 0, none⟩)), (4, .pointer (some ⟨b5, 0, none⟩)), (6, .pointer (some ⟨b6, 0, none⟩)), (7, .int .i64 0), (27, .bool y_14)] rfl ⟨rfl, rfl, rfl, rfl, rfl, rfl, trivial⟩ ?_
        refine WO_end ?_
        cases hx9
        refine WK.sub ?_ (WK.cls (fun _ h => h) hk10)
        exact ⟨rfl, rfl, rfl, rfl, rfl, rfl, trivial⟩
theorem fiducialref13_Equal_walk {m : Mu} {p0_0 : Int} {p0_1 : Int} {p0_2 : Int} {p0_3 : List Int} {p1_0 : Int} {p1_1 : Int} {p1_2 : Int} {p1_3 : List Int} {a_p0_3 : Option Addr} {q_p0_3 c_p0_3 : Nat} {a_p1_3 : Option Addr} {q_p1_3 c_p1_3 : Nat} (h_p0_3 : SlR (FE (I1 .i64)) 1 m (.slice a_p0_3 q_p0_3 c_p0_3) p0_3) (h_p1_3 : SlR (FE (I1 .i64)) 1 m (.slice a_p1_3 q_p1_3 c_p1_3) p1_3) {r : Bool} (hm : fiducialref13_Equal p0_0 p0_1 p0_2 p0_3 p1_0 p1_1 p1_2 p1_3 = some r) :
    Go.E.Spec Try.prog 32 [.agg #[.int .i64 p0_0, .int .i64 p0_1, .int .i64 p0_2, .slice a_p0_3 q_p0_3 c_p0_3], .agg #[.int .i64 p1_0, .int .i64 p1_1, .int .i64 p1_2, .slice a_p1_3 q_p1_3 c_p1_3]] m (fun v _ _ => v = .bool r) := by
  refine Spec_enter Try.func32 rfl rfl rfl (fun w0 => ?_)
  refine WK.sub (e' := [(0, .agg #[.int .i64 p0_0, .int .i64 p0_1, .int .i64 p0_2, .slice a_p0_3 q_p0_3 c_p0_3]), (1, .agg #[.int .i64 p1_0, .int .i64 p1_1, .int .i64 p1_2, .slice a_p1_3 q_p1_3 c_p1_3])]) ⟨rfl, rfl, trivial⟩ ?_
  obtain rfl := SlR.qlen h_p0_3
  obtain rfl := SlR.qlen h_p1_3
  refine WK.sub (e' := [(0, .agg #[.int .i64 p0_0, .int .i64 p0_1, .int .i64 p0_2, .slice a_p0_3 p0_3.length c_p0_3]), (1, .agg #[.int .i64 p1_0, .int .i64 p1_1, .int .i64 p1_2, .slice a_p1_3 p1_3.length c_p1_3])]) ⟨rfl, rfl, trivial⟩ ?_
  unfold fiducialref13_Equal at hm
  refine WK_seq ?_
  refine WK_region ?_
  refine WO_box [.int .i64 p0_0, .int .i64 p0_1, .int .i64 p0_2, .slice a_p0_3 p0_3.length c_p0_3] rfl rfl trivial rfl rfl rfl (fun b3 => ?_)
  refine WO.cls (C' := St w0 m m [[⟨b3, 50, [.int .i64 p0_0, .int .i64 p0_1, .int .i64 p0_2, .slice a_p0_3 p0_3.length c_p0_3]⟩]]) (fun _ h => h) ?_
  refine WO_box [.int .i64 p1_0, .int .i64 p1_1, .int .i64 p1_2, .slice a_p1_3 p1_3.length c_p1_3] rfl rfl trivial rfl rfl rfl (fun b4 => ?_)
  refine WO.cls (C' := St w0 m m [[⟨b3, 50, [.int .i64 p0_0, .int .i64 p0_1, .int .i64 p0_2, .slice a_p0_3 p0_3.length c_p0_3]⟩], [⟨b4, 50, [.int .i64 p1_0, .int .i64 p1_1, .int .i64 p1_2, .slice a_p1_3 p1_3.length c_p1_3]⟩]]) (fun _ h => h) ?_
  refine WO_pure tbok 1 [(2, .pointer (some ⟨b3, 0, none⟩)), (3, .pointer (some ⟨b4, 0, none⟩)), (4, .bool false)] rfl ⟨rfl, rfl, rfl, trivial⟩ ?_
  refine WO_end ?_
  refine WK_seq ?_
  refine WK_seq ?_
  obtain ⟨s_1, hx5, hm⟩ := bind_some hm
  refine WK_meet [(2, .pointer (some ⟨b3, 0, none⟩)), (3, .pointer (some ⟨b4, 0, none⟩)), (4, .bool false), (33, .bool s_1)] (St w0 m m [[⟨b3, 50, [.int .i64 p0_0, .int .i64 p0_1, .int .i64 p0_2, .slice a_p0_3 p0_3.length c_p0_3]⟩], [⟨b4, 50, [.int .i64 p1_0, .int .i64 p1_1, .int .i64 p1_2, .slice a_p1_3 p1_3.length c_p1_3]⟩]]) ?_ (fun hk6 => ?_)
  · refine WK_cond (b := s_1) rfl (fun hb7 => ?_) (fun hb7 => ?_)
    · have hm := ifT hb7 hm
      refine WK_seq ?_
      refine WK_region ?_
      refine WO_pure tbok 1 [(2, .pointer (some ⟨b3, 0, none⟩)), (3, .pointer (some ⟨b4, 0, none⟩)), (4, .bool false)] rfl ⟨rfl, rfl, rfl, trivial⟩ ?_
      refine WO_end ?_
      cases hm
      exact WK_ret (ret_out (L := []) (RLc_tmp rfl RLc_nil) (List.nil_sublist _) rfl)
    · have hm := ifF hb7 hm
      refine WK_skip ?_
      refine WK_seq ?_
      refine WK_seq ?_
      refine WK_region ?_
      refine WO_pure tbok 1 [(2, .pointer (some ⟨b3, 0, none⟩)), (3, .pointer (some ⟨b4, 0, none⟩)), (4, .bool false), (5, .int .i64 0)] rfl ⟨rfl, rfl, rfl, rfl, trivial⟩ ?_
      refine WO_end ?_
      obtain ⟨x8, hx9, hm⟩ := bind_some hm
      refine WK_join (β := Unit × Unit) (fun p => Sum.inr p.1 = x8) (fun p => [(4, .bool false)]) (fun p => St w0 m m [[⟨b3, 50, [.int .i64 p0_0, .int .i64 p0_1, .int .i64 p0_2, .slice a_p0_3 p0_3.length c_p0_3]⟩], [⟨b4, 50, [.int .i64 p1_0, .int .i64 p1_1, .int .i64 p1_2, .slice a_p1_3 p1_3.length c_p1_3]⟩]]) ?_ (fun hk10 => ?_)
      · rintro ⟨⟨⟩, ⟨⟩⟩ hq16
        subst hq16
        refine WK.sub (e' := [(4, .bool false)]) ⟨rfl, trivial⟩ (WK.cls (C' := St w0 m m [[⟨b3, 50, [.int .i64 p0_0, .int .i64 p0_1, .int .i64 p0_2, .slice a_p0_3 p0_3.length c_p0_3]⟩], [⟨b4, 50, [.int .i64 p1_0, .int .i64 p1_1, .int .i64 p1_2, .slice a_p1_3 p1_3.length c_p1_3]⟩]]) (fun _ h => h) ?_)
        refine WK_seq ?_
        refine WK_region ?_
        refine WO_pure tbok 1 [(4, .bool true)] rfl ⟨rfl, trivial⟩ ?_
        refine WO_end ?_
        cases hm
        exact WK_ret (ret_out (L := []) (RLc_tmp rfl RLc_nil) (List.nil_sublist _) rfl)
      · refine WK_block ?_
        refine WK_loop (S := Int) (G := Unit) (fun s => fiducialref13_Equal_s1 p0_3 p1_3 s) (fun s g => [(2, .pointer (some ⟨b3, 0, none⟩)), (3, .pointer (some ⟨b4, 0, none⟩)), (4, .bool false), (5, .int .i64 s)]) (fun s g => St w0 m m [[⟨b3, 50, [.int .i64 p0_0, .int .i64 p0_1, .int .i64 p0_2, .slice a_p0_3 p0_3.length c_p0_3]⟩], [⟨b4, 50, [.int .i64 p1_0, .int .i64 p1_1, .int .i64 p1_2, .slice a_p1_3 p1_3.length c_p1_3]⟩]]) (fun s g => True) FUEL 0 () x8 hx9 trivial ⟨rfl, rfl, rfl, rfl, trivial⟩ (fun _ h => h) ?_
        rintro s_2 ⟨⟩ o12 fl13 hm11 - hn14 hd15
        have hm11 : fiducialref13_Equal_s1 p0_3 p1_3 s_2 = some o12 := hm11
        unfold fiducialref13_Equal_s1 at hm11
        refine WK.sub (e' := [(2, .pointer (some ⟨b3, 0, none⟩)), (3, .pointer (some ⟨b4, 0, none⟩)), (4, .bool false), (5, .int .i64 s_2)]) ⟨rfl, rfl, rfl, rfl, trivial⟩ (WK.cls (C' := St w0 m m [[⟨b3, 50, [.int .i64 p0_0, .int .i64 p0_1, .int .i64 p0_2, .slice a_p0_3 p0_3.length c_p0_3]⟩], [⟨b4, 50, [.int .i64 p1_0, .int .i64 p1_1, .int .i64 p1_2, .slice a_p1_3 p1_3.length c_p1_3]⟩]]) (fun _ h => h) ?_)
        refine WK_seq ?_
        refine WK_seq ?_
        refine WK_region ?_
        refine WO_pure tbok 2 [(2, .pointer (some ⟨b3, 0, none⟩)), (3, .pointer (some ⟨b4, 0, none⟩)), (4, .bool false), (5, .int .i64 s_2), (34, .int .i64 s_2), (35, .pointer (some ⟨b3, 3, none⟩))] rfl ⟨rfl, rfl, rfl, rfl, rfl, rfl, trivial⟩ ?_
        refine WO_loadB tbok 0 rfl rfl rfl rfl (fun _ h => h) rfl rfl ?_
        refine WO_pure tbok 2 [(2, .pointer (some ⟨b3, 0, none⟩)), (3, .pointer (some ⟨b4, 0, none⟩)), (4, .bool false), (5, .int .i64 s_2), (38, .bool (decide (s_2 < (p0_3.length : Int))))] rfl ⟨rfl, rfl, rfl, rfl, rfl, trivial⟩ ?_
        refine WO_end ?_
        refine WK_cond (b := decide (s_2 < (p0_3.length : Int))) rfl (fun hb17 => ?_) (fun hb17 => ?_)
        · have hm11 := ifT hb17 hm11
          refine WK_skip ?_
          refine WK_seq ?_
          refine WK_block ?_
          refine WK_seq ?_
          refine WK_draw 11 [0, 1, 2, 3, 4, 5, 6, 7, 8, 9, 10] follows_ok (by kernel_rfl) St_closed ?_
          refine WO_pure tbok 1 [(2, .pointer (some ⟨b3, 0, none⟩)), (3, .pointer (some ⟨b4, 0, none⟩)), (4, .bool false), (5, .int .i64 s_2), (41, .pointer (some ⟨b3, 3, none⟩))] rfl ⟨rfl, rfl, rfl, rfl, rfl, trivial⟩ ?_
          refine WO_loadB tbok 0 rfl rfl rfl rfl (fun _ h => h) rfl rfl ?_
          refine WO_pure tbok 1 [(2, .pointer (some ⟨b3, 0, none⟩)), (3, .pointer (some ⟨b4, 0, none⟩)), (4, .bool false), (5, .int .i64 s_2), (42, .slice a_p0_3 p0_3.length c_p0_3), (43, .int .i64 s_2)] rfl ⟨rfl, rfl, rfl, rfl, rfl, rfl, trivial⟩ ?_
          obtain ⟨v_3, hy18, hm11⟩ := bind_some hm11
          obtain ⟨hc19, hy18⟩ := ix_some hy18
          refine WO_index tbok rfl rfl rfl rfl rfl rfl rfl rfl (SlR.addr h_p0_3) hc19 ?_
          refine WO_loadE tbok rfl rfl rfl rfl (fun _ h => St.sat h) h_p0_3 hy18 rfl ?_
          refine WO_pure tbok 1 [(2, .pointer (some ⟨b3, 0, none⟩)), (3, .pointer (some ⟨b4, 0, none⟩)), (4, .bool false), (5, .int .i64 s_2), (45, .int .i64 v_3), (46, .pointer (some ⟨b4, 3, none⟩))] rfl ⟨rfl, rfl, rfl, rfl, rfl, rfl, trivial⟩ ?_
          refine WO_loadB tbok 1 rfl rfl rfl rfl (fun _ h => h) rfl rfl ?_
          refine WO_pure tbok 1 [(2, .pointer (some ⟨b3, 0, none⟩)), (3, .pointer (some ⟨b4, 0, none⟩)), (4, .bool false), (5, .int .i64 s_2), (45, .int .i64 v_3), (47, .slice a_p1_3 p1_3.length c_p1_3), (48, .int .i64 s_2)] rfl ⟨rfl, rfl, rfl, rfl, rfl, rfl, rfl, trivial⟩ ?_
          obtain ⟨v_4, hy20, hm11⟩ := bind_some hm11
          obtain ⟨hc21, hy20⟩ := ix_some hy20
          refine WO_index tbok rfl rfl rfl rfl rfl rfl rfl rfl (SlR.addr h_p1_3) hc21 ?_
          refine WO_loadE tbok rfl rfl rfl rfl (fun _ h => St.sat h) h_p1_3 hy20 rfl ?_
          refine WO_pure tbok 1 [(2, .pointer (some ⟨b3, 0, none⟩)), (3, .pointer (some ⟨b4, 0, none⟩)), (4, .bool false), (5, .int .i64 s_2), (51, .bool (v_3 != v_4))] rfl ⟨rfl, rfl, rfl, rfl, rfl, trivial⟩ ?_
          refine WO_tail ?_
          refine WO_end ?_
          refine WK_cond (b := v_3 != v_4) rfl (fun hb22 => ?_) (fun hb22 => ?_)
          · have hm11 := ifT hb22 hm11
            refine WK_seq ?_
            refine WK_region ?_
            refine WO_pure tbok 1 [(2, .pointer (some ⟨b3, 0, none⟩)), (3, .pointer (some ⟨b4, 0, none⟩)), (4, .bool false), (5, .int .i64 s_2)] rfl ⟨rfl, rfl, rfl, rfl, trivial⟩ ?_
            refine WO_end ?_
            cases hm11
            have hq := hd15 _ rfl
            subst hq
            have hm : some _ = some _ := hm
            cases hm
            exact WK_ret (ret_out (L := []) (RLc_tmp rfl RLc_nil) (List.nil_sublist _) rfl)
          · have hm11 := ifF hb22 hm11
            refine WK_skip ?_
            refine WK_blk ?_
            refine WK_region ?_
            refine WO_pure tbok 3 [(2, .pointer (some ⟨b3, 0, none⟩)), (3, .pointer (some ⟨b4, 0, none⟩)), (4, .bool false), (5, .int .i64 (w64 (s_2 + 1)))] rfl ⟨rfl, rfl, rfl, rfl, trivial⟩ ?_
            refine WO_end ?_
            cases hm11
            refine WK.sub ?_ (WK.cls (fun _ h => h) (hn14 _ () rfl trivial))
            exact ⟨rfl, rfl, rfl, rfl, trivial⟩
        · have hm11 := ifF hb17 hm11
          refine WK_exit rfl ?_
          cases hm11
          refine WK.sub ?_ (WK.cls (fun _ h => h) (hk10 ((), ()) (hd15 _ rfl)))
          exact ⟨rfl, trivial⟩
  · refine WK_region ?_
    refine WO_pure tbok 1 [(2, .pointer (some ⟨b3, 0, none⟩)), (3, .pointer (some ⟨b4, 0, none⟩)), (4, .bool false), (6, .pointer (some ⟨b3, 0, none⟩))] rfl ⟨rfl, rfl, rfl, rfl, trivial⟩ ?_
    refine WO_loadB tbok 0 rfl rfl rfl rfl (fun _ h => h) rfl rfl ?_
    refine WO_pure tbok 1 [(2, .pointer (some ⟨b3, 0, none⟩)), (3, .pointer (some ⟨b4, 0, none⟩)), (4, .bool false), (7, .int .i64 p0_0), (8, .pointer (some ⟨b4, 0, none⟩))] rfl ⟨rfl, rfl, rfl, rfl, rfl, trivial⟩ ?_
    refine WO_loadB tbok 1 rfl rfl rfl rfl (fun _ h => h) rfl rfl ?_
    refine WO_pure tbok 2 [(2, .pointer (some ⟨b3, 0, none⟩)), (3, .pointer (some ⟨b4, 0, none⟩)), (4, .bool false), (11, .bool (p0_0 != p1_0))] rfl ⟨rfl, rfl, rfl, rfl, trivial⟩ ?_
    refine WO_split (d := 11) (b := p0_0 != p1_0) rfl (fun hb23 => ?_) (fun hb23 => ?_)
    · have hx5 := ifT hb23 hx5
      refine WO_pure tbok 22 [(2, .pointer (some ⟨b3, 0, none⟩)), (3, .pointer (some ⟨b4, 0, none⟩)), (4, .bool false), (33, .bool true)] rfl ⟨rfl, rfl, rfl, rfl, trivial⟩ ?_
      refine WO_end ?_
      cases hx5
      refine WK.sub ?_ (WK.cls (fun _ h => h) hk6)
      exact ⟨rfl, rfl, rfl, rfl, trivial⟩
    · have hx5 := ifF hb23 hx5
      refine WO_pure tbok 1 [(2, .pointer (some ⟨b3, 0, none⟩)), (3, .pointer (some ⟨b4, 0, none⟩)), (4, .bool false), (11, .bool false), (12, .pointer (some ⟨b3, 1, none⟩))] rfl ⟨rfl, rfl, rfl, rfl, rfl, trivial⟩ ?_
      refine WO_loadB tbok 0 rfl rfl rfl rfl (fun _ h => h) rfl rfl ?_
      refine WO_pure tbok 1 [(2, .pointer (some ⟨b3, 0, none⟩)), (3, .pointer (some ⟨b4, 0, none⟩)), (4, .bool false), (11, .bool false), (13, .int .i64 p0_1), (14, .pointer (some ⟨b4, 1, none⟩))] rfl ⟨rfl, rfl, rfl, rfl, rfl, rfl, trivial⟩ ?_
      refine WO_loadB tbok 1 rfl rfl rfl rfl (fun _ h => h) rfl rfl ?_
      refine WO_pure tbok 3 [(2, .pointer (some ⟨b3, 0, none⟩)), (3, .pointer (some ⟨b4, 0, none⟩)), (4, .bool false), (18, .bool (p0_1 != p1_1))] rfl ⟨rfl, rfl, rfl, rfl, trivial⟩ ?_
      refine WO_split (d := 18) (b := p0_1 != p1_1) rfl (fun hb24 => ?_) (fun hb24 => ?_)
      · have hx5 := ifT hb24 hx5
        refine WO_pure tbok 15 [(2, .pointer (some ⟨b3, 0, none⟩)), (3, .pointer (some ⟨b4, 0, none⟩)), (4, .bool false), (33, .bool true)] rfl ⟨rfl, rfl, rfl, rfl, trivial⟩ ?_
        refine WO_end ?_
        cases hx5
        refine WK.sub ?_ (WK.cls (fun _ h => h) hk6)
        exact ⟨rfl, rfl, rfl, rfl, trivial⟩
      · have hx5 := ifF hb24 hx5
        refine WO_pure tbok 1 [(2, .pointer (some ⟨b3, 0, none⟩)), (3, .pointer (some ⟨b4, 0, none⟩)), (4, .bool false), (18, .bool false), (19, .pointer (some ⟨b3, 2, none⟩))] rfl ⟨rfl, rfl, rfl, rfl, rfl, trivial⟩ ?_
        refine WO_loadB tbok 0 rfl rfl rfl rfl (fun _ h => h) rfl rfl ?_
        refine WO_pure tbok 1 [(2, .pointer (some ⟨b3, 0, none⟩)), (3, .pointer (some ⟨b4, 0, none⟩)), (4, .bool false), (18, .bool false), (20, .int .i64 p0_2), (21, .pointer (some ⟨b4, 2, none⟩))] rfl ⟨rfl, rfl, rfl, rfl, rfl, rfl, trivial⟩ ?_
        refine WO_loadB tbok 1 rfl rfl rfl rfl (fun _ h => h) rfl rfl ?_
        refine WO_pure tbok 3 [(2, .pointer (some ⟨b3, 0, none⟩)), (3, .pointer (some ⟨b4, 0, none⟩)), (4, .bool false), (25, .bool (p0_2 != p1_2))] rfl ⟨rfl, rfl, rfl, rfl, trivial⟩ ?_
        refine WO_split (d := 25) (b := p0_2 != p1_2) rfl (fun hb25 => ?_) (fun hb25 => ?_)
        · have hx5 := ifT hb25 hx5
          refine WO_pure tbok 8 [(2, .pointer (some ⟨b3, 0, none⟩)), (3, .pointer (some ⟨b4, 0, none⟩)), (4, .bool false), (33, .bool true)] rfl ⟨rfl, rfl, rfl, rfl, trivial⟩ ?_
          refine WO_end ?_
          cases hx5
          refine WK.sub ?_ (WK.cls (fun _ h => h) hk6)
          exact ⟨rfl, rfl, rfl, rfl, trivial⟩
        · have hx5 := ifF hb25 hx5
          refine WO_pure tbok 1 [(2, .pointer (some ⟨b3, 0, none⟩)), (3, .pointer (some ⟨b4, 0, none⟩)), (4, .bool false), (25, .bool false), (26, .pointer (some ⟨b3, 3, none⟩))] rfl ⟨rfl, rfl, rfl, rfl, rfl, trivial⟩ ?_
          refine WO_loadB tbok 0 rfl rfl rfl rfl (fun _ h => h) rfl rfl ?_
          refine WO_pure tbok 2 [(2, .pointer (some ⟨b3, 0, none⟩)), (3, .pointer (some ⟨b4, 0, none⟩)), (4, .bool false), (25, .bool false), (28, .int .i64 (p0_3.length : Int)), (29, .pointer (some ⟨b4, 3, none⟩))] rfl ⟨rfl, rfl, rfl, rfl, rfl, rfl, trivial⟩ ?_
          refine WO_loadB tbok 1 rfl rfl rfl rfl (fun _ h => h) rfl rfl ?_
          refine WO_pure tbok 3 [(2, .pointer (some ⟨b3, 0, none⟩)), (3, .pointer (some ⟨b4, 0, none⟩)), (4, .bool false), (33, .bool ((p0_3.length : Int) != (p1_3.length : Int)))] rfl ⟨rfl, rfl, rfl, rfl, trivial⟩ ?_
          refine WO_end ?_
          cases hx5
          refine WK.sub ?_ (WK.cls (fun _ h => h) hk6)
          exact ⟨rfl, rfl, rfl, rfl, trivial⟩
theorem fiduciallaw50_SeamMosaics_walk {m : Mu} {p0_0 : Int} {p0_1 : Int} {p0_2 : Int} {p0_3 : List Int} {p1_0 : Int} {p1_1 : Int} {p1_2 : Int} {p1_3 : List Int} {p2 : List Int} {a_p0_3 : Option Addr} {q_p0_3 c_p0_3 : Nat} {a_p1_3 : Option Addr} {q_p1_3 c_p1_3 : Nat} {a_p2 : Option Addr} {q_p2 c_p2 : Nat} (h_p0_3 : SlR (FE (I1 .i64)) 1 m (.slice a_p0_3 q_p0_3 c_p0_3) p0_3) (h_p1_3 : SlR (FE (I1 .i64)) 1 m (.slice a_p1_3 q_p1_3 c_p1_3) p1_3) (h_p2 : SlR (FE (I1 .i64)) 1 m (.slice a_p2 q_p2 c_p2) p2) {r : Bool} (hm : fiduciallaw50_SeamMosaics p0_0 p0_1 p0_2 p0_3 p1_0 p1_1 p1_2 p1_3 p2 = some r) :
    Go.E.Spec Try.prog 9 [.agg #[.int .i64 p0_0, .int .i64 p0_1, .int .i64 p0_2, .slice a_p0_3 q_p0_3 c_p0_3], .agg #[.int .i64 p1_0, .int .i64 p1_1, .int .i64 p1_2, .slice a_p1_3 q_p1_3 c_p1_3], .slice a_p2 q_p2 c_p2] m (fun v _ _ => v = .bool r) := by
  refine Spec_enter Try.func9 rfl rfl rfl (fun w0 => ?_)
  refine WK.sub (e' := [(0, .agg #[.int .i64 p0_0, .int .i64 p0_1, .int .i64 p0_2, .slice a_p0_3 q_p0_3 c_p0_3]), (1, .agg #[.int .i64 p1_0, .int .i64 p1_1, .int .i64 p1_2, .slice a_p1_3 q_p1_3 c_p1_3]), (2, .slice a_p2 q_p2 c_p2)]) ⟨rfl, rfl, rfl, trivial⟩ ?_
  obtain rfl := SlR.qlen h_p0_3
  obtain rfl := SlR.qlen h_p1_3
  obtain rfl := SlR.qlen h_p2
  refine WK.sub (e' := [(0, .agg #[.int .i64 p0_0, .int .i64 p0_1, .int .i64 p0_2, .slice a_p0_3 p0_3.length c_p0_3]), (1, .agg #[.int .i64 p1_0, .int .i64 p1_1, .int .i64 p1_2, .slice a_p1_3 p1_3.length c_p1_3]), (2, .slice a_p2 p2.length c_p2)]) ⟨rfl, rfl, rfl, trivial⟩ ?_
  unfold fiduciallaw50_SeamMosaics at hm
  refine WK_seq ?_
  refine WK_region ?_
  refine WO_box [.int .i64 p0_0, .int .i64 p0_1, .int .i64 p0_2, .slice a_p0_3 p0_3.length c_p0_3] rfl rfl trivial rfl rfl rfl (fun b4 => ?_)
  refine WO.cls (C' := St w0 m m [[⟨b4, 50, [.int .i64 p0_0, .int .i64 p0_1, .int .i64 p0_2, .slice a_p0_3 p0_3.length c_p0_3]⟩]]) (fun _ h => h) ?_
  refine WO_box [.int .i64 p1_0, .int .i64 p1_1, .int .i64 p1_2, .slice a_p1_3 p1_3.length c_p1_3] rfl rfl trivial rfl rfl rfl (fun b5 => ?_)
  refine WO.cls (C' := St w0 m m [[⟨b4, 50, [.int .i64 p0_0, .int .i64 p0_1, .int .i64 p0_2, .slice a_p0_3 p0_3.length c_p0_3]⟩], [⟨b5, 50, [.int .i64 p1_0, .int .i64 p1_1, .int .i64 p1_2, .slice a_p1_3 p1_3.length c_p1_3]⟩]]) (fun _ h => h) ?_
  refine WO_pure tbok 1 [(2, .slice a_p2 p2.length c_p2), (3, .pointer (some ⟨b4, 0, none⟩)), (4, .pointer (some ⟨b5, 0, none⟩)), (6, .bool false)] rfl ⟨rfl, rfl, rfl, rfl, trivial⟩ ?_
  refine WO_end ?_
  refine WK_seq ?_
  refine WK_seq ?_
  refine WK_region ?_
  obtain ⟨y_1, hc6, hm⟩ := bind_some hm
  refine WO_call0 (.bool y_1) rfl rfl trivial rfl rfl rfl rfl St_closed ⟨11, #[], #[], rfl, callable_11, fun w hw => ⟨_, hw.sat, fiduciallaw50_known_walk hc6⟩⟩ ?_
  refine WO_pure tbok 1 [(2, .slice a_p2 p2.length c_p2), (3, .pointer (some ⟨b4, 0, none⟩)), (4, .pointer (some ⟨b5, 0, none⟩)), (6, .bool false), (21, .bool (!y_1))] rfl ⟨rfl, rfl, rfl, rfl, rfl, trivial⟩ ?_
  refine WO_end ?_
  refine WK_cond (b := !y_1) rfl (fun hb7 => ?_) (fun hb7 => ?_)
  · have hm := ifT hb7 hm
    refine WK_seq ?_
    refine WK_region ?_
    refine WO_pure tbok 1 [(2, .slice a_p2 p2.length c_p2), (3, .pointer (some ⟨b4, 0, none⟩)), (4, .pointer (some ⟨b5, 0, none⟩)), (6, .bool false)] rfl ⟨rfl, rfl, rfl, rfl, trivial⟩ ?_
    refine WO_end ?_
    cases hm
    exact WK_ret (ret_out (L := []) (RLc_tmp rfl RLc_nil) (List.nil_sublist _) rfl)
  · have hm := ifF hb7 hm
    refine WK_skip ?_
    refine WK_seq ?_
    refine WK_seq ?_
    obtain ⟨s_2, hx8, hm⟩ := bind_some hm
    refine WK_meet [(2, .slice a_p2 p2.length c_p2), (3, .pointer (some ⟨b4, 0, none⟩)), (4, .pointer (some ⟨b5, 0, none⟩)), (6, .bool false), (34, .bool s_2)] (St w0 m m [[⟨b4, 50, [.int .i64 p0_0, .int .i64 p0_1, .int .i64 p0_2, .slice a_p0_3 p0_3.length c_p0_3]⟩], [⟨b5, 50, [.int .i64 p1_0, .int .i64 p1_1, .int .i64 p1_2, .slice a_p1_3 p1_3.length c_p1_3]⟩]]) ?_ (fun hk9 => ?_)
    · refine WK_cond (b := s_2) rfl (fun hb10 => ?_) (fun hb10 => ?_)
      · have hm := ifT hb10 hm
        refine WK_seq ?_
        refine WK_region ?_
        refine WO_pure tbok 1 [(2, .slice a_p2 p2.length c_p2), (3, .pointer (some ⟨b4, 0, none⟩)), (4, .pointer (some ⟨b5, 0, none⟩)), (6, .bool true)] rfl ⟨rfl, rfl, rfl, rfl, trivial⟩ ?_
        refine WO_end ?_
        cases hm
        exact WK_ret (ret_out (L := []) (RLc_tmp rfl RLc_nil) (List.nil_sublist _) rfl)
      · have hm := ifF hb10 hm
        refine WK_skip ?_
        refine WK_seq ?_
        refine WK_region ?_
        refine WO_loadB tbok 0 rfl rfl rfl rfl (fun _ h => h) rfl rfl ?_
        refine WO_loadB tbok 1 rfl rfl rfl rfl (fun _ h => h) rfl rfl ?_
        obtain ⟨⟨y_3, y_4⟩, hc11, hm⟩ := bind_some hm
        refine WO_call2 (seam_Costs_Q (y_3, y_4)) rfl rfl trivial rfl rfl rfl rfl ⟨29, #[], #[], rfl, callable_29, seam_Costs_walk h_p0_3 h_p1_3 hc11⟩ (fun v16 m17 L15 hle18 hq => ?_)
        obtain ⟨a12, qa12, c13, rfl, h19⟩ := hq
        obtain rfl := SlR.qlen h19
        refine WO.cls (C' := St w0 m m17 [[⟨b4, 50, [.int .i64 p0_0, .int .i64 p0_1, .int .i64 p0_2, .slice a_p0_3 p0_3.length c_p0_3]⟩], [⟨b5, 50, [.int .i64 p1_0, .int .i64 p1_1, .int .i64 p1_2, .slice a_p1_3 p1_3.length c_p1_3]⟩], L15]) (fun _ h => h.sub (by simp)) ?_
        refine WO_pure tbok 5 [(2, .slice a_p2 p2.length c_p2), (3, .pointer (some ⟨b4, 0, none⟩)), (4, .pointer (some ⟨b5, 0, none⟩)), (6, .bool false), (7, .slice a12 ((y_3).length) c13), (8, .int .i64 y_4)] rfl ⟨rfl, rfl, rfl, rfl, rfl, rfl, trivial⟩ ?_
        refine WO_end ?_
        refine WK_seq ?_
        refine WK_region ?_
        refine WO_loadB tbok 0 rfl rfl rfl rfl (fun _ h => h) rfl rfl ?_
        refine WO_loadB tbok 1 rfl rfl rfl rfl (fun _ h => h) rfl rfl ?_
        refine WO_pure tbok 1 [(2, .slice a_p2 p2.length c_p2), (3, .pointer (some ⟨b4, 0, none⟩)), (4, .pointer (some ⟨b5, 0, none⟩)), (6, .bool false), (7, .slice a12 ((y_3).length) c13), (8, .int .i64 y_4), (42, .agg #[.int .i64 p0_0, .int .i64 p0_1, .int .i64 p0_2, .slice a_p0_3 p0_3.length c_p0_3]), (43, .agg #[.int .i64 p1_0, .int .i64 p1_1, .int .i64 p1_2, .slice a_p1_3 p1_3.length c_p1_3]), (44, .slice a_p2 p2.length c_p2)] rfl ⟨rfl, rfl, rfl, rfl, rfl, rfl, rfl, rfl, rfl, trivial⟩ ?_
        obtain ⟨⟨y_5, y_6, y_7, y_8, y_9⟩, hc20, hm⟩ := bind_some hm
        refine WO_call1 (seam_Mosaic_Q (y_5, y_6, y_7, y_8, y_9)) rfl rfl trivial rfl rfl rfl rfl ⟨30, #[], #[], rfl, callable_30, fun w hw => ⟨_, hw.sat, seam_Mosaic_walk (h_p0_3.mono (mono_FE _) hle18) (h_p1_3.mono (mono_FE _) hle18) (h_p2.mono (mono_FE _) hle18) hc20⟩⟩ (fun v25 L24 hq => ?_)
        obtain ⟨a21, qa21, c22, rfl, hL24⟩ := hq
        obtain rfl := OwnE.qlen hL24
        refine WO.cls (C' := St w0 m m17 [[⟨b4, 50, [.int .i64 p0_0, .int .i64 p0_1, .int .i64 p0_2, .slice a_p0_3 p0_3.length c_p0_3]⟩], [⟨b5, 50, [.int .i64 p1_0, .int .i64 p1_1, .int .i64 p1_2, .slice a_p1_3 p1_3.length c_p1_3]⟩], L15, L24]) (fun _ h => h) ?_
        refine WO_pure tbok 3 [(2, .slice a_p2 p2.length c_p2), (3, .pointer (some ⟨b4, 0, none⟩)), (4, .pointer (some ⟨b5, 0, none⟩)), (6, .bool false), (7, .slice a12 ((y_3).length) c13), (8, .int .i64 y_4), (46, .agg #[.int .i64 y_5, .int .i64 y_6, .int .i64 y_7, .slice a21 ((y_8).length) c22]), (47, .int .i64 y_9)] rfl ⟨rfl, rfl, rfl, rfl, rfl, rfl, rfl, rfl, trivial⟩ ?_
        refine WO_alloc tbok [.int .i64 0, .int .i64 0, .int .i64 0, .slice none 0 0] rfl rfl trivial rfl rfl rfl rfl (fun b26 => ?_)
        refine WO.cls (C' := St w0 m m17 [[⟨b4, 50, [.int .i64 p0_0, .int .i64 p0_1, .int .i64 p0_2, .slice a_p0_3 p0_3.length c_p0_3]⟩], [⟨b5, 50, [.int .i64 p1_0, .int .i64 p1_1, .int .i64 p1_2, .slice a_p1_3 p1_3.length c_p1_3]⟩], L15, L24, [⟨b26, 50, [.int .i64 0, .int .i64 0, .int .i64 0, .slice none 0 0]⟩]]) (fun _ h => h) ?_
        refine WO_storeB tbok 4 [.int .i64 y_5, .int .i64 y_6, .int .i64 y_7, .slice a21 ((y_8).length) c22] rfl rfl rfl rfl rfl rfl rfl ?_
        refine WO.cls (C' := St w0 m m17 [[⟨b4, 50, [.int .i64 p0_0, .int .i64 p0_1, .int .i64 p0_2, .slice a_p0_3 p0_3.length c_p0_3]⟩], [⟨b5, 50, [.int .i64 p1_0, .int .i64 p1_1, .int .i64 p1_2, .slice a_p1_3 p1_3.length c_p1_3]⟩], L15, L24, [⟨b26, 50, [.int .i64 y_5, .int .i64 y_6, .int .i64 y_7, .slice a21 ((y_8).length) c22]⟩]]) (fun _ h => h) ?_
        refine WO_pure tbok 1 [(2, .slice a_p2 p2.length c_p2), (3, .pointer (some ⟨b4, 0, none⟩)), (4, .pointer (some ⟨b5, 0, none⟩)), (6, .bool false), (7, .slice a12 ((y_3).length) c13), (8, .int .i64 y_4), (9, .pointer (some ⟨b26, 0, none⟩)), (10, .int .i64 y_9)] rfl ⟨rfl, rfl, rfl, rfl, rfl, rfl, rfl, rfl, trivial⟩ ?_
        refine WO_end ?_
        refine WK_seq ?_
        refine WK_region ?_
        refine WO_loadB tbok 0 rfl rfl rfl rfl (fun _ h => h) rfl rfl ?_
        refine WO_loadB tbok 1 rfl rfl rfl rfl (fun _ h => h) rfl rfl ?_
        refine WO_pure tbok 1 [(3, .pointer (some ⟨b4, 0, none⟩)), (4, .pointer (some ⟨b5, 0, none⟩)), (6, .bool false), (7, .slice a12 ((y_3).length) c13), (8, .int .i64 y_4), (9, .pointer (some ⟨b26, 0, none⟩)), (10, .int .i64 y_9), (49, .agg #[.int .i64 p0_0, .int .i64 p0_1, .int .i64 p0_2, .slice a_p0_3 p0_3.length c_p0_3]), (50, .agg #[.int .i64 p1_0, .int .i64 p1_1, .int .i64 p1_2, .slice a_p1_3 p1_3.length c_p1_3]), (51, .slice a_p2 p2.length c_p2)] rfl ⟨rfl, rfl, rfl, rfl, rfl, rfl, rfl, rfl, rfl, rfl, trivial⟩ ?_
        obtain ⟨⟨y_10, y_11, y_12, y_13, y_14⟩, hc27, hm⟩ := bind_some hm
        refine WO_call1 (fiduciallaw50_mosaicked_Q (y_10, y_11, y_12, y_13, y_14)) rfl rfl trivial rfl rfl rfl rfl ⟨31, #[], #[], rfl, callable_31, fun w hw => ⟨_, hw.sat, fiduciallaw50_mosaicked_walk (h_p0_3.mono (mono_FE _) hle18) (h_p1_3.mono (mono_FE _) hle18) (h_p2.mono (mono_FE _) hle18) hc27⟩⟩ (fun v32 L31 hq => ?_)
        obtain ⟨a28, qa28, c29, rfl, hL31⟩ := hq
        obtain rfl := OwnE.qlen hL31
        refine WO.cls (C' := St w0 m m17 [[⟨b4, 50, [.int .i64 p0_0, .int .i64 p0_1, .int .i64 p0_2, .slice a_p0_3 p0_3.length c_p0_3]⟩], [⟨b5, 50, [.int .i64 p1_0, .int .i64 p1_1, .int .i64 p1_2, .slice a_p1_3 p1_3.length c_p1_3]⟩], L15, L24, [⟨b26, 50, [.int .i64 y_5, .int .i64 y_6, .int .i64 y_7, .slice a21 ((y_8).length) c22]⟩], L31]) (fun _ h => h) ?_
        refine WO_pure tbok 3 [(3, .pointer (some ⟨b4, 0, none⟩)), (4, .pointer (some ⟨b5, 0, none⟩)), (6, .bool false), (7, .slice a12 ((y_3).length) c13), (8, .int .i64 y_4), (9, .pointer (some ⟨b26, 0, none⟩)), (10, .int .i64 y_9), (53, .agg #[.int .i64 y_10, .int .i64 y_11, .int .i64 y_12, .slice a28 ((y_13).length) c29]), (54, .int .i64 y_14)] rfl ⟨rfl, rfl, rfl, rfl, rfl, rfl, rfl, rfl, rfl, trivial⟩ ?_
        refine WO_alloc tbok [.int .i64 0, .int .i64 0, .int .i64 0, .slice none 0 0] rfl rfl trivial rfl rfl rfl rfl (fun b33 => ?_)
        refine WO.cls (C' := St w0 m m17 [[⟨b4, 50, [.int .i64 p0_0, .int .i64 p0_1, .int .i64 p0_2, .slice a_p0_3 p0_3.length c_p0_3]⟩], [⟨b5, 50, [.int .i64 p1_0, .int .i64 p1_1, .int .i64 p1_2, .slice a_p1_3 p1_3.length c_p1_3]⟩], L15, L24, [⟨b26, 50, [.int .i64 y_5, .int .i64 y_6, .int .i64 y_7, .slice a21 ((y_8).length) c22]⟩], L31, [⟨b33, 50, [.int .i64 0, .int .i64 0, .int .i64 0, .slice none 0 0]⟩]]) (fun _ h => h) ?_
        refine WO_storeB tbok 6 [.int .i64 y_10, .int .i64 y_11, .int .i64 y_12, .slice a28 ((y_13).length) c29] rfl rfl rfl rfl rfl rfl rfl ?_
        refine WO.cls (C' := St w0 m m17 [[⟨b4, 50, [.int .i64 p0_0, .int .i64 p0_1, .int .i64 p0_2, .slice a_p0_3 p0_3.length c_p0_3]⟩], [⟨b5, 50, [.int .i64 p1_0, .int .i64 p1_1, .int .i64 p1_2, .slice a_p1_3 p1_3.length c_p1_3]⟩], L15, L24, [⟨b26, 50, [.int .i64 y_5, .int .i64 y_6, .int .i64 y_7, .slice a21 ((y_8).length) c22]⟩], L31, [⟨b33, 50, [.int .i64 y_10, .int .i64 y_11, .int .i64 y_12, .slice a28 ((y_13).length) c29]⟩]]) (fun _ h => h) ?_
        refine WO_pure tbok 1 [(3, .pointer (some ⟨b4, 0, none⟩)), (4, .pointer (some ⟨b5, 0, none⟩)), (6, .bool false), (7, .slice a12 ((y_3).length) c13), (8, .int .i64 y_4), (9, .pointer (some ⟨b26, 0, none⟩)), (10, .int .i64 y_9), (11, .pointer (some ⟨b33, 0, none⟩)), (12, .int .i64 y_14)] rfl ⟨rfl, rfl, rfl, rfl, rfl, rfl, rfl, rfl, rfl, trivial⟩ ?_
        refine WO_end ?_
        refine WK_seq ?_
        refine WK_seq ?_
        obtain ⟨s_15, hx34, hm⟩ := bind_some hm
        refine WK_meet [(3, .pointer (some ⟨b4, 0, none⟩)), (4, .pointer (some ⟨b5, 0, none⟩)), (6, .bool false), (7, .slice a12 ((y_3).length) c13), (8, .int .i64 y_4), (63, .bool s_15)] (St w0 m m17 [[⟨b4, 50, [.int .i64 p0_0, .int .i64 p0_1, .int .i64 p0_2, .slice a_p0_3 p0_3.length c_p0_3]⟩], [⟨b5, 50, [.int .i64 p1_0, .int .i64 p1_1, .int .i64 p1_2, .slice a_p1_3 p1_3.length c_p1_3]⟩], L15, L24, [⟨b26, 50, [.int .i64 y_5, .int .i64 y_6, .int .i64 y_7, .slice a21 ((y_8).length) c22]⟩], L31, [⟨b33, 50, [.int .i64 y_10, .int .i64 y_11, .int .i64 y_12, .slice a28 ((y_13).length) c29]⟩]]) ?_ (fun hk35 => ?_)
        · refine WK_cond (b := s_15) rfl (fun hb36 => ?_) (fun hb36 => ?_)
          · have hm := ifT hb36 hm
            refine WK_seq ?_
            refine WK_region ?_
            refine WO_pure tbok 1 [(3, .pointer (some ⟨b4, 0, none⟩)), (4, .pointer (some ⟨b5, 0, none⟩)), (6, .bool false), (7, .slice a12 ((y_3).length) c13), (8, .int .i64 y_4)] rfl ⟨rfl, rfl, rfl, rfl, rfl, trivial⟩ ?_
            refine WO_end ?_
            cases hm
            exact WK_ret (ret_out (L := []) (RLc_tmp rfl RLc_nil) (List.nil_sublist _) rfl)
          · have hm := ifF hb36 hm
            refine WK_skip ?_
            refine WK_seq ?_
            refine WK_seq ?_
            refine WK_region ?_
            refine WO_loadB tbok 0 rfl rfl rfl rfl (fun _ h => h) rfl rfl ?_
            refine WO_loadB tbok 1 rfl rfl rfl rfl (fun _ h => h) rfl rfl ?_
            obtain ⟨y_16, hc37, hm⟩ := bind_some hm
            refine WO_call0 (.int .i64 y_16) rfl rfl trivial rfl rfl rfl rfl St_closed ⟨33, #[], #[], rfl, callable_33, fun w hw => ⟨_, hw.sat, fiduciallaw50_fits_walk (h_p0_3.mono (mono_FE _) hle18) (h_p1_3.mono (mono_FE _) hle18) hc37⟩⟩ ?_
            refine WO_pure tbok 1 [(3, .pointer (some ⟨b4, 0, none⟩)), (4, .pointer (some ⟨b5, 0, none⟩)), (6, .bool false), (7, .slice a12 ((y_3).length) c13), (8, .int .i64 y_4), (13, .int .i64 y_16)] rfl ⟨rfl, rfl, rfl, rfl, rfl, rfl, trivial⟩ ?_
            refine WO_end ?_
            refine WK_seq ?_
            refine WK_region ?_
            refine WO_pure tbok 2 [(3, .pointer (some ⟨b4, 0, none⟩)), (4, .pointer (some ⟨b5, 0, none⟩)), (6, .bool false), (7, .slice a12 ((y_3).length) c13), (8, .int .i64 y_4), (13, .int .i64 y_16), (68, .bool (y_16 != 0))] rfl ⟨rfl, rfl, rfl, rfl, rfl, rfl, rfl, trivial⟩ ?_
            refine WO_end ?_
            refine WK_cond (b := y_16 != 0) rfl (fun hb38 => ?_) (fun hb38 => ?_)
            · have hm := ifT hb38 hm
              refine WK_seq ?_
              refine WK_region ?_
              refine WO_pure tbok 4 [(3, .pointer (some ⟨b4, 0, none⟩)), (4, .pointer (some ⟨b5, 0, none⟩)), (6, .bool false), (7, .slice a12 ((y_3).length) c13), (8, .int .i64 y_4), (72, .bool (y_4 == y_16))] rfl ⟨rfl, rfl, rfl, rfl, rfl, rfl, trivial⟩ ?_
              refine WO_split (d := 72) (b := y_4 == y_16) rfl (fun hb39 => ?_) (fun hb39 => ?_)
              · have hm := ifT hb39 hm
                refine WO_pure tbok 5 [(3, .pointer (some ⟨b4, 0, none⟩)), (4, .pointer (some ⟨b5, 0, none⟩)), (6, .bool (((y_3).length : Int) == 0)), (7, .slice a12 ((y_3).length) c13), (8, .int .i64 y_4)] rfl ⟨rfl, rfl, rfl, rfl, rfl, trivial⟩ ?_
                refine WO_end ?_
                cases hm
                exact WK_ret (ret_out (L := []) (RLc_tmp rfl RLc_nil) (List.nil_sublist _) rfl)
              · have hm := ifF hb39 hm
                refine WO_pure tbok 5 [(3, .pointer (some ⟨b4, 0, none⟩)), (4, .pointer (some ⟨b5, 0, none⟩)), (6, .bool false), (7, .slice a12 ((y_3).length) c13), (8, .int .i64 y_4)] rfl ⟨rfl, rfl, rfl, rfl, rfl, trivial⟩ ?_
                refine WO_end ?_
                cases hm
                exact WK_ret (ret_out (L := []) (RLc_tmp rfl RLc_nil) (List.nil_sublist _) rfl)
            · have hm := ifF hb38 hm
              refine WK_skip ?_
              refine WK_seq ?_
              refine WK_seq ?_
              obtain ⟨s_17, hx40, hm⟩ := bind_some hm
              refine WK_meet [(3, .pointer (some ⟨b4, 0, none⟩)), (4, .pointer (some ⟨b5, 0, none⟩)), (6, .bool false), (7, .slice a12 ((y_3).length) c13), (85, .bool s_17)] (St w0 m m17 [[⟨b4, 50, [.int .i64 p0_0, .int .i64 p0_1, .int .i64 p0_2, .slice a_p0_3 p0_3.length c_p0_3]⟩], [⟨b5, 50, [.int .i64 p1_0, .int .i64 p1_1, .int .i64 p1_2, .slice a_p1_3 p1_3.length c_p1_3]⟩], L15, L24, [⟨b26, 50, [.int .i64 y_5, .int .i64 y_6, .int .i64 y_7, .slice a21 ((y_8).length) c22]⟩], L31, [⟨b33, 50, [.int .i64 y_10, .int .i64 y_11, .int .i64 y_12, .slice a28 ((y_13).length) c29]⟩]]) ?_ (fun hk41 => ?_)
              · refine WK_cond (b := s_17) rfl (fun hb42 => ?_) (fun hb42 => ?_)
                · have hm := ifT hb42 hm
                  refine WK_seq ?_
                  refine WK_region ?_
                  refine WO_pure tbok 1 [(3, .pointer (some ⟨b4, 0, none⟩)), (4, .pointer (some ⟨b5, 0, none⟩)), (6, .bool false), (7, .slice a12 ((y_3).length) c13)] rfl ⟨rfl, rfl, rfl, rfl, trivial⟩ ?_
                  refine WO_end ?_
                  cases hm
                  exact WK_ret (ret_out (L := []) (RLc_tmp rfl RLc_nil) (List.nil_sublist _) rfl)
                · have hm := ifF hb42 hm
                  refine WK_skip ?_
                  refine WK_seq ?_
                  refine WK_seq ?_
                  refine WK_region ?_
                  refine WO_pure tbok 3 [(3, .pointer (some ⟨b4, 0, none⟩)), (4, .pointer (some ⟨b5, 0, none⟩)), (6, .bool false), (86, .slice a12 ((y_3).length) c13), (87, .int .i64 ((y_3).length : Int)), (88, .int .i64 0)] rfl ⟨rfl, rfl, rfl, rfl, rfl, rfl, trivial⟩ ?_
                  refine WO_end ?_
                  obtain ⟨x43, hx44, hm⟩ := bind_some hm
                  refine WK_join (β := Unit × Unit) (fun p => Sum.inr p.1 = x43) (fun p => [(6, .bool false)]) (fun p => St w0 m m17 [[⟨b4, 50, [.int .i64 p0_0, .int .i64 p0_1, .int .i64 p0_2, .slice a_p0_3 p0_3.length c_p0_3]⟩], [⟨b5, 50, [.int .i64 p1_0, .int .i64 p1_1, .int .i64 p1_2, .slice a_p1_3 p1_3.length c_p1_3]⟩], L15, L24, [⟨b26, 50, [.int .i64 y_5, .int .i64 y_6, .int .i64 y_7, .slice a21 ((y_8).length) c22]⟩], L31, [⟨b33, 50, [.int .i64 y_10, .int .i64 y_11, .int .i64 y_12, .slice a28 ((y_13).length) c29]⟩]]) ?_ (fun hk45 => ?_)
                  · rintro ⟨⟨⟩, ⟨⟩⟩ hq51
                    subst hq51
                    refine WK.sub (e' := [(6, .bool false)]) ⟨rfl, trivial⟩ (WK.cls (C' := St w0 m m17 [[⟨b4, 50, [.int .i64 p0_0, .int .i64 p0_1, .int .i64 p0_2, .slice a_p0_3 p0_3.length c_p0_3]⟩], [⟨b5, 50, [.int .i64 p1_0, .int .i64 p1_1, .int .i64 p1_2, .slice a_p1_3 p1_3.length c_p1_3]⟩], L15, L24, [⟨b26, 50, [.int .i64 y_5, .int .i64 y_6, .int .i64 y_7, .slice a21 ((y_8).length) c22]⟩], L31, [⟨b33, 50, [.int .i64 y_10, .int .i64 y_11, .int .i64 y_12, .slice a28 ((y_13).length) c29]⟩]]) (fun _ h => h) ?_)
                    refine WK_seq ?_
                    refine WK_region ?_
                    refine WO_pure tbok 1 [(6, .bool true)] rfl ⟨rfl, trivial⟩ ?_
                    refine WO_end ?_
                    cases hm
                    exact WK_ret (ret_out (L := []) (RLc_tmp rfl RLc_nil) (List.nil_sublist _) rfl)
                  · refine WK_block ?_
                    refine WK_loop (S := Int) (G := Unit) (fun s => fiduciallaw50_SeamMosaics_s1 p0_0 p0_3 p1_3 y_3 s) (fun s g => [(3, .pointer (some ⟨b4, 0, none⟩)), (4, .pointer (some ⟨b5, 0, none⟩)), (6, .bool false), (86, .slice a12 ((y_3).length) c13), (87, .int .i64 ((y_3).length : Int)), (88, .int .i64 s)]) (fun s g => St w0 m m17 [[⟨b4, 50, [.int .i64 p0_0, .int .i64 p0_1, .int .i64 p0_2, .slice a_p0_3 p0_3.length c_p0_3]⟩], [⟨b5, 50, [.int .i64 p1_0, .int .i64 p1_1, .int .i64 p1_2, .slice a_p1_3 p1_3.length c_p1_3]⟩], L15, L24, [⟨b26, 50, [.int .i64 y_5, .int .i64 y_6, .int .i64 y_7, .slice a21 ((y_8).length) c22]⟩], L31, [⟨b33, 50, [.int .i64 y_10, .int .i64 y_11, .int .i64 y_12, .slice a28 ((y_13).length) c29]⟩]]) (fun s g => True) FUEL 0 () x43 hx44 trivial ⟨rfl, rfl, rfl, rfl, rfl, rfl, trivial⟩ (fun _ h => h) ?_
                    rintro s_18 ⟨⟩ o47 fl48 hm46 - hn49 hd50
                    have hm46 : fiduciallaw50_SeamMosaics_s1 p0_0 p0_3 p1_3 y_3 s_18 = some o47 := hm46
                    unfold fiduciallaw50_SeamMosaics_s1 at hm46
                    refine WK.sub (e' := [(3, .pointer (some ⟨b4, 0, none⟩)), (4, .pointer (some ⟨b5, 0, none⟩)), (6, .bool false), (86, .slice a12 ((y_3).length) c13), (87, .int .i64 ((y_3).length : Int)), (88, .int .i64 s_18)]) ⟨rfl, rfl, rfl, rfl, rfl, rfl, trivial⟩ (WK.cls (C' := St w0 m m17 [[⟨b4, 50, [.int .i64 p0_0, .int .i64 p0_1, .int .i64 p0_2, .slice a_p0_3 p0_3.length c_p0_3]⟩], [⟨b5, 50, [.int .i64 p1_0, .int .i64 p1_1, .int .i64 p1_2, .slice a_p1_3 p1_3.length c_p1_3]⟩], L15, L24, [⟨b26, 50, [.int .i64 y_5, .int .i64 y_6, .int .i64 y_7, .slice a21 ((y_8).length) c22]⟩], L31, [⟨b33, 50, [.int .i64 y_10, .int .i64 y_11, .int .i64 y_12, .slice a28 ((y_13).length) c29]⟩]]) (fun _ h => h) ?_)
                    refine WK_seq ?_
                    refine WK_region ?_
                    refine WO_pure tbok 1 [(3, .pointer (some ⟨b4, 0, none⟩)), (4, .pointer (some ⟨b5, 0, none⟩)), (6, .bool false), (86, .slice a12 ((y_3).length) c13), (87, .int .i64 ((y_3).length : Int)), (88, .int .i64 s_18), (89, .bool (decide (s_18 < ((y_3).length : Int))))] rfl ⟨rfl, rfl, rfl, rfl, rfl, rfl, rfl, trivial⟩ ?_
                    refine WO_end ?_
                    refine WK_seq ?_
                    refine WK_cond (b := decide (s_18 < ((y_3).length : Int))) rfl (fun hb52 => ?_) (fun hb52 => ?_)
                    · have hm46 := ifT hb52 hm46
                      refine WK_skip ?_
                      refine WK_seq ?_
                      refine WK_block ?_
                      refine WK_seq ?_
                      refine WK_region ?_
                      refine WO_pure tbok 1 [(3, .pointer (some ⟨b4, 0, none⟩)), (4, .pointer (some ⟨b5, 0, none⟩)), (6, .bool false), (86, .slice a12 ((y_3).length) c13), (87, .int .i64 ((y_3).length : Int)), (88, .int .i64 s_18), (90, .int .i64 s_18)] rfl ⟨rfl, rfl, rfl, rfl, rfl, rfl, rfl, trivial⟩ ?_
                      obtain ⟨v_19, hy53, hm46⟩ := bind_some hm46
                      obtain ⟨hc54, hy53⟩ := ix_some hy53
                      refine WO_index tbok rfl rfl rfl rfl rfl rfl rfl rfl (SlR.addr h19) hc54 ?_
                      refine WO_loadR tbok rfl rfl rfl rfl (fun _ h => St.sat h) h19 hy53 rfl rfl (fun a55 c56 h57 => ?_)
                      refine WO_pure tbok 2 [(3, .pointer (some ⟨b4, 0, none⟩)), (4, .pointer (some ⟨b5, 0, none⟩)), (6, .bool false), (14, .int .i64 s_18), (15, .slice a55 ((v_19).length) c56), (86, .slice a12 ((y_3).length) c13), (87, .int .i64 ((y_3).length : Int)), (88, .int .i64 s_18)] rfl ⟨rfl, rfl, rfl, rfl, rfl, rfl, rfl, rfl, trivial⟩ ?_
                      refine WO_end ?_
                      refine WK_seq ?_
                      refine WK_seq ?_
                      refine WK_region ?_
                      refine WO_pure tbok 3 [(3, .pointer (some ⟨b4, 0, none⟩)), (4, .pointer (some ⟨b5, 0, none⟩)), (6, .bool false), (14, .int .i64 s_18), (15, .slice a55 ((v_19).length) c56), (86, .slice a12 ((y_3).length) c13), (87, .int .i64 ((y_3).length : Int)), (88, .int .i64 s_18), (94, .int .i64 ((v_19).length : Int)), (95, .pointer (some ⟨b4, 0, none⟩))] rfl ⟨rfl, rfl, rfl, rfl, rfl, rfl, rfl, rfl, rfl, rfl, trivial⟩ ?_
                      refine WO_loadB tbok 0 rfl rfl rfl rfl (fun _ h => h) rfl rfl ?_
                      refine WO_pure tbok 1 [(3, .pointer (some ⟨b4, 0, none⟩)), (4, .pointer (some ⟨b5, 0, none⟩)), (6, .bool false), (14, .int .i64 s_18), (15, .slice a55 ((v_19).length) c56), (86, .slice a12 ((y_3).length) c13), (87, .int .i64 ((y_3).length : Int)), (88, .int .i64 s_18), (97, .bool (((v_19).length : Int) != p0_0))] rfl ⟨rfl, rfl, rfl, rfl, rfl, rfl, rfl, rfl, rfl, trivial⟩ ?_
                      refine WO_end ?_
                      refine WK_cond (b := ((v_19).length : Int) != p0_0) rfl (fun hb59 => ?_) (fun hb59 => ?_)
                      · have hm46 := ifT hb59 hm46
                        refine WK_seq ?_
                        refine WK_region ?_
                        refine WO_pure tbok 1 [(3, .pointer (some ⟨b4, 0, none⟩)), (4, .pointer (some ⟨b5, 0, none⟩)), (6, .bool false), (14, .int .i64 s_18), (15, .slice a55 ((v_19).length) c56), (86, .slice a12 ((y_3).length) c13), (87, .int .i64 ((y_3).length : Int)), (88, .int .i64 s_18)] rfl ⟨rfl, rfl, rfl, rfl, rfl, rfl, rfl, rfl, trivial⟩ ?_
                        refine WO_end ?_
                        cases hm46
                        have hq := hd50 _ rfl
                        subst hq
                        have hm : some _ = some _ := hm
                        cases hm
                        exact WK_ret (ret_out (L := []) (RLc_tmp rfl RLc_nil) (List.nil_sublist _) rfl)
                      · have hm46 := ifF hb59 hm46
                        refine WK_skip ?_
                        refine WK_seq ?_
                        refine WK_region ?_
                        refine WO_pure tbok 3 [(3, .pointer (some ⟨b4, 0, none⟩)), (4, .pointer (some ⟨b5, 0, none⟩)), (6, .bool false), (14, .int .i64 s_18), (86, .slice a12 ((y_3).length) c13), (87, .int .i64 ((y_3).length : Int)), (88, .int .i64 s_18), (98, .slice a55 ((v_19).length) c56), (99, .int .i64 ((v_19).length : Int)), (100, .int .i64 0)] rfl ⟨rfl, rfl, rfl, rfl, rfl, rfl, rfl, rfl, rfl, rfl, trivial⟩ ?_
                        refine WO_end ?_
                        obtain ⟨x60, hx61, hm46⟩ := bind_some hm46
                        refine WK_join (β := Unit × Unit) (fun p => Sum.inr p.1 = x60) (fun p => [(3, .pointer (some ⟨b4, 0, none⟩)), (4, .pointer (some ⟨b5, 0, none⟩)), (6, .bool false), (86, .slice a12 ((y_3).length) c13), (87, .int .i64 ((y_3).length : Int)), (88, .int .i64 s_18)]) (fun p => St w0 m m17 [[⟨b4, 50, [.int .i64 p0_0, .int .i64 p0_1, .int .i64 p0_2, .slice a_p0_3 p0_3.length c_p0_3]⟩], [⟨b5, 50, [.int .i64 p1_0, .int .i64 p1_1, .int .i64 p1_2, .slice a_p1_3 p1_3.length c_p1_3]⟩], L15, L24, [⟨b26, 50, [.int .i64 y_5, .int .i64 y_6, .int .i64 y_7, .slice a21 ((y_8).length) c22]⟩], L31, [⟨b33, 50, [.int .i64 y_10, .int .i64 y_11, .int .i64 y_12, .slice a28 ((y_13).length) c29]⟩]]) ?_ (fun hk62 => ?_)
                        · rintro ⟨⟨⟩, ⟨⟩⟩ hq68
                          subst hq68
                          refine WK.sub (e' := [(3, .pointer (some ⟨b4, 0, none⟩)), (4, .pointer (some ⟨b5, 0, none⟩)), (6, .bool false), (86, .slice a12 ((y_3).length) c13), (87, .int .i64 ((y_3).length : Int)), (88, .int .i64 s_18)]) ⟨rfl, rfl, rfl, rfl, rfl, rfl, trivial⟩ (WK.cls (C' := St w0 m m17 [[⟨b4, 50, [.int .i64 p0_0, .int .i64 p0_1, .int .i64 p0_2, .slice a_p0_3 p0_3.length c_p0_3]⟩], [⟨b5, 50, [.int .i64 p1_0, .int .i64 p1_1, .int .i64 p1_2, .slice a_p1_3 p1_3.length c_p1_3]⟩], L15, L24, [⟨b26, 50, [.int .i64 y_5, .int .i64 y_6, .int .i64 y_7, .slice a21 ((y_8).length) c22]⟩], L31, [⟨b33, 50, [.int .i64 y_10, .int .i64 y_11, .int .i64 y_12, .slice a28 ((y_13).length) c29]⟩]]) (fun _ h => h) ?_)
                          refine WK_blk ?_
                          refine WK_region ?_
                          refine WO_pure tbok 2 [(3, .pointer (some ⟨b4, 0, none⟩)), (4, .pointer (some ⟨b5, 0, none⟩)), (6, .bool false), (86, .slice a12 ((y_3).length) c13), (87, .int .i64 ((y_3).length : Int)), (88, .int .i64 (w64 (s_18 + 1)))] rfl ⟨rfl, rfl, rfl, rfl, rfl, rfl, trivial⟩ ?_
                          refine WO_end ?_
                          cases hm46
                          refine WK.sub ?_ (WK.cls (fun _ h => h) (hn49 _ () rfl trivial))
                          exact ⟨rfl, rfl, rfl, rfl, rfl, rfl, trivial⟩
                        · refine WK_block ?_
                          refine WK_loop (S := Int) (G := Unit) (fun s => fiduciallaw50_SeamMosaics_s2 p0_0 p0_3 p1_3 s_18 v_19 s) (fun s g => [(3, .pointer (some ⟨b4, 0, none⟩)), (4, .pointer (some ⟨b5, 0, none⟩)), (6, .bool false), (14, .int .i64 s_18), (86, .slice a12 ((y_3).length) c13), (87, .int .i64 ((y_3).length : Int)), (88, .int .i64 s_18), (98, .slice a55 ((v_19).length) c56), (99, .int .i64 ((v_19).length : Int)), (100, .int .i64 s)]) (fun s g => St w0 m m17 [[⟨b4, 50, [.int .i64 p0_0, .int .i64 p0_1, .int .i64 p0_2, .slice a_p0_3 p0_3.length c_p0_3]⟩], [⟨b5, 50, [.int .i64 p1_0, .int .i64 p1_1, .int .i64 p1_2, .slice a_p1_3 p1_3.length c_p1_3]⟩], L15, L24, [⟨b26, 50, [.int .i64 y_5, .int .i64 y_6, .int .i64 y_7, .slice a21 ((y_8).length) c22]⟩], L31, [⟨b33, 50, [.int .i64 y_10, .int .i64 y_11, .int .i64 y_12, .slice a28 ((y_13).length) c29]⟩]]) (fun s g => True) FUEL 0 () x60 hx61 trivial ⟨rfl, rfl, rfl, rfl, rfl, rfl, rfl, rfl, rfl, rfl, trivial⟩ (fun _ h => h) ?_
                          rintro s_20 ⟨⟩ o64 fl65 hm63 - hn66 hd67
                          have hm63 : fiduciallaw50_SeamMosaics_s2 p0_0 p0_3 p1_3 s_18 v_19 s_20 = some o64 := hm63
                          unfold fiduciallaw50_SeamMosaics_s2 at hm63
                          refine WK.sub (e' := [(3, .pointer (some ⟨b4, 0, none⟩)), (4, .pointer (some ⟨b5, 0, none⟩)), (6, .bool false), (14, .int .i64 s_18), (86, .slice a12 ((y_3).length) c13), (87, .int .i64 ((y_3).length : Int)), (88, .int .i64 s_18), (98, .slice a55 ((v_19).length) c56), (99, .int .i64 ((v_19).length : Int)), (100, .int .i64 s_20)]) ⟨rfl, rfl, rfl, rfl, rfl, rfl, rfl, rfl, rfl, rfl, trivial⟩ (WK.cls (C' := St w0 m m17 [[⟨b4, 50, [.int .i64 p0_0, .int .i64 p0_1, .int .i64 p0_2, .slice a_p0_3 p0_3.length c_p0_3]⟩], [⟨b5, 50, [.int .i64 p1_0, .int .i64 p1_1, .int .i64 p1_2, .slice a_p1_3 p1_3.length c_p1_3]⟩], L15, L24, [⟨b26, 50, [.int .i64 y_5, .int .i64 y_6, .int .i64 y_7, .slice a21 ((y_8).length) c22]⟩], L31, [⟨b33, 50, [.int .i64 y_10, .int .i64 y_11, .int .i64 y_12, .slice a28 ((y_13).length) c29]⟩]]) (fun _ h => h) ?_)
                          refine WK_seq ?_
                          refine WK_region ?_
                          refine WO_pure tbok 1 [(3, .pointer (some ⟨b4, 0, none⟩)), (4, .pointer (some ⟨b5, 0, none⟩)), (6, .bool false), (14, .int .i64 s_18), (86, .slice a12 ((y_3).length) c13), (87, .int .i64 ((y_3).length : Int)), (88, .int .i64 s_18), (98, .slice a55 ((v_19).length) c56), (99, .int .i64 ((v_19).length : Int)), (100, .int .i64 s_20), (101, .bool (decide (s_20 < ((v_19).length : Int))))] rfl ⟨rfl, rfl, rfl, rfl, rfl, rfl, rfl, rfl, rfl, rfl, rfl, trivial⟩ ?_
                          refine WO_end ?_
                          refine WK_seq ?_
                          refine WK_cond (b := decide (s_20 < ((v_19).length : Int))) rfl (fun hb69 => ?_) (fun hb69 => ?_)
                          · have hm63 := ifT hb69 hm63
                            refine WK_skip ?_
                            refine WK_seq ?_
                            refine WK_block ?_
                            refine WK_seq ?_
                            refine WK_region ?_
                            refine WO_pure tbok 1 [(3, .pointer (some ⟨b4, 0, none⟩)), (4, .pointer (some ⟨b5, 0, none⟩)), (6, .bool false), (14, .int .i64 s_18), (86, .slice a12 ((y_3).length) c13), (87, .int .i64 ((y_3).length : Int)), (88, .int .i64 s_18), (98, .slice a55 ((v_19).length) c56), (99, .int .i64 ((v_19).length : Int)), (100, .int .i64 s_20), (102, .int .i64 s_20)] rfl ⟨rfl, rfl, rfl, rfl, rfl, rfl, rfl, rfl, rfl, rfl, rfl, trivial⟩ ?_
                            obtain ⟨v_21, hy70, hm63⟩ := bind_some hm63
                            obtain ⟨hc71, hy70⟩ := ix_some hy70
                            refine WO_index tbok rfl rfl rfl rfl rfl rfl rfl rfl (SlR.addr h57) hc71 ?_
                            refine WO_loadE tbok rfl rfl rfl rfl (fun _ h => St.sat h) h57 hy70 rfl ?_
                            refine WO_pure tbok 2 [(3, .pointer (some ⟨b4, 0, none⟩)), (4, .pointer (some ⟨b5, 0, none⟩)), (6, .bool false), (14, .int .i64 s_18), (16, .int .i64 s_20), (17, .int .i64 v_21), (86, .slice a12 ((y_3).length) c13), (87, .int .i64 ((y_3).length : Int)), (88, .int .i64 s_18), (98, .slice a55 ((v_19).length) c56), (99, .int .i64 ((v_19).length : Int)), (100, .int .i64 s_20)] rfl ⟨rfl, rfl, rfl, rfl, rfl, rfl, rfl, rfl, rfl, rfl, rfl, rfl, trivial⟩ ?_
                            refine WO_end ?_
                            refine WK_seq ?_
                            refine WK_draw 22 [0, 1, 2, 3, 4, 5, 6, 7, 8, 9, 10, 11, 12, 13, 14, 15, 16, 17, 18, 19, 20, 21] follows_ok (by kernel_rfl) St_closed ?_
                            refine WO_pure tbok 1 [(3, .pointer (some ⟨b4, 0, none⟩)), (4, .pointer (some ⟨b5, 0, none⟩)), (6, .bool false), (14, .int .i64 s_18), (16, .int .i64 s_20), (17, .int .i64 v_21), (86, .slice a12 ((y_3).length) c13), (87, .int .i64 ((y_3).length : Int)), (88, .int .i64 s_18), (98, .slice a55 ((v_19).length) c56), (99, .int .i64 ((v_19).length : Int)), (100, .int .i64 s_20), (105, .pointer (some ⟨b4, 3, none⟩))] rfl ⟨rfl, rfl, rfl, rfl, rfl, rfl, rfl, rfl, rfl, rfl, rfl, rfl, rfl, trivial⟩ ?_
                            refine WO_loadB tbok 0 rfl rfl rfl rfl (fun _ h => h) rfl rfl ?_
                            refine WO_pure tbok 2 [(3, .pointer (some ⟨b4, 0, none⟩)), (4, .pointer (some ⟨b5, 0, none⟩)), (6, .bool false), (14, .int .i64 s_18), (16, .int .i64 s_20), (17, .int .i64 v_21), (86, .slice a12 ((y_3).length) c13), (87, .int .i64 ((y_3).length : Int)), (88, .int .i64 s_18), (98, .slice a55 ((v_19).length) c56), (99, .int .i64 ((v_19).length : Int)), (100, .int .i64 s_20), (106, .slice a_p0_3 p0_3.length c_p0_3), (107, .int .i64 s_18), (108, .pointer (some ⟨b4, 0, none⟩))] rfl ⟨rfl, rfl, rfl, rfl, rfl, rfl, rfl, rfl, rfl, rfl, rfl, rfl, rfl, rfl, rfl, trivial⟩ ?_
                            refine WO_loadB tbok 0 rfl rfl rfl rfl (fun _ h => h) rfl rfl ?_
                            refine WO_pure tbok 3 [(3, .pointer (some ⟨b4, 0, none⟩)), (4, .pointer (some ⟨b5, 0, none⟩)), (6, .bool false), (14, .int .i64 s_18), (16, .int .i64 s_20), (17, .int .i64 v_21), (86, .slice a12 ((y_3).length) c13), (87, .int .i64 ((y_3).length : Int)), (88, .int .i64 s_18), (98, .slice a55 ((v_19).length) c56), (99, .int .i64 ((v_19).length : Int)), (100, .int .i64 s_20), (106, .slice a_p0_3 p0_3.length c_p0_3), (112, .int .i64 (w64 ((w64 (s_18 * p0_0)) + s_20)))] rfl ⟨rfl, rfl, rfl, rfl, rfl, rfl, rfl, rfl, rfl, rfl, rfl, rfl, rfl, rfl, trivial⟩ ?_
                            obtain ⟨v_22, hy72, hm63⟩ := bind_some hm63
                            obtain ⟨hc73, hy72⟩ := ix_some hy72
                            refine WO_index tbok rfl rfl rfl rfl rfl rfl rfl rfl (SlR.addr (h_p0_3.mono (mono_FE _) hle18)) hc73 ?_
                            refine WO_loadE tbok rfl rfl rfl rfl (fun _ h => St.sat h) (h_p0_3.mono (mono_FE _) hle18) hy72 rfl ?_
                            refine WO_pure tbok 1 [(3, .pointer (some ⟨b4, 0, none⟩)), (4, .pointer (some ⟨b5, 0, none⟩)), (6, .bool false), (14, .int .i64 s_18), (16, .int .i64 s_20), (17, .int .i64 v_21), (86, .slice a12 ((y_3).length) c13), (87, .int .i64 ((y_3).length : Int)), (88, .int .i64 s_18), (98, .slice a55 ((v_19).length) c56), (99, .int .i64 ((v_19).length : Int)), (100, .int .i64 s_20), (114, .int .i64 v_22), (115, .pointer (some ⟨b5, 3, none⟩))] rfl ⟨rfl, rfl, rfl, rfl, rfl, rfl, rfl, rfl, rfl, rfl, rfl, rfl, rfl, rfl, trivial⟩ ?_
                            refine WO_loadB tbok 1 rfl rfl rfl rfl (fun _ h => h) rfl rfl ?_
                            refine WO_pure tbok 2 [(3, .pointer (some ⟨b4, 0, none⟩)), (4, .pointer (some ⟨b5, 0, none⟩)), (6, .bool false), (14, .int .i64 s_18), (16, .int .i64 s_20), (17, .int .i64 v_21), (86, .slice a12 ((y_3).length) c13), (87, .int .i64 ((y_3).length : Int)), (88, .int .i64 s_18), (98, .slice a55 ((v_19).length) c56), (99, .int .i64 ((v_19).length : Int)), (100, .int .i64 s_20), (114, .int .i64 v_22), (116, .slice a_p1_3 p1_3.length c_p1_3), (117, .int .i64 s_18), (118, .pointer (some ⟨b4, 0, none⟩))] rfl ⟨rfl, rfl, rfl, rfl, rfl, rfl, rfl, rfl, rfl, rfl, rfl, rfl, rfl, rfl, rfl, rfl, trivial⟩ ?_
                            refine WO_loadB tbok 0 rfl rfl rfl rfl (fun _ h => h) rfl rfl ?_
                            refine WO_pure tbok 3 [(3, .pointer (some ⟨b4, 0, none⟩)), (4, .pointer (some ⟨b5, 0, none⟩)), (6, .bool false), (14, .int .i64 s_18), (17, .int .i64 v_21), (86, .slice a12 ((y_3).length) c13), (87, .int .i64 ((y_3).length : Int)), (88, .int .i64 s_18), (98, .slice a55 ((v_19).length) c56), (99, .int .i64 ((v_19).length : Int)), (100, .int .i64 s_20), (114, .int .i64 v_22), (116, .slice a_p1_3 p1_3.length c_p1_3), (122, .int .i64 (w64 ((w64 (s_18 * p0_0)) + s_20)))] rfl ⟨rfl, rfl, rfl, rfl, rfl, rfl, rfl, rfl, rfl, rfl, rfl, rfl, rfl, rfl, trivial⟩ ?_
                            obtain ⟨v_23, hy74, hm63⟩ := bind_some hm63
                            obtain ⟨hc75, hy74⟩ := ix_some hy74
                            refine WO_index tbok rfl rfl rfl rfl rfl rfl rfl rfl (SlR.addr (h_p1_3.mono (mono_FE _) hle18)) hc75 ?_
                            refine WO_loadE tbok rfl rfl rfl rfl (fun _ h => St.sat h) (h_p1_3.mono (mono_FE _) hle18) hy74 rfl ?_
                            refine WO_pure tbok 2 [(3, .pointer (some ⟨b4, 0, none⟩)), (4, .pointer (some ⟨b5, 0, none⟩)), (6, .bool false), (14, .int .i64 s_18), (17, .int .i64 v_21), (18, .int .i64 v_22), (19, .int .i64 v_23), (86, .slice a12 ((y_3).length) c13), (87, .int .i64 ((y_3).length : Int)), (88, .int .i64 s_18), (98, .slice a55 ((v_19).length) c56), (99, .int .i64 ((v_19).length : Int)), (100, .int .i64 s_20)] rfl ⟨rfl, rfl, rfl, rfl, rfl, rfl, rfl, rfl, rfl, rfl, rfl, rfl, rfl, trivial⟩ ?_
                            refine WO_tail ?_
                            refine WO_end ?_
                            refine WK_seq ?_
                            refine WK_region ?_
                            refine WO_pure tbok 9 [(3, .pointer (some ⟨b4, 0, none⟩)), (4, .pointer (some ⟨b5, 0, none⟩)), (6, .bool false), (14, .int .i64 s_18), (86, .slice a12 ((y_3).length) c13), (87, .int .i64 ((y_3).length : Int)), (88, .int .i64 s_18), (98, .slice a55 ((v_19).length) c56), (99, .int .i64 ((v_19).length : Int)), (100, .int .i64 s_20), (133, .bool (v_21 != (if (w64 (v_22 - v_23)) < (w64 (v_23 - v_22)) then (w64 (v_23 - v_22)) else (w64 (v_22 - v_23)))))] rfl ⟨rfl, rfl, rfl, rfl, rfl, rfl, rfl, rfl, rfl, rfl, rfl, trivial⟩ ?_
                            refine WO_end ?_
                            refine WK_cond (b := v_21 != (if (w64 (v_22 - v_23)) < (w64 (v_23 - v_22)) then (w64 (v_23 - v_22)) else (w64 (v_22 - v_23)))) rfl (fun hb76 => ?_) (fun hb76 => ?_)
                            · have hm63 := ifT hb76 hm63
                              refine WK_seq ?_
                              refine WK_region ?_
                              refine WO_pure tbok 1 [(3, .pointer (some ⟨b4, 0, none⟩)), (4, .pointer (some ⟨b5, 0, none⟩)), (6, .bool false), (14, .int .i64 s_18), (86, .slice a12 ((y_3).length) c13), (87, .int .i64 ((y_3).length : Int)), (88, .int .i64 s_18), (98, .slice a55 ((v_19).length) c56), (99, .int .i64 ((v_19).length : Int)), (100, .int .i64 s_20)] rfl ⟨rfl, rfl, rfl, rfl, rfl, rfl, rfl, rfl, rfl, rfl, trivial⟩ ?_
                              refine WO_end ?_
                              cases hm63
                              have hq := hd67 _ rfl
                              subst hq
                              have hm46 : some _ = some _ := hm46
                              cases hm46
                              have hq := hd50 _ rfl
                              subst hq
                              have hm : some _ = some _ := hm
                              cases hm
                              exact WK_ret (ret_out (L := []) (RLc_tmp rfl RLc_nil) (List.nil_sublist _) rfl)
                            · have hm63 := ifF hb76 hm63
                              refine WK_skip ?_
                              refine WK_blk ?_
                              refine WK_region ?_
                              refine WO_pure tbok 2 [(3, .pointer (some ⟨b4, 0, none⟩)), (4, .pointer (some ⟨b5, 0, none⟩)), (6, .bool false), (14, .int .i64 s_18), (86, .slice a12 ((y_3).length) c13), (87, .int .i64 ((y_3).length : Int)), (88, .int .i64 s_18), (98, .slice a55 ((v_19).length) c56), (99, .int .i64 ((v_19).length : Int)), (100, .int .i64 (w64 (s_20 + 1)))] rfl ⟨rfl, rfl, rfl, rfl, rfl, rfl, rfl, rfl, rfl, rfl, trivial⟩ ?_
                              refine WO_end ?_
                              cases hm63
                              refine WK.sub ?_ (WK.cls (fun _ h => h) (hn66 _ () rfl trivial))
                              exact ⟨rfl, rfl, rfl, rfl, rfl, rfl, rfl, rfl, rfl, rfl, trivial⟩
                          · have hm63 := ifF hb69 hm63
                            refine WK_exit rfl ?_
                            cases hm63
                            refine WK.sub ?_ (WK.cls (fun _ h => h) (hk62 ((), ()) (hd67 _ rfl)))
                            exact ⟨rfl, rfl, rfl, rfl, rfl, rfl, trivial⟩
                    · have hm46 := ifF hb52 hm46
                      refine WK_exit rfl ?_
                      cases hm46
                      refine WK.sub ?_ (WK.cls (fun _ h => h) (hk45 ((), ()) (hd50 _ rfl)))
                      exact ⟨rfl, trivial⟩
              · refine WK_region ?_
                refine WO_pure tbok 3 [(3, .pointer (some ⟨b4, 0, none⟩)), (4, .pointer (some ⟨b5, 0, none⟩)), (6, .bool false), (7, .slice a12 ((y_3).length) c13), (79, .bool (y_4 != 0))] rfl ⟨rfl, rfl, rfl, rfl, rfl, trivial⟩ ?_
                refine WO_split (d := 79) (b := y_4 != 0) rfl (fun hb77 => ?_) (fun hb77 => ?_)
                · have hx40 := ifT hb77 hx40
                  refine WO_pure tbok 6 [(3, .pointer (some ⟨b4, 0, none⟩)), (4, .pointer (some ⟨b5, 0, none⟩)), (6, .bool false), (7, .slice a12 ((y_3).length) c13), (85, .bool true)] rfl ⟨rfl, rfl, rfl, rfl, rfl, trivial⟩ ?_
                  refine WO_end ?_
                  cases hx40
                  refine WK.sub ?_ (WK.cls (fun _ h => h) hk41)
                  exact ⟨rfl, rfl, rfl, rfl, rfl, trivial⟩
                · have hx40 := ifF hb77 hx40
                  refine WO_pure tbok 3 [(3, .pointer (some ⟨b4, 0, none⟩)), (4, .pointer (some ⟨b5, 0, none⟩)), (6, .bool false), (7, .slice a12 ((y_3).length) c13), (79, .bool false), (81, .int .i64 ((y_3).length : Int)), (82, .pointer (some ⟨b4, 1, none⟩))] rfl ⟨rfl, rfl, rfl, rfl, rfl, rfl, rfl, trivial⟩ ?_
                  refine WO_loadB tbok 0 rfl rfl rfl rfl (fun _ h => h) rfl rfl ?_
                  refine WO_pure tbok 2 [(3, .pointer (some ⟨b4, 0, none⟩)), (4, .pointer (some ⟨b5, 0, none⟩)), (6, .bool false), (7, .slice a12 ((y_3).length) c13), (85, .bool (((y_3).length : Int) != p0_1))] rfl ⟨rfl, rfl, rfl, rfl, rfl, trivial⟩ ?_
                  refine WO_end ?_
                  cases hx40
                  refine WK.sub ?_ (WK.cls (fun _ h => h) hk41)
                  exact ⟨rfl, rfl, rfl, rfl, rfl, trivial⟩
        · refine WK_region ?_
          refine WO_pure tbok 4 [(3, .pointer (some ⟨b4, 0, none⟩)), (4, .pointer (some ⟨b5, 0, none⟩)), (6, .bool false), (7, .slice a12 ((y_3).length) c13), (8, .int .i64 y_4), (9, .pointer (some ⟨b26, 0, none⟩)), (11, .pointer (some ⟨b33, 0, none⟩)), (58, .bool (y_9 != y_14))] rfl ⟨rfl, rfl, rfl, rfl, rfl, rfl, rfl, rfl, trivial⟩ ?_
          refine WO_split (d := 58) (b := y_9 != y_14) rfl (fun hb78 => ?_) (fun hb78 => ?_)
          · have hx34 := ifT hb78 hx34
            refine WO_pure tbok 2 [(3, .pointer (some ⟨b4, 0, none⟩)), (4, .pointer (some ⟨b5, 0, none⟩)), (6, .bool false), (7, .slice a12 ((y_3).length) c13), (8, .int .i64 y_4), (58, .bool true)] rfl ⟨rfl, rfl, rfl, rfl, rfl, rfl, trivial⟩ ?_
            refine WO_skip rfl rfl ?_
            refine WO_pure tbok 2 [(3, .pointer (some ⟨b4, 0, none⟩)), (4, .pointer (some ⟨b5, 0, none⟩)), (6, .bool false), (7, .slice a12 ((y_3).length) c13), (8, .int .i64 y_4), (63, .bool true)] rfl ⟨rfl, rfl, rfl, rfl, rfl, rfl, trivial⟩ ?_
            refine WO_end ?_
            cases hx34
            refine WK.sub ?_ (WK.cls (fun _ h => h) hk35)
            exact ⟨rfl, rfl, rfl, rfl, rfl, rfl, trivial⟩
          · have hx34 := ifF hb78 hx34
            refine WO_loadB tbok 4 rfl rfl rfl rfl (fun _ h => h) rfl rfl ?_
            refine WO_loadB tbok 6 rfl rfl rfl rfl (fun _ h => h) rfl rfl ?_
            obtain ⟨y_24, hc79, hx34⟩ := bind_some hx34
            refine WO_call0 (.bool y_24) rfl rfl trivial rfl rfl rfl rfl St_closed ⟨32, #[], #[], rfl, callable_32, fun w hw => ⟨_, hw.satV, fiducialref13_Equal_walk (OwnE.rd (E := (I1 .i64)) (k := 1) (fun _ => rfl) hL24 (fun _ hx => hw.memV (i := 3) rfl hx)) (OwnE.rd (E := (I1 .i64)) (k := 1) (fun _ => rfl) hL31 (fun _ hx => hw.memV (i := 5) rfl hx)) hc79⟩⟩ ?_
            refine WO_pure tbok 2 [(3, .pointer (some ⟨b4, 0, none⟩)), (4, .pointer (some ⟨b5, 0, none⟩)), (6, .bool false), (7, .slice a12 ((y_3).length) c13), (8, .int .i64 y_4), (63, .bool (!y_24))] rfl ⟨rfl, rfl, rfl, rfl, rfl, rfl, trivial⟩ ?_
            refine WO_end ?_
            cases hx34
            refine WK.sub ?_ (WK.cls (fun _ h => h) hk35)
            exact ⟨rfl, rfl, rfl, rfl, rfl, rfl, trivial⟩
    · refine WK_region ?_
      refine WO_loadB tbok 0 rfl rfl rfl rfl (fun _ h => h) rfl rfl ?_
      obtain ⟨y_25, hc80, hx8⟩ := bind_some hx8
      refine WO_call0 (.bool y_25) rfl rfl trivial rfl rfl rfl rfl St_closed ⟨28, #[], #[], rfl, callable_28, fun w hw => ⟨_, hw.sat, fiduciallaw50_small_walk h_p0_3 hc80⟩⟩ ?_
      refine WO_pure tbok 2 [(2, .slice a_p2 p2.length c_p2), (3, .pointer (some ⟨b4, 0, none⟩)), (4, .pointer (some ⟨b5, 0, none⟩)), (6, .bool false), (25, .bool (!y_25))] rfl ⟨rfl, rfl, rfl, rfl, rfl, trivial⟩ ?_
      refine WO_split (d := 25) (b := !y_25) rfl (fun hb81 => ?_) (fun hb81 => ?_)
      · have hx8 := ifT hb81 hx8
        refine WO_pure tbok 1 [(2, .slice a_p2 p2.length c_p2), (3, .pointer (some ⟨b4, 0, none⟩)), (4, .pointer (some ⟨b5, 0, none⟩)), (6, .bool false), (25, .bool true)] rfl ⟨rfl, rfl, rfl, rfl, rfl, trivial⟩ ?_
        refine WO_skip rfl rfl ?_
        refine WO_pure tbok 7 [(2, .slice a_p2 p2.length c_p2), (3, .pointer (some ⟨b4, 0, none⟩)), (4, .pointer (some ⟨b5, 0, none⟩)), (6, .bool false), (34, .bool true)] rfl ⟨rfl, rfl, rfl, rfl, rfl, trivial⟩ ?_
        refine WO_end ?_
        cases hx8
        refine WK.sub ?_ (WK.cls (fun _ h => h) hk9)
        exact ⟨rfl, rfl, rfl, rfl, rfl, trivial⟩
      · have hx8 := ifF hb81 hx8
        refine WO_loadB tbok 1 rfl rfl rfl rfl (fun _ h => h) rfl rfl ?_
        obtain ⟨y_26, hc82, hx8⟩ := bind_some hx8
        refine WO_call0 (.bool y_26) rfl rfl trivial rfl rfl rfl rfl St_closed ⟨28, #[], #[], rfl, callable_28, fun w hw => ⟨_, hw.sat, fiduciallaw50_small_walk h_p1_3 hc82⟩⟩ ?_
        refine WO_pure tbok 3 [(2, .slice a_p2 p2.length c_p2), (3, .pointer (some ⟨b4, 0, none⟩)), (4, .pointer (some ⟨b5, 0, none⟩)), (6, .bool false), (30, .bool (!y_26))] rfl ⟨rfl, rfl, rfl, rfl, rfl, trivial⟩ ?_
        refine WO_split (d := 30) (b := !y_26) rfl (fun hb83 => ?_) (fun hb83 => ?_)
        · have hx8 := ifT hb83 hx8
          refine WO_pure tbok 4 [(2, .slice a_p2 p2.length c_p2), (3, .pointer (some ⟨b4, 0, none⟩)), (4, .pointer (some ⟨b5, 0, none⟩)), (6, .bool false), (34, .bool true)] rfl ⟨rfl, rfl, rfl, rfl, rfl, trivial⟩ ?_
          refine WO_end ?_
          cases hx8
          refine WK.sub ?_ (WK.cls (fun _ h => h) hk9)
          exact ⟨rfl, rfl, rfl, rfl, rfl, trivial⟩
        · have hx8 := ifF hb83 hx8
          refine WO_pure tbok 4 [(2, .slice a_p2 p2.length c_p2), (3, .pointer (some ⟨b4, 0, none⟩)), (4, .pointer (some ⟨b5, 0, none⟩)), (6, .bool false), (34, .bool (decide (20 < (p2.length : Int))))] rfl ⟨rfl, rfl, rfl, rfl, rfl, trivial⟩ ?_
          refine WO_end ?_
          cases hx8
          refine WK.sub ?_ (WK.cls (fun _ h => h) hk9)
          exact ⟨rfl, rfl, rfl, rfl, rfl, trivial⟩
theorem seam_Through_c1_walk {m : Mu} {p0 : Int} {p1 : Int} {q0_0 : Int} {q1_0 : Int} {b_q0 : Nat} {b_q1 : Nat} (hb_q0 : m b_q0 = some (Ent.obj ⟨b_q0, 3, [.int .i64 q0_0]⟩)) (hb_q1 : m b_q1 = some (Ent.obj ⟨b_q1, 3, [.int .i64 q1_0]⟩)) {r : Bool} (hm : seam_Through_c1 p0 p1 q0_0 q1_0 = some r) :
    Go.E.Spec Try.prog 55 [.int .i64 p0, .int .i64 p1, .pointer (some ⟨b_q0, 0, none⟩), .pointer (some ⟨b_q1, 0, none⟩)] m (fun v _ _ => v = .bool r) := by
  refine Spec_enter Try.func55 rfl rfl rfl (fun w0 => ?_)
  refine WK.sub (e' := [(0, .int .i64 p0), (1, .int .i64 p1), (2, .pointer (some ⟨b_q0, 0, none⟩)), (3, .pointer (some ⟨b_q1, 0, none⟩))]) ⟨rfl, rfl, rfl, rfl, trivial⟩ ?_
  refine WK.sub (e' := [(0, .int .i64 p0), (1, .int .i64 p1), (2, .pointer (some ⟨b_q0, 0, none⟩)), (3, .pointer (some ⟨b_q1, 0, none⟩))]) ⟨rfl, rfl, rfl, rfl, trivial⟩ ?_
  unfold seam_Through_c1 at hm
  refine WK_seq ?_
  refine WK_region ?_
  refine WO_pure tbok 1 [(0, .int .i64 p0), (1, .int .i64 p1), (2, .pointer (some ⟨b_q0, 0, none⟩)), (3, .pointer (some ⟨b_q1, 0, none⟩)), (6, .bool false)] rfl ⟨rfl, rfl, rfl, rfl, rfl, trivial⟩ ?_
  refine WO_end ?_
  refine WK_seq ?_
  refine WK_region ?_
  refine WO_pure tbok 1 [(1, .int .i64 p1), (2, .pointer (some ⟨b_q0, 0, none⟩)), (3, .pointer (some ⟨b_q1, 0, none⟩)), (6, .bool false), (7, .int .i64 p0)] rfl ⟨rfl, rfl, rfl, rfl, rfl, trivial⟩ ?_
  refine WO_loadM tbok rfl rfl rfl rfl (fun _ h => St.sat h) hb_q0 rfl ?_
  refine WO_pure tbok 2 [(1, .int .i64 p1), (3, .pointer (some ⟨b_q1, 0, none⟩)), (6, .bool false), (10, .bool (p0 != q0_0))] rfl ⟨rfl, rfl, rfl, rfl, trivial⟩ ?_
  refine WO_split (d := 10) (b := p0 != q0_0) rfl (fun hb1 => ?_) (fun hb1 => ?_)
  · have hm := ifT hb1 hm
    refine WO_pure tbok 5 [(6, .bool true)] rfl ⟨rfl, trivial⟩ ?_
    refine WO_end ?_
    cases hm
    exact WK_ret (ret_out (L := []) (RLc_tmp rfl RLc_nil) (List.nil_sublist _) rfl)
  · have hm := ifF hb1 hm
    refine WO_pure tbok 1 [(3, .pointer (some ⟨b_q1, 0, none⟩)), (6, .bool false), (10, .bool false), (11, .int .i64 p1)] rfl ⟨rfl, rfl, rfl, rfl, trivial⟩ ?_
    refine WO_loadM tbok rfl rfl rfl rfl (fun _ h => St.sat h) hb_q1 rfl ?_
    refine WO_pure tbok 3 [(6, .bool (p1 == q1_0))] rfl ⟨rfl, trivial⟩ ?_
    refine WO_end ?_
    cases hm
    exact WK_ret (ret_out (L := []) (RLc_tmp rfl RLc_nil) (List.nil_sublist _) rfl)
def seam_Through_Q (r : List Int × Int × List (List Int) × Int) : Value → Mu → List Ent → Prop := fun v m L => ∃ (a0 : Option Addr) (q0 c0 : Nat) (a1 : Option Addr) (q1 c1 : Nat), v = .tuple #[.agg #[.slice a0 q0 c0, .int .i64 r.2.1, .slice a1 q1 c1], .int .i64 r.2.2.2] ∧ SlR (FE (I1 .i64)) 1 m (.slice a0 q0 c0) r.1 ∧ SlR (RowE (FE (I1 .i64)) 1) 1 m (.slice a1 q1 c1) r.2.2.1
theorem seam_Through_walk {m : Mu} {p0 : List (List Int)} {p1 : Int} {p2 : Int} {a_p0 : Option Addr} {q_p0 c_p0 : Nat} (h_p0 : SlR (RowE (FE (I1 .i64)) 1) 1 m (.slice a_p0 q_p0 c_p0) p0) {r : List Int × Int × List (List Int) × Int} (hm : seam_Through p0 p1 p2 = some r) :
    Go.E.Spec Try.prog 34 [.slice a_p0 q_p0 c_p0, .int .i64 p1, .int .i64 p2] m (seam_Through_Q r) := by
  refine Spec_enter Try.func34 rfl rfl rfl (fun w0 => ?_)
  refine WK.sub (e' := [(0, .slice a_p0 q_p0 c_p0), (1, .int .i64 p1), (2, .int .i64 p2)]) ⟨rfl, rfl, rfl, trivial⟩ ?_
  obtain rfl := SlR.qlen h_p0
  refine WK.sub (e' := [(0, .slice a_p0 p0.length c_p0), (1, .int .i64 p1), (2, .int .i64 p2)]) ⟨rfl, rfl, rfl, trivial⟩ ?_
  unfold seam_Through at hm
  refine WK_seq ?_
  refine WK_region ?_
  refine WO_box [.int .i64 p1] rfl rfl trivial rfl rfl rfl (fun b2 => ?_)
  refine WO.cls (C' := St w0 m m [[⟨b2, 3, [.int .i64 p1]⟩]]) (fun _ h => h) ?_
  refine WO_box [.int .i64 p2] rfl rfl trivial rfl rfl rfl (fun b3 => ?_)
  refine WO.cls (C' := St w0 m m [[⟨b2, 3, [.int .i64 p1]⟩], [⟨b3, 3, [.int .i64 p2]⟩]]) (fun _ h => h) ?_
  refine WO_alloc tbok [.slice none 0 0, .int .i64 0, .slice none 0 0] rfl rfl trivial rfl rfl rfl rfl (fun b4 => ?_)
  refine WO.cls (C' := St w0 m m [[⟨b2, 3, [.int .i64 p1]⟩], [⟨b3, 3, [.int .i64 p2]⟩], [⟨b4, 25, [.slice none 0 0, .int .i64 0, .slice none 0 0]⟩]]) (fun _ h => h) ?_
  refine WO_pure tbok 1 [(0, .slice a_p0 p0.length c_p0), (4, .pointer (some ⟨b2, 0, none⟩)), (5, .pointer (some ⟨b3, 0, none⟩)), (6, .pointer (some ⟨b4, 0, none⟩)), (7, .int .i64 0)] rfl ⟨rfl, rfl, rfl, rfl, rfl, trivial⟩ ?_
  refine WO_end ?_
  refine WK_seq ?_
  refine WK_seq ?_
  refine WK_region ?_
  refine WO_pure tbok 1 [(0, .slice a_p0 p0.length c_p0), (4, .pointer (some ⟨b2, 0, none⟩)), (5, .pointer (some ⟨b3, 0, none⟩)), (6, .pointer (some ⟨b4, 0, none⟩)), (7, .int .i64 0), (11, .slice a_p0 p0.length c_p0)] rfl ⟨rfl, rfl, rfl, rfl, rfl, rfl, trivial⟩ ?_
  obtain ⟨y_1, hc5, hm⟩ := bind_some hm
  refine WO_call0 (.int .i64 y_1) rfl rfl trivial rfl rfl rfl rfl St_closed ⟨25, #[], #[], rfl, callable_25, fun w hw => ⟨_, hw.sat, seam_Check_walk h_p0 hc5⟩⟩ ?_
  refine WO_pure tbok 1 [(0, .slice a_p0 p0.length c_p0), (4, .pointer (some ⟨b2, 0, none⟩)), (5, .pointer (some ⟨b3, 0, none⟩)), (6, .pointer (some ⟨b4, 0, none⟩)), (7, .int .i64 0), (8, .int .i64 y_1)] rfl ⟨rfl, rfl, rfl, rfl, rfl, rfl, trivial⟩ ?_
  refine WO_end ?_
  refine WK_seq ?_
  refine WK_region ?_
  refine WO_pure tbok 2 [(0, .slice a_p0 p0.length c_p0), (4, .pointer (some ⟨b2, 0, none⟩)), (5, .pointer (some ⟨b3, 0, none⟩)), (6, .pointer (some ⟨b4, 0, none⟩)), (7, .int .i64 0), (8, .int .i64 y_1), (14, .bool (y_1 != 0))] rfl ⟨rfl, rfl, rfl, rfl, rfl, rfl, rfl, trivial⟩ ?_
  refine WO_end ?_
  refine WK_cond (b := y_1 != 0) rfl (fun hb6 => ?_) (fun hb6 => ?_)
  · have hm := ifT hb6 hm
    refine WK_seq ?_
    refine WK_region ?_
    refine WO_pure tbok 2 [(0, .slice a_p0 p0.length c_p0), (4, .pointer (some ⟨b2, 0, none⟩)), (5, .pointer (some ⟨b3, 0, none⟩)), (6, .pointer (some ⟨b4, 0, none⟩)), (7, .int .i64 0), (15, .agg #[.slice none 0 0, .int .i64 0, .slice none 0 0]), (16, .int .i64 y_1)] rfl ⟨rfl, rfl, rfl, rfl, rfl, rfl, rfl, trivial⟩ ?_
    refine WO_storeB tbok 2 [.slice none 0 0, .int .i64 0, .slice none 0 0] rfl rfl rfl rfl rfl rfl rfl ?_
    refine WO.cls (C' := St w0 m m [[⟨b2, 3, [.int .i64 p1]⟩], [⟨b3, 3, [.int .i64 p2]⟩], [⟨b4, 25, [.slice none 0 0, .int .i64 0, .slice none 0 0]⟩]]) (fun _ h => h) ?_
    refine WO_pure tbok 1 [(0, .slice a_p0 p0.length c_p0), (4, .pointer (some ⟨b2, 0, none⟩)), (5, .pointer (some ⟨b3, 0, none⟩)), (6, .pointer (some ⟨b4, 0, none⟩)), (7, .int .i64 y_1)] rfl ⟨rfl, rfl, rfl, rfl, rfl, trivial⟩ ?_
    refine WO_end ?_
    cases hm
    exact WK_ret (ret_out (L := []) (RLc_cell tbok 2 rfl rfl rfl (RLc_tmp rfl RLc_nil)) (List.nil_sublist _) ⟨none, 0, 0, none, 0, 0, rfl, SlR_nil, SlR_nil⟩)
  · have hm := ifF hb6 hm
    refine WK_skip ?_
    refine WK_seq ?_
    refine WK_seq ?_
    obtain ⟨s_2, hx7, hm⟩ := bind_some hm
    refine WK_meet [(0, .slice a_p0 p0.length c_p0), (4, .pointer (some ⟨b2, 0, none⟩)), (5, .pointer (some ⟨b3, 0, none⟩)), (6, .pointer (some ⟨b4, 0, none⟩)), (7, .int .i64 0), (36, .bool s_2)] (St w0 m m [[⟨b2, 3, [.int .i64 p1]⟩], [⟨b3, 3, [.int .i64 p2]⟩], [⟨b4, 25, [.slice none 0 0, .int .i64 0, .slice none 0 0]⟩]]) ?_ (fun hk8 => ?_)
    · refine WK_cond (b := s_2) rfl (fun hb9 => ?_) (fun hb9 => ?_)
      · have hm := ifT hb9 hm
        refine WK_seq ?_
        refine WK_region ?_
        refine WO_pure tbok 1 [(0, .slice a_p0 p0.length c_p0), (4, .pointer (some ⟨b2, 0, none⟩)), (5, .pointer (some ⟨b3, 0, none⟩)), (6, .pointer (some ⟨b4, 0, none⟩)), (7, .int .i64 0), (37, .agg #[.slice none 0 0, .int .i64 0, .slice none 0 0])] rfl ⟨rfl, rfl, rfl, rfl, rfl, rfl, trivial⟩ ?_
        refine WO_storeB tbok 2 [.slice none 0 0, .int .i64 0, .slice none 0 0] rfl rfl rfl rfl rfl rfl rfl ?_
        refine WO.cls (C' := St w0 m m [[⟨b2, 3, [.int .i64 p1]⟩], [⟨b3, 3, [.int .i64 p2]⟩], [⟨b4, 25, [.slice none 0 0, .int .i64 0, .slice none 0 0]⟩]]) (fun _ h => h) ?_
        refine WO_pure tbok 1 [(0, .slice a_p0 p0.length c_p0), (4, .pointer (some ⟨b2, 0, none⟩)), (5, .pointer (some ⟨b3, 0, none⟩)), (6, .pointer (some ⟨b4, 0, none⟩)), (7, .int .i64 2)] rfl ⟨rfl, rfl, rfl, rfl, rfl, trivial⟩ ?_
        refine WO_end ?_
        cases hm
        exact WK_ret (ret_out (L := []) (RLc_cell tbok 2 rfl rfl rfl (RLc_tmp rfl RLc_nil)) (List.nil_sublist _) ⟨none, 0, 0, none, 0, 0, rfl, SlR_nil, SlR_nil⟩)
      · have hm := ifF hb9 hm
        refine WK_skip ?_
        refine WK_seq ?_
        refine WK_region ?_
        refine WO_pure tbok 2 [(6, .pointer (some ⟨b4, 0, none⟩)), (7, .int .i64 0), (39, .slice a_p0 p0.length c_p0), (40, .func (.func 55) #[] #[.pointer (some ⟨b2, 0, none⟩), .pointer (some ⟨b3, 0, none⟩)])] rfl ⟨rfl, rfl, rfl, rfl, trivial⟩ ?_
        obtain ⟨⟨y_5, y_6⟩, hc10, hm⟩ := bind_some hm
        refine WO_call1 (seam_first_Q (y_5, y_6)) rfl rfl trivial rfl rfl rfl rfl ⟨44, #[], #[], rfl, callable_44, fun w hw => ⟨_, hw.satV, seam_first_walk (h_p0.mono (mono_RowE (mono_FE _) _) hw.leV) (fun m1 hm1 z_3 z_4 _ h => specV_cap callable_55 (seam_Through_c1_walk (hm1 _ _ (hw.memV (i := 0) rfl (List.mem_singleton.2 rfl))) (hm1 _ _ (hw.memV (i := 1) rfl (List.mem_singleton.2 rfl))) h)) hc10⟩⟩ (fun v15 L14 hq => ?_)
        obtain ⟨a11, qa11, c12, rfl, hL14⟩ := hq
        obtain rfl := OwnE.qlen hL14
        refine WO.cls (C' := St w0 m m [[⟨b2, 3, [.int .i64 p1]⟩], [⟨b3, 3, [.int .i64 p2]⟩], [⟨b4, 25, [.slice none 0 0, .int .i64 0, .slice none 0 0]⟩], L14]) (fun _ h => h) ?_
        refine WO_pure tbok 5 [(6, .pointer (some ⟨b4, 0, none⟩)), (7, .int .i64 0), (9, .slice a11 ((y_5).length) c12), (10, .int .i64 y_6)] rfl ⟨rfl, rfl, rfl, rfl, trivial⟩ ?_
        refine WO_end ?_
        refine WK_seq ?_
        refine WK_region ?_
        refine WO_pure tbok 3 [(6, .pointer (some ⟨b4, 0, none⟩)), (7, .int .i64 0), (46, .agg #[.slice a11 ((y_5).length) c12, .int .i64 y_6, .slice none 0 0])] rfl ⟨rfl, rfl, rfl, trivial⟩ ?_
        refine WO_storeB tbok 2 [.slice a11 ((y_5).length) c12, .int .i64 y_6, .slice none 0 0] rfl rfl rfl rfl rfl rfl rfl ?_
        refine WO.cls (C' := St w0 m m [[⟨b2, 3, [.int .i64 p1]⟩], [⟨b3, 3, [.int .i64 p2]⟩], [⟨b4, 25, [.slice a11 ((y_5).length) c12, .int .i64 y_6, .slice none 0 0]⟩], L14]) (fun _ h => h) ?_
        refine WO_pure tbok 1 [(6, .pointer (some ⟨b4, 0, none⟩)), (7, .int .i64 0)] rfl ⟨rfl, rfl, trivial⟩ ?_
        refine WO_end ?_
        cases hm
        refine WK_freeze 3 rfl (fun m16 hle17 hmm18 => ?_)
        refine WK.cls (C' := St w0 m m16 [[⟨b2, 3, [.int .i64 p1]⟩], [⟨b3, 3, [.int .i64 p2]⟩], [⟨b4, 25, [.slice a11 ((y_5).length) c12, .int .i64 y_6, .slice none 0 0]⟩], []]) (fun _ h => h) ?_
        exact WK_ret (ret_out (L := []) (RLc_cell tbok 2 rfl rfl rfl (RLc_tmp rfl RLc_nil)) (List.nil_sublist _) ⟨a11, _, c12, none, 0, 0, rfl, (OwnE.rd (E := (I1 .i64)) (k := 1) (fun _ => rfl) hL14 hmm18), SlR_nil⟩)
    · refine WK_draw 20 [0, 1, 2, 3, 4, 5, 6, 7, 8, 9, 10, 11, 12, 13, 14, 15, 16, 17, 18, 19] follows_ok (by kernel_rfl) St_closed ?_
      refine WO_loadB tbok 0 rfl rfl rfl rfl (fun _ h => h) rfl rfl ?_
      refine WO_pure tbok 2 [(0, .slice a_p0 p0.length c_p0), (4, .pointer (some ⟨b2, 0, none⟩)), (5, .pointer (some ⟨b3, 0, none⟩)), (6, .pointer (some ⟨b4, 0, none⟩)), (7, .int .i64 0), (19, .bool (decide (p1 < 0)))] rfl ⟨rfl, rfl, rfl, rfl, rfl, rfl, trivial⟩ ?_
      refine WO_split (d := 19) (b := decide (p1 < 0)) rfl (fun hb19 => ?_) (fun hb19 => ?_)
      · have hx7 := ifT hb19 hx7
        refine WO_pure tbok 17 [(0, .slice a_p0 p0.length c_p0), (4, .pointer (some ⟨b2, 0, none⟩)), (5, .pointer (some ⟨b3, 0, none⟩)), (6, .pointer (some ⟨b4, 0, none⟩)), (7, .int .i64 0), (36, .bool true)] rfl ⟨rfl, rfl, rfl, rfl, rfl, rfl, trivial⟩ ?_
        refine WO_tail ?_
        refine WO_end ?_
        cases hx7
        refine WK.sub ?_ (WK.cls (fun _ h => h) hk8)
        exact ⟨rfl, rfl, rfl, rfl, rfl, rfl, trivial⟩
      · have hx7 := ifF hb19 hx7
        refine WO_loadB tbok 0 rfl rfl rfl rfl (fun _ h => h) rfl rfl ?_
        refine WO_pure tbok 5 [(0, .slice a_p0 p0.length c_p0), (4, .pointer (some ⟨b2, 0, none⟩)), (5, .pointer (some ⟨b3, 0, none⟩)), (6, .pointer (some ⟨b4, 0, none⟩)), (7, .int .i64 0), (25, .bool (decide ((p0.length : Int) ≤ p1)))] rfl ⟨rfl, rfl, rfl, rfl, rfl, rfl, trivial⟩ ?_
        refine WO_split (d := 25) (b := decide ((p0.length : Int) ≤ p1)) rfl (fun hb20 => ?_) (fun hb20 => ?_)
        · have hx7 := ifT hb20 hx7
          refine WO_pure tbok 11 [(0, .slice a_p0 p0.length c_p0), (4, .pointer (some ⟨b2, 0, none⟩)), (5, .pointer (some ⟨b3, 0, none⟩)), (6, .pointer (some ⟨b4, 0, none⟩)), (7, .int .i64 0), (36, .bool true)] rfl ⟨rfl, rfl, rfl, rfl, rfl, rfl, trivial⟩ ?_
          refine WO_tail ?_
          refine WO_end ?_
          cases hx7
          refine WK.sub ?_ (WK.cls (fun _ h => h) hk8)
          exact ⟨rfl, rfl, rfl, rfl, rfl, rfl, trivial⟩
        · have hx7 := ifF hb20 hx7
          refine WO_loadB tbok 1 rfl rfl rfl rfl (fun _ h => h) rfl rfl ?_
          refine WO_pure tbok 3 [(0, .slice a_p0 p0.length c_p0), (4, .pointer (some ⟨b2, 0, none⟩)), (5, .pointer (some ⟨b3, 0, none⟩)), (6, .pointer (some ⟨b4, 0, none⟩)), (7, .int .i64 0), (29, .bool (decide (p2 < 0)))] rfl ⟨rfl, rfl, rfl, rfl, rfl, rfl, trivial⟩ ?_
          refine WO_split (d := 29) (b := decide (p2 < 0)) rfl (fun hb21 => ?_) (fun hb21 => ?_)
          · have hx7 := ifT hb21 hx7
            refine WO_pure tbok 7 [(0, .slice a_p0 p0.length c_p0), (4, .pointer (some ⟨b2, 0, none⟩)), (5, .pointer (some ⟨b3, 0, none⟩)), (6, .pointer (some ⟨b4, 0, none⟩)), (7, .int .i64 0), (36, .bool true)] rfl ⟨rfl, rfl, rfl, rfl, rfl, rfl, trivial⟩ ?_
            refine WO_tail ?_
            refine WO_end ?_
            cases hx7
            refine WK.sub ?_ (WK.cls (fun _ h => h) hk8)
            exact ⟨rfl, rfl, rfl, rfl, rfl, rfl, trivial⟩
          · have hx7 := ifF hb21 hx7
            refine WO_loadB tbok 1 rfl rfl rfl rfl (fun _ h => h) rfl rfl ?_
            refine WO_pure tbok 1 [(0, .slice a_p0 p0.length c_p0), (4, .pointer (some ⟨b2, 0, none⟩)), (5, .pointer (some ⟨b3, 0, none⟩)), (6, .pointer (some ⟨b4, 0, none⟩)), (7, .int .i64 0), (29, .bool false), (30, .int .i64 p2), (31, .slice a_p0 p0.length c_p0)] rfl ⟨rfl, rfl, rfl, rfl, rfl, rfl, rfl, rfl, trivial⟩ ?_
            obtain ⟨v_7, hy22, hx7⟩ := bind_some hx7
            obtain ⟨hc23, hy22⟩ := ix_some hy22
            refine WO_index tbok rfl rfl rfl rfl rfl rfl rfl rfl (SlR.addr h_p0) hc23 ?_
            refine WO_loadR tbok rfl rfl rfl rfl (fun _ h => St.sat h) h_p0 hy22 rfl rfl (fun a24 c25 h26 => ?_)
            refine WO_pure tbok 3 [(0, .slice a_p0 p0.length c_p0), (4, .pointer (some ⟨b2, 0, none⟩)), (5, .pointer (some ⟨b3, 0, none⟩)), (6, .pointer (some ⟨b4, 0, none⟩)), (7, .int .i64 0), (36, .bool (decide (((v_7).length : Int) ≤ p2)))] rfl ⟨rfl, rfl, rfl, rfl, rfl, rfl, trivial⟩ ?_
            refine WO_tail ?_
            refine WO_end ?_
            cases hx7
            refine WK.sub ?_ (WK.cls (fun _ h => h) hk8)
            exact ⟨rfl, rfl, rfl, rfl, rfl, rfl, trivial⟩
def fiduciallaw50_through_Q (r : List Int × Int) : Value → List Ent → Prop := fun v L => ∃ (a0 : Option Addr) (q0 c0 : Nat), v = .tuple #[.slice a0 q0 c0, .int .i64 r.2] ∧ OwnE 3 1 (I1 .i64) (.slice a0 q0 c0) r.1 L
theorem fiduciallaw50_through_walk {m : Mu} {p0 : List (List Int)} {p1 : Int} {p2 : Int} {a_p0 : Option Addr} {q_p0 c_p0 : Nat} (h_p0 : SlR (RowE (FE (I1 .i64)) 1) 1 m (.slice a_p0 q_p0 c_p0) p0) {r : List Int × Int} (hm : fiduciallaw50_through p0 p1 p2 = some r) :
    Go.E.Spec Try.prog 35 [.slice a_p0 q_p0 c_p0, .int .i64 p1, .int .i64 p2] m (fun v _ L => fiduciallaw50_through_Q r v L) := by
  refine Spec_enter Try.func35 rfl rfl rfl (fun w0 => ?_)
  refine WK.sub (e' := [(0, .slice a_p0 q_p0 c_p0), (1, .int .i64 p1), (2, .int .i64 p2)]) ⟨rfl, rfl, rfl, trivial⟩ ?_
  obtain rfl := SlR.qlen h_p0
  refine WK.sub (e' := [(0, .slice a_p0 p0.length c_p0), (1, .int .i64 p1), (2, .int .i64 p2)]) ⟨rfl, rfl, rfl, trivial⟩ ?_
  unfold fiduciallaw50_through at hm
  refine WK_seq ?_
  refine WK_region ?_
  refine WO_pure tbok 2 [(0, .slice a_p0 p0.length c_p0), (1, .int .i64 p1), (2, .int .i64 p2), (6, .slice none 0 0), (7, .int .i64 0)] rfl ⟨rfl, rfl, rfl, rfl, rfl, trivial⟩ ?_
  refine WO_end ?_
  refine WK_seq ?_
  refine WK_region ?_
  refine WO_pure tbok 1 [(0, .slice a_p0 p0.length c_p0), (1, .int .i64 p1), (2, .int .i64 p2), (6, .slice none 0 0), (7, .int .i64 0), (8, .slice none 0 0)] rfl ⟨rfl, rfl, rfl, rfl, rfl, rfl, trivial⟩ ?_
  refine WO_end ?_
  refine WK_seq ?_
  refine WK_seq ?_
  refine WK_region ?_
  refine WO_pure tbok 3 [(1, .int .i64 p1), (2, .int .i64 p2), (6, .slice none 0 0), (7, .int .i64 0), (8, .slice none 0 0), (13, .slice a_p0 p0.length c_p0), (14, .int .i64 (p0.length : Int)), (15, .int .i64 0)] rfl ⟨rfl, rfl, rfl, rfl, rfl, rfl, rfl, rfl, trivial⟩ ?_
  refine WO_end ?_
  refine WK_pad ?_
  obtain ⟨x17, hx18, hm⟩ := bind_some hm
  refine WK_join (β := (List (List Int)) × (Mu × Option Addr × Nat × Nat × List Ent)) (fun p => p.1 = x17 ∧ Le m p.2.1 ∧ OwnX 23 1 V1 (RowE (FE (I1 .i64)) 1) p.2.1 (.slice p.2.2.1 p.2.2.2.1 p.2.2.2.2.1) p.1 p.2.2.2.2.2) (fun p => [(6, .slice none 0 0), (7, .int .i64 0), (8, .slice p.2.2.1 p.2.2.2.1 p.2.2.2.2.1)]) (fun p => St w0 m p.2.1 [p.2.2.2.2.2]) ?_ (fun hk19 => ?_)
  · rintro ⟨l_3, ⟨m10, a14, q15, c16, L13⟩⟩ ⟨hq25, hle11, hL13⟩
    subst hq25
    have hqq : q15 = l_3.length := OwnX.qlen hL13
    subst hqq
    refine WK.sub (e' := [(6, .slice none 0 0), (7, .int .i64 0), (8, .slice a14 ((l_3).length) c16)]) ⟨rfl, rfl, rfl, trivial⟩ (WK.cls (C' := St w0 m m10 [L13]) (fun _ h => h) ?_)
    refine WK_seq ?_
    refine WK_region ?_
    refine WO_pure tbok 1 [(6, .slice none 0 0), (7, .int .i64 0), (44, .slice a14 ((l_3).length) c16)] rfl ⟨rfl, rfl, rfl, trivial⟩ ?_
    obtain ⟨⟨y_4, y_5⟩, hc26, hm⟩ := bind_some hm
    refine WO_call1 (fiduciallaw50_Least_Q (y_4, y_5)) rfl rfl trivial rfl rfl rfl rfl ⟨23, #[], #[], rfl, callable_23, fun w hw => ⟨_, hw.satV, fiduciallaw50_Least_walk (OwnX.rd (E := V1) (k := 1) (fun _ => rfl) hL13 (mono_RowE (mono_FE _) _) hw.leV (fun _ hx => hw.memV (i := 0) rfl hx)) hc26⟩⟩ (fun v31 L30 hq => ?_)
    obtain ⟨a27, qa27, c28, rfl, hL30⟩ := hq
    obtain rfl := OwnE.qlen hL30
    refine WO.cls (C' := St w0 m m10 [L13, L30]) (fun _ h => h) ?_
    refine WO_pure tbok 4 [(6, .slice a27 ((y_4).length) c28), (7, .int .i64 y_5)] rfl ⟨rfl, rfl, trivial⟩ ?_
    refine WO_end ?_
    cases hm
    exact WK_ret (ret_out (L := L30) (RLc_tmp rfl (RLc_tmp rfl RLc_nil)) (seg_sub 1 rfl) ⟨a27, _, c28, rfl, hL30⟩)
  · refine WK_block ?_
    refine WK_loop (S := List (List Int) × Int) (G := Mu × Option Addr × Nat × Nat × List Ent) (fun s => fiduciallaw50_through_s1 p0 p1 p2 s.1 s.2) (fun s g => [(1, .int .i64 p1), (2, .int .i64 p2), (6, .slice none 0 0), (7, .int .i64 0), (8, .slice g.2.1 g.2.2.1 g.2.2.2.1), (13, .slice a_p0 p0.length c_p0), (14, .int .i64 (p0.length : Int)), (15, .int .i64 s.2)]) (fun s g => St w0 m g.1 [g.2.2.2.2]) (fun s g => Le m g.1 ∧ OwnX 23 1 V1 (RowE (FE (I1 .i64)) 1) g.1 (.slice g.2.1 g.2.2.1 g.2.2.2.1) s.1 g.2.2.2.2) FUEL (([] : List (List Int)), 0) (m, none, 0, 0, []) x17 hx18 ⟨(Le.refl _), (OwnX.nil (T := 23) (k := 1) (E := V1) (El := (RowE (FE (I1 .i64)) 1)) (m := m) none)⟩ ⟨rfl, rfl, rfl, rfl, rfl, rfl, rfl, rfl, trivial⟩ (fun _ h => h) ?_
    rintro ⟨l_1, s_2⟩ ⟨m3, a7, q8, c9, L6⟩ o21 fl22 hm20 ⟨hle4, hL6⟩ hn23 hd24
    have hm20 : fiduciallaw50_through_s1 p0 p1 p2 l_1 s_2 = some o21 := hm20
    unfold fiduciallaw50_through_s1 at hm20
    have hqq : q8 = l_1.length := OwnX.qlen hL6
    subst hqq
    refine WK.sub (e' := [(1, .int .i64 p1), (2, .int .i64 p2), (6, .slice none 0 0), (7, .int .i64 0), (8, .slice a7 ((l_1).length) c9), (13, .slice a_p0 p0.length c_p0), (14, .int .i64 (p0.length : Int)), (15, .int .i64 s_2)]) ⟨rfl, rfl, rfl, rfl, rfl, rfl, rfl, rfl, trivial⟩ (WK.cls (C' := St w0 m m3 [L6]) (fun _ h => h) ?_)
    refine WK_seq ?_
    refine WK_region ?_
    refine WO_pure tbok 1 [(1, .int .i64 p1), (2, .int .i64 p2), (6, .slice none 0 0), (7, .int .i64 0), (8, .slice a7 ((l_1).length) c9), (13, .slice a_p0 p0.length c_p0), (14, .int .i64 (p0.length : Int)), (15, .int .i64 s_2), (16, .bool (decide (s_2 < (p0.length : Int))))] rfl ⟨rfl, rfl, rfl, rfl, rfl, rfl, rfl, rfl, rfl, trivial⟩ ?_
    refine WO_end ?_
    refine WK_seq ?_
    refine WK_cond (b := decide (s_2 < (p0.length : Int))) rfl (fun hb32 => ?_) (fun hb32 => ?_)
    · have hm20 := ifT hb32 hm20
      refine WK_skip ?_
      refine WK_seq ?_
      refine WK_block ?_
      refine WK_seq ?_
      refine WK_region ?_
      refine WO_pure tbok 1 [(1, .int .i64 p1), (2, .int .i64 p2), (6, .slice none 0 0), (7, .int .i64 0), (8, .slice a7 ((l_1).length) c9), (13, .slice a_p0 p0.length c_p0), (14, .int .i64 (p0.length : Int)), (15, .int .i64 s_2), (17, .int .i64 s_2)] rfl ⟨rfl, rfl, rfl, rfl, rfl, rfl, rfl, rfl, rfl, trivial⟩ ?_
      obtain ⟨v_6, hy33, hm20⟩ := bind_some hm20
      obtain ⟨hc34, hy33⟩ := ix_some hy33
      refine WO_index tbok rfl rfl rfl rfl rfl rfl rfl rfl (SlR.addr (h_p0.mono (mono_RowE (mono_FE _) _) hle4)) hc34 ?_
      refine WO_loadR tbok rfl rfl rfl rfl (fun _ h => St.sat h) (h_p0.mono (mono_RowE (mono_FE _) _) hle4) hy33 rfl rfl (fun a35 c36 h37 => ?_)
      refine WO_pure tbok 2 [(1, .int .i64 p1), (2, .int .i64 p2), (6, .slice none 0 0), (7, .int .i64 0), (8, .slice a7 ((l_1).length) c9), (9, .int .i64 s_2), (10, .slice a35 ((v_6).length) c36), (13, .slice a_p0 p0.length c_p0), (14, .int .i64 (p0.length : Int)), (15, .int .i64 s_2)] rfl ⟨rfl, rfl, rfl, rfl, rfl, rfl, rfl, rfl, rfl, rfl, trivial⟩ ?_
      refine WO_end ?_
      refine WK_seq ?_
      refine WK_region ?_
      refine WO_pure tbok 1 [(1, .int .i64 p1), (2, .int .i64 p2), (6, .slice none 0 0), (7, .int .i64 0), (8, .slice a7 ((l_1).length) c9), (9, .int .i64 s_2), (13, .slice a_p0 p0.length c_p0), (14, .int .i64 (p0.length : Int)), (15, .int .i64 s_2), (20, .slice a35 ((v_6).length) c36)] rfl ⟨rfl, rfl, rfl, rfl, rfl, rfl, rfl, rfl, rfl, rfl, trivial⟩ ?_
      obtain ⟨y_7, hc39, hm20⟩ := bind_some hm20
      refine WO_call1 (slices_Clone_sint_Q y_7) rfl rfl trivial rfl rfl rfl rfl ⟨18, #[], #[], rfl, callable_18, fun w hw => ⟨_, hw.sat, slices_Clone_sint_walk h37 hc39⟩⟩ (fun v44 L43 hq => ?_)
      obtain ⟨a40, qa40, c41, rfl, hL43⟩ := hq
      obtain rfl := OwnE.qlen hL43
      refine WO.cls (C' := St w0 m m3 [L6, L43]) (fun _ h => h) ?_
      refine WO_pure tbok 1 [(1, .int .i64 p1), (2, .int .i64 p2), (6, .slice none 0 0), (7, .int .i64 0), (8, .slice a7 ((l_1).length) c9), (9, .int .i64 s_2), (11, .slice a40 ((y_7).length) c41), (13, .slice a_p0 p0.length c_p0), (14, .int .i64 (p0.length : Int)), (15, .int .i64 s_2)] rfl ⟨rfl, rfl, rfl, rfl, rfl, rfl, rfl, rfl, rfl, rfl, trivial⟩ ?_
      refine WO_end ?_
      refine WK_seq ?_
      refine WK_seq ?_
      refine WK_region ?_
      refine WO_pure tbok 3 [(1, .int .i64 p1), (2, .int .i64 p2), (6, .slice none 0 0), (7, .int .i64 0), (8, .slice a7 ((l_1).length) c9), (9, .int .i64 s_2), (11, .slice a40 ((y_7).length) c41), (13, .slice a_p0 p0.length c_p0), (14, .int .i64 (p0.length : Int)), (15, .int .i64 s_2), (23, .int .i64 ((y_7).length : Int)), (24, .int .i64 0)] rfl ⟨rfl, rfl, rfl, rfl, rfl, rfl, rfl, rfl, rfl, rfl, rfl, rfl, trivial⟩ ?_
      refine WO_end ?_
      obtain ⟨x49, hx50, hm20⟩ := bind_some hm20
      refine WK_join (β := (List Int) × (List Ent)) (fun p => p.1 = x49 ∧ OwnE 3 1 (I1 .i64) (.slice a40 ((y_7).length) c41) p.1 p.2) (fun p => [(1, .int .i64 p1), (2, .int .i64 p2), (6, .slice none 0 0), (7, .int .i64 0), (8, .slice a7 ((l_1).length) c9), (11, .slice a40 ((y_7).length) c41), (13, .slice a_p0 p0.length c_p0), (14, .int .i64 (p0.length : Int)), (15, .int .i64 s_2)]) (fun p => St w0 m m3 [L6, p.2]) ?_ (fun hk51 => ?_)
      · rintro ⟨l_10, L48⟩ ⟨hq57, hL48⟩
        subst hq57
        refine WK.sub (e' := [(1, .int .i64 p1), (2, .int .i64 p2), (6, .slice none 0 0), (7, .int .i64 0), (8, .slice a7 ((l_1).length) c9), (11, .slice a40 ((y_7).length) c41), (13, .slice a_p0 p0.length c_p0), (14, .int .i64 (p0.length : Int)), (15, .int .i64 s_2)]) ⟨rfl, rfl, rfl, rfl, rfl, rfl, rfl, rfl, rfl, trivial⟩ (WK.cls (C' := St w0 m m3 [L6, L48]) (fun _ h => h) ?_)
        refine WK_region ?_
        refine WO_pure tbok 2 [(1, .int .i64 p1), (2, .int .i64 p2), (6, .slice none 0 0), (7, .int .i64 0), (8, .slice a7 ((l_1).length) c9), (13, .slice a_p0 p0.length c_p0), (14, .int .i64 (p0.length : Int)), (15, .int .i64 s_2), (39, .slice a7 ((l_1).length) c9), (40, .slice a40 ((y_7).length) c41)] rfl ⟨rfl, rfl, rfl, rfl, rfl, rfl, rfl, rfl, rfl, rfl, trivial⟩ ?_
        refine WO_freeze 1 rfl (fun m59 hle60 hmm61 => ?_)
        refine WO.cls (C' := St w0 m m59 [L6, []]) (fun _ h => h) ?_
        refine WO_bsliceX (E := V1) (El := (RowE (FE (I1 .i64)) 1)) tbok (fun _ => rfl) (by decide) [.slice a40 ((y_7).length) c41] [.slice a40 ((y_7).length) c41] ([l_10] : List (List Int)) rfl rfl trivial rfl rfl rfl rfl rfl rfl rfl rfl rfl rfl rfl rfl ⟨⟨_, rfl, (OwnE.rd (E := (I1 .i64)) (k := 1) (fun _ => rfl) hL48 hmm61)⟩, trivial⟩ (fun b58 hb58 => ?_)
        refine WO.cls (C' := St w0 m m59 [L6, [], [⟨b58, 23, [.slice a40 ((y_7).length) c41]⟩]]) (fun _ h => h) ?_
        obtain ⟨hc63, hm20⟩ := chk_some hm20
        refine WO_appendX (E := V1) (El := (RowE (FE (I1 .i64)) 1)) tbok (fun _ => rfl) 0 [.slice a40 ((y_7).length) c41] ([l_10] : List (List Int)) (one_lit rfl) rfl rfl rfl rfl rfl rfl rfl rfl rfl rfl rfl rfl (hL6.mono (mono_RowE (mono_FE _) _) hle60) rfl (src_seg (j := 2) rfl) ⟨⟨_, rfl, (OwnE.rd (E := (I1 .i64)) (k := 1) (fun _ => rfl) hL48 hmm61)⟩, trivial⟩ (ap_ok (by decide) hc63) (ap_max hc63) (fun a64 c65 L66 hL66 => ?_)
        refine WO.cls (C' := St w0 m m59 [L66, [], [⟨b58, 23, [.slice a40 ((y_7).length) c41]⟩]]) (fun _ h => h) ?_
        refine WO_pure tbok 1 [(1, .int .i64 p1), (2, .int .i64 p2), (6, .slice none 0 0), (7, .int .i64 0), (8, .slice a64 ((l_1 ++ ([l_10] : List (List Int))).length) c65), (13, .slice a_p0 p0.length c_p0), (14, .int .i64 (p0.length : Int)), (15, .int .i64 s_2)] rfl ⟨rfl, rfl, rfl, rfl, rfl, rfl, rfl, rfl, trivial⟩ ?_
        refine WO_end ?_
        refine WK_blk ?_
        refine WK_region ?_
        refine WO_pure tbok 2 [(1, .int .i64 p1), (2, .int .i64 p2), (6, .slice none 0 0), (7, .int .i64 0), (8, .slice a64 ((l_1 ++ ([l_10] : List (List Int))).length) c65), (13, .slice a_p0 p0.length c_p0), (14, .int .i64 (p0.length : Int)), (15, .int .i64 (w64 (s_2 + 1)))] rfl ⟨rfl, rfl, rfl, rfl, rfl, rfl, rfl, rfl, trivial⟩ ?_
        refine WO_end ?_
        cases hm20
        refine WK.sub ?_ (WK.cls (fun _ h => St.take 1 h) (hn23 _ (m59, a64, (l_1 ++ ([l_10] : List (List Int))).length, c65, L66) rfl ⟨(hle4.trans hle60), hL66⟩))
        exact ⟨rfl, rfl, rfl, rfl, rfl, rfl, rfl, rfl, trivial⟩
      · refine WK_block ?_
        refine WK_loop (S := List Int × Int) (G := List Ent) (fun s => fiduciallaw50_through_s2 p1 p2 s_2 y_7 s.1 s.2) (fun s g => [(1, .int .i64 p1), (2, .int .i64 p2), (6, .slice none 0 0), (7, .int .i64 0), (8, .slice a7 ((l_1).length) c9), (9, .int .i64 s_2), (11, .slice a40 ((y_7).length) c41), (13, .slice a_p0 p0.length c_p0), (14, .int .i64 (p0.length : Int)), (15, .int .i64 s_2), (23, .int .i64 ((y_7).length : Int)), (24, .int .i64 s.2)]) (fun s g => St w0 m m3 [L6, g]) (fun s g => OwnE 3 1 (I1 .i64) (.slice a40 ((y_7).length) c41) s.1 g) FUEL (y_7, 0) L43 x49 hx50 hL43 ⟨rfl, rfl, rfl, rfl, rfl, rfl, rfl, rfl, rfl, rfl, rfl, rfl, trivial⟩ (fun _ h => h) ?_
        rintro ⟨l_8, s_9⟩ L46 o53 fl54 hm52 hL46 hn55 hd56
        have hm52 : fiduciallaw50_through_s2 p1 p2 s_2 y_7 l_8 s_9 = some o53 := hm52
        unfold fiduciallaw50_through_s2 at hm52
        refine WK.sub (e' := [(1, .int .i64 p1), (2, .int .i64 p2), (6, .slice none 0 0), (7, .int .i64 0), (8, .slice a7 ((l_1).length) c9), (9, .int .i64 s_2), (11, .slice a40 ((y_7).length) c41), (13, .slice a_p0 p0.length c_p0), (14, .int .i64 (p0.length : Int)), (15, .int .i64 s_2), (23, .int .i64 ((y_7).length : Int)), (24, .int .i64 s_9)]) ⟨rfl, rfl, rfl, rfl, rfl, rfl, rfl, rfl, rfl, rfl, rfl, rfl, trivial⟩ (WK.cls (C' := St w0 m m3 [L6, L46]) (fun _ h => h) ?_)
        refine WK_seq ?_
        refine WK_region ?_
        refine WO_pure tbok 1 [(1, .int .i64 p1), (2, .int .i64 p2), (6, .slice none 0 0), (7, .int .i64 0), (8, .slice a7 ((l_1).length) c9), (9, .int .i64 s_2), (11, .slice a40 ((y_7).length) c41), (13, .slice a_p0 p0.length c_p0), (14, .int .i64 (p0.length : Int)), (15, .int .i64 s_2), (23, .int .i64 ((y_7).length : Int)), (24, .int .i64 s_9), (25, .bool (decide (s_9 < ((y_7).length : Int))))] rfl ⟨rfl, rfl, rfl, rfl, rfl, rfl, rfl, rfl, rfl, rfl, rfl, rfl, rfl, trivial⟩ ?_
        refine WO_end ?_
        refine WK_seq ?_
        refine WK_cond (b := decide (s_9 < ((y_7).length : Int))) rfl (fun hb68 => ?_) (fun hb68 => ?_)
        · have hm52 := ifT hb68 hm52
          refine WK_skip ?_
          refine WK_seq ?_
          refine WK_block ?_
          refine WK_seq ?_
          refine WK_region ?_
          refine WO_pure tbok 2 [(1, .int .i64 p1), (2, .int .i64 p2), (6, .slice none 0 0), (7, .int .i64 0), (8, .slice a7 ((l_1).length) c9), (9, .int .i64 s_2), (11, .slice a40 ((y_7).length) c41), (12, .int .i64 s_9), (13, .slice a_p0 p0.length c_p0), (14, .int .i64 (p0.length : Int)), (15, .int .i64 s_2), (23, .int .i64 ((y_7).length : Int)), (24, .int .i64 s_9)] rfl ⟨rfl, rfl, rfl, rfl, rfl, rfl, rfl, rfl, rfl, rfl, rfl, rfl, rfl, trivial⟩ ?_
          refine WO_end ?_
          refine WK_seq ?_
          obtain ⟨s_11, hx69, hm52⟩ := bind_some hm52
          refine WK_meet [(1, .int .i64 p1), (2, .int .i64 p2), (6, .slice none 0 0), (7, .int .i64 0), (8, .slice a7 ((l_1).length) c9), (9, .int .i64 s_2), (11, .slice a40 ((y_7).length) c41), (12, .int .i64 s_9), (13, .slice a_p0 p0.length c_p0), (14, .int .i64 (p0.length : Int)), (15, .int .i64 s_2), (23, .int .i64 ((y_7).length : Int)), (24, .int .i64 s_9), (34, .bool s_11)] (St w0 m m3 [L6, L46]) ?_ (fun hk70 => ?_)
          · obtain ⟨l_12, hx73, hm52⟩ := bind_some hm52
            refine WK_join (β := List Ent) (fun p => OwnE 3 1 (I1 .i64) (.slice a40 ((y_7).length) c41) l_12 p) (fun p => [(1, .int .i64 p1), (2, .int .i64 p2), (6, .slice none 0 0), (7, .int .i64 0), (8, .slice a7 ((l_1).length) c9), (9, .int .i64 s_2), (11, .slice a40 ((y_7).length) c41), (13, .slice a_p0 p0.length c_p0), (14, .int .i64 (p0.length : Int)), (15, .int .i64 s_2), (23, .int .i64 ((y_7).length : Int)), (24, .int .i64 s_9)]) (fun p => St w0 m m3 [L6, p]) ?_ (fun hk74 => ?_)
            · rintro L72 hL72
              refine WK.sub (e' := [(1, .int .i64 p1), (2, .int .i64 p2), (6, .slice none 0 0), (7, .int .i64 0), (8, .slice a7 ((l_1).length) c9), (9, .int .i64 s_2), (11, .slice a40 ((y_7).length) c41), (13, .slice a_p0 p0.length c_p0), (14, .int .i64 (p0.length : Int)), (15, .int .i64 s_2), (23, .int .i64 ((y_7).length : Int)), (24, .int .i64 s_9)]) ⟨rfl, rfl, rfl, rfl, rfl, rfl, rfl, rfl, rfl, rfl, rfl, rfl, trivial⟩ (WK.cls (C' := St w0 m m3 [L6, L72]) (fun _ h => h) ?_)
              refine WK_blk ?_
              refine WK_region ?_
              refine WO_pure tbok 2 [(1, .int .i64 p1), (2, .int .i64 p2), (6, .slice none 0 0), (7, .int .i64 0), (8, .slice a7 ((l_1).length) c9), (9, .int .i64 s_2), (11, .slice a40 ((y_7).length) c41), (13, .slice a_p0 p0.length c_p0), (14, .int .i64 (p0.length : Int)), (15, .int .i64 s_2), (23, .int .i64 ((y_7).length : Int)), (24, .int .i64 (w64 (s_9 + 1)))] rfl ⟨rfl, rfl, rfl, rfl, rfl, rfl, rfl, rfl, rfl, rfl, rfl, rfl, trivial⟩ ?_
              refine WO_end ?_
              cases hm52
              refine WK.sub ?_ (WK.cls (fun _ h => h) (hn55 _ L72 rfl hL72))
              exact ⟨rfl, rfl, rfl, rfl, rfl, rfl, rfl, rfl, rfl, rfl, rfl, rfl, trivial⟩
            · refine WK_cond (b := s_11) rfl (fun hb75 => ?_) (fun hb75 => ?_)
              · have hx73 := ifT hb75 hx73
                refine WK_region ?_
                refine WO_pure tbok 2 [(1, .int .i64 p1), (2, .int .i64 p2), (6, .slice none 0 0), (7, .int .i64 0), (8, .slice a7 ((l_1).length) c9), (9, .int .i64 s_2), (11, .slice a40 ((y_7).length) c41), (13, .slice a_p0 p0.length c_p0), (14, .int .i64 (p0.length : Int)), (15, .int .i64 s_2), (23, .int .i64 ((y_7).length : Int)), (24, .int .i64 s_9), (35, .slice a40 ((y_7).length) c41), (36, .int .i64 s_9)] rfl ⟨rfl, rfl, rfl, rfl, rfl, rfl, rfl, rfl, rfl, rfl, rfl, rfl, rfl, rfl, trivial⟩ ?_
                obtain ⟨hc76, hx73⟩ := chk_some hx73
                refine WO_index tbok rfl rfl rfl rfl rfl rfl rfl rfl (OwnE.addr hL46) (by simpa using hc76) ?_
                refine WO_storeO (E := (I1 .i64)) tbok (fun _ => rfl) 1 1099511627776 rfl rfl rfl rfl rfl hL46 rfl (by simpa using idx_lt hc76) rfl rfl rfl rfl (fun L77 hL77 => ?_)
                refine WO.cls (C' := St w0 m m3 [L6, L77]) (fun _ h => h) ?_
                refine WO_end ?_
                cases hx73
                refine WK.sub ?_ (WK.cls (fun _ h => h) (hk74 L77 hL77))
                exact ⟨rfl, rfl, rfl, rfl, rfl, rfl, rfl, rfl, rfl, rfl, rfl, rfl, trivial⟩
              · have hx73 := ifF hb75 hx73
                refine WK_skip ?_
                cases hx73
                refine WK.sub ?_ (WK.cls (fun _ h => h) (hk74 L46 hL46))
                exact ⟨rfl, rfl, rfl, rfl, rfl, rfl, rfl, rfl, rfl, rfl, rfl, rfl, trivial⟩
          · refine WK_region ?_
            refine WO_pure tbok 4 [(1, .int .i64 p1), (2, .int .i64 p2), (6, .slice none 0 0), (7, .int .i64 0), (8, .slice a7 ((l_1).length) c9), (9, .int .i64 s_2), (11, .slice a40 ((y_7).length) c41), (12, .int .i64 s_9), (13, .slice a_p0 p0.length c_p0), (14, .int .i64 (p0.length : Int)), (15, .int .i64 s_2), (23, .int .i64 ((y_7).length : Int)), (24, .int .i64 s_9), (30, .bool (s_2 == p1))] rfl ⟨rfl, rfl, rfl, rfl, rfl, rfl, rfl, rfl, rfl, rfl, rfl, rfl, rfl, rfl, trivial⟩ ?_
            refine WO_split (d := 30) (b := s_2 == p1) rfl (fun hb79 => ?_) (fun hb79 => ?_)
            · have hx69 := ifT hb79 hx69
              refine WO_pure tbok 4 [(1, .int .i64 p1), (2, .int .i64 p2), (6, .slice none 0 0), (7, .int .i64 0), (8, .slice a7 ((l_1).length) c9), (9, .int .i64 s_2), (11, .slice a40 ((y_7).length) c41), (12, .int .i64 s_9), (13, .slice a_p0 p0.length c_p0), (14, .int .i64 (p0.length : Int)), (15, .int .i64 s_2), (23, .int .i64 ((y_7).length : Int)), (24, .int .i64 s_9), (34, .bool (s_9 != p2))] rfl ⟨rfl, rfl, rfl, rfl, rfl, rfl, rfl, rfl, rfl, rfl, rfl, rfl, rfl, rfl, trivial⟩ ?_
              refine WO_end ?_
              cases hx69
              refine WK.sub ?_ (WK.cls (fun _ h => h) hk70)
              exact ⟨rfl, rfl, rfl, rfl, rfl, rfl, rfl, rfl, rfl, rfl, rfl, rfl, rfl, rfl, trivial⟩
            · have hx69 := ifF hb79 hx69
              refine WO_pure tbok 4 [(1, .int .i64 p1), (2, .int .i64 p2), (6, .slice none 0 0), (7, .int .i64 0), (8, .slice a7 ((l_1).length) c9), (9, .int .i64 s_2), (11, .slice a40 ((y_7).length) c41), (12, .int .i64 s_9), (13, .slice a_p0 p0.length c_p0), (14, .int .i64 (p0.length : Int)), (15, .int .i64 s_2), (23, .int .i64 ((y_7).length : Int)), (24, .int .i64 s_9), (34, .bool false)] rfl ⟨rfl, rfl, rfl, rfl, rfl, rfl, rfl, rfl, rfl, rfl, rfl, rfl, rfl, rfl, trivial⟩ ?_
              refine WO_end ?_
              cases hx69
              refine WK.sub ?_ (WK.cls (fun _ h => h) hk70)
              exact ⟨rfl, rfl, rfl, rfl, rfl, rfl, rfl, rfl, rfl, rfl, rfl, rfl, rfl, rfl, trivial⟩
        · have hm52 := ifF hb68 hm52
          refine WK_exit rfl ?_
          cases hm52
          refine WK.sub ?_ (WK.cls (fun _ h => h) (hk51 (l_8, L46) ⟨(hd56 _ rfl), hL46⟩))
          exact ⟨rfl, rfl, rfl, rfl, rfl, rfl, rfl, rfl, rfl, trivial⟩
    · have hm20 := ifF hb32 hm20
      refine WK_exit rfl ?_
      cases hm20
      refine WK.sub ?_ (WK.cls (fun _ h => h) (hk19 (l_1, (m3, a7, _, c9, L6)) ⟨(hd24 _ rfl), hle4, hL6⟩))
      exact ⟨rfl, rfl, rfl, trivial⟩
theorem fiduciallaw50_SeamThrough_walk {m : Mu} {p0 : List (List Int)} {p1 : Int} {p2 : Int} {a_p0 : Option Addr} {q_p0 c_p0 : Nat} (h_p0 : SlR (RowE (FE (I1 .i64)) 1) 1 m (.slice a_p0 q_p0 c_p0) p0) {r : Bool} (hm : fiduciallaw50_SeamThrough p0 p1 p2 = some r) :
    Go.E.Spec Try.prog 10 [.slice a_p0 q_p0 c_p0, .int .i64 p1, .int .i64 p2] m (fun v _ _ => v = .bool r) := by
  refine Spec_enter Try.func10 rfl rfl rfl (fun w0 => ?_)
  refine WK.sub (e' := [(0, .slice a_p0 q_p0 c_p0), (1, .int .i64 p1), (2, .int .i64 p2)]) ⟨rfl, rfl, rfl, trivial⟩ ?_
  obtain rfl := SlR.qlen h_p0
  refine WK.sub (e' := [(0, .slice a_p0 p0.length c_p0), (1, .int .i64 p1), (2, .int .i64 p2)]) ⟨rfl, rfl, rfl, trivial⟩ ?_
  unfold fiduciallaw50_SeamThrough at hm
  refine WK_seq ?_
  refine WK_region ?_
  refine WO_pure tbok 1 [(0, .slice a_p0 p0.length c_p0), (1, .int .i64 p1), (2, .int .i64 p2), (6, .bool false)] rfl ⟨rfl, rfl, rfl, rfl, trivial⟩ ?_
  refine WO_end ?_
  refine WK_seq ?_
  refine WK_seq ?_
  refine WK_region ?_
  obtain ⟨y_1, hc2, hm⟩ := bind_some hm
  refine WO_call0 (.bool y_1) rfl rfl trivial rfl rfl rfl rfl St_closed ⟨11, #[], #[], rfl, callable_11, fun w hw => ⟨_, hw.sat, fiduciallaw50_known_walk hc2⟩⟩ ?_
  refine WO_pure tbok 1 [(0, .slice a_p0 p0.length c_p0), (1, .int .i64 p1), (2, .int .i64 p2), (6, .bool false), (18, .bool (!y_1))] rfl ⟨rfl, rfl, rfl, rfl, rfl, trivial⟩ ?_
  refine WO_end ?_
  refine WK_cond (b := !y_1) rfl (fun hb3 => ?_) (fun hb3 => ?_)
  · have hm := ifT hb3 hm
    refine WK_seq ?_
    refine WK_region ?_
    refine WO_pure tbok 1 [(0, .slice a_p0 p0.length c_p0), (1, .int .i64 p1), (2, .int .i64 p2), (6, .bool false)] rfl ⟨rfl, rfl, rfl, rfl, trivial⟩ ?_
    refine WO_end ?_
    cases hm
    exact WK_ret (ret_out (L := []) (RLc_tmp rfl RLc_nil) (List.nil_sublist _) rfl)
  · have hm := ifF hb3 hm
    refine WK_skip ?_
    refine WK_seq ?_
    refine WK_seq ?_
    refine WK_region ?_
    refine WO_pure tbok 1 [(0, .slice a_p0 p0.length c_p0), (1, .int .i64 p1), (2, .int .i64 p2), (6, .bool false), (19, .slice a_p0 p0.length c_p0)] rfl ⟨rfl, rfl, rfl, rfl, rfl, trivial⟩ ?_
    obtain ⟨y_2, hc4, hm⟩ := bind_some hm
    refine WO_call0 (.bool y_2) rfl rfl trivial rfl rfl rfl rfl St_closed ⟨12, #[], #[], rfl, callable_12, fun w hw => ⟨_, hw.sat, fiduciallaw50_Few_walk h_p0 hc4⟩⟩ ?_
    refine WO_pure tbok 1 [(0, .slice a_p0 p0.length c_p0), (1, .int .i64 p1), (2, .int .i64 p2), (6, .bool false), (21, .bool (!y_2))] rfl ⟨rfl, rfl, rfl, rfl, rfl, trivial⟩ ?_
    refine WO_end ?_
    refine WK_cond (b := !y_2) rfl (fun hb5 => ?_) (fun hb5 => ?_)
    · have hm := ifT hb5 hm
      refine WK_seq ?_
      refine WK_region ?_
      refine WO_pure tbok 1 [(0, .slice a_p0 p0.length c_p0), (1, .int .i64 p1), (2, .int .i64 p2), (6, .bool true)] rfl ⟨rfl, rfl, rfl, rfl, trivial⟩ ?_
      refine WO_end ?_
      cases hm
      exact WK_ret (ret_out (L := []) (RLc_tmp rfl RLc_nil) (List.nil_sublist _) rfl)
    · have hm := ifF hb5 hm
      refine WK_skip ?_
      refine WK_seq ?_
      refine WK_region ?_
      refine WO_pure tbok 3 [(0, .slice a_p0 p0.length c_p0), (1, .int .i64 p1), (2, .int .i64 p2), (6, .bool false), (23, .slice a_p0 p0.length c_p0), (24, .int .i64 p1), (25, .int .i64 p2)] rfl ⟨rfl, rfl, rfl, rfl, rfl, rfl, rfl, trivial⟩ ?_
      obtain ⟨⟨y_3, y_4, y_5, y_6⟩, hc6, hm⟩ := bind_some hm
      refine WO_call2 (seam_Through_Q (y_3, y_4, y_5, y_6)) rfl rfl trivial rfl rfl rfl rfl ⟨34, #[], #[], rfl, callable_34, seam_Through_walk h_p0 hc6⟩ (fun v14 m15 L13 hle16 hq => ?_)
      obtain ⟨a7, qa7, c8, a10, qa10, c11, rfl, h17, h18⟩ := hq
      obtain rfl := SlR.qlen h17
      obtain rfl := SlR.qlen h18
      refine WO.cls (C' := St w0 m m15 [L13]) (fun _ h => h.sub (by simp)) ?_
      refine WO_pure tbok 3 [(0, .slice a_p0 p0.length c_p0), (1, .int .i64 p1), (2, .int .i64 p2), (6, .bool false), (27, .agg #[.slice a7 ((y_3).length) c8, .int .i64 y_4, .slice a10 ((y_5).length) c11]), (28, .int .i64 y_6)] rfl ⟨rfl, rfl, rfl, rfl, rfl, rfl, trivial⟩ ?_
      refine WO_alloc tbok [.slice none 0 0, .int .i64 0, .slice none 0 0] rfl rfl trivial rfl rfl rfl rfl (fun b19 => ?_)
      refine WO.cls (C' := St w0 m m15 [L13, [⟨b19, 25, [.slice none 0 0, .int .i64 0, .slice none 0 0]⟩]]) (fun _ h => h) ?_
      refine WO_storeB tbok 1 [.slice a7 ((y_3).length) c8, .int .i64 y_4, .slice a10 ((y_5).length) c11] rfl rfl rfl rfl rfl rfl rfl ?_
      refine WO.cls (C' := St w0 m m15 [L13, [⟨b19, 25, [.slice a7 ((y_3).length) c8, .int .i64 y_4, .slice a10 ((y_5).length) c11]⟩]]) (fun _ h => h) ?_
      refine WO_pure tbok 1 [(0, .slice a_p0 p0.length c_p0), (1, .int .i64 p1), (2, .int .i64 p2), (6, .bool false), (7, .pointer (some ⟨b19, 0, none⟩)), (8, .int .i64 y_6)] rfl ⟨rfl, rfl, rfl, rfl, rfl, rfl, trivial⟩ ?_
      refine WO_end ?_
      refine WK_seq ?_
      refine WK_region ?_
      refine WO_pure tbok 1 [(0, .slice a_p0 p0.length c_p0), (1, .int .i64 p1), (2, .int .i64 p2), (6, .bool false), (7, .pointer (some ⟨b19, 0, none⟩)), (8, .int .i64 y_6), (29, .slice a_p0 p0.length c_p0)] rfl ⟨rfl, rfl, rfl, rfl, rfl, rfl, rfl, trivial⟩ ?_
      obtain ⟨y_7, hc20, hm⟩ := bind_some hm
      refine WO_call0 (.int .i64 y_7) rfl rfl trivial rfl rfl rfl rfl St_closed ⟨17, #[], #[], rfl, callable_17, fun w hw => ⟨_, hw.sat, fiduciallaw50_Checked_walk (h_p0.mono (mono_RowE (mono_FE _) _) hle16) hc20⟩⟩ ?_
      refine WO_pure tbok 1 [(0, .slice a_p0 p0.length c_p0), (1, .int .i64 p1), (2, .int .i64 p2), (6, .bool false), (7, .pointer (some ⟨b19, 0, none⟩)), (8, .int .i64 y_6), (9, .int .i64 y_7)] rfl ⟨rfl, rfl, rfl, rfl, rfl, rfl, rfl, trivial⟩ ?_
      refine WO_end ?_
      refine WK_seq ?_
      refine WK_seq ?_
      obtain ⟨s_8, hx21, hm⟩ := bind_some hm
      refine WK_meet [(0, .slice a_p0 p0.length c_p0), (1, .int .i64 p1), (2, .int .i64 p2), (6, .bool false), (7, .pointer (some ⟨b19, 0, none⟩)), (8, .int .i64 y_6), (9, .int .i64 y_7), (54, .bool s_8)] (St w0 m m15 [L13, [⟨b19, 25, [.slice a7 ((y_3).length) c8, .int .i64 y_4, .slice a10 ((y_5).length) c11]⟩]]) ?_ (fun hk22 => ?_)
      · obtain ⟨s_9, hx23, hm⟩ := bind_some hm
        refine WK_meet [(0, .slice a_p0 p0.length c_p0), (1, .int .i64 p1), (2, .int .i64 p2), (6, .bool false), (7, .pointer (some ⟨b19, 0, none⟩)), (8, .int .i64 y_6), (9, .int .i64 s_9)] (St w0 m m15 [L13, [⟨b19, 25, [.slice a7 ((y_3).length) c8, .int .i64 y_4, .slice a10 ((y_5).length) c11]⟩]]) ?_ (fun hk24 => ?_)
        · refine WK_seq ?_
          refine WK_seq ?_
          refine WK_region ?_
          refine WO_pure tbok 2 [(0, .slice a_p0 p0.length c_p0), (1, .int .i64 p1), (2, .int .i64 p2), (6, .bool false), (7, .pointer (some ⟨b19, 0, none⟩)), (8, .int .i64 y_6), (9, .int .i64 s_9), (56, .bool (s_9 != 0))] rfl ⟨rfl, rfl, rfl, rfl, rfl, rfl, rfl, rfl, trivial⟩ ?_
          refine WO_end ?_
          refine WK_cond (b := s_9 != 0) rfl (fun hb25 => ?_) (fun hb25 => ?_)
          · have hm := ifT hb25 hm
            refine WK_seq ?_
            refine WK_region ?_
            refine WO_pure tbok 4 [(0, .slice a_p0 p0.length c_p0), (1, .int .i64 p1), (2, .int .i64 p2), (6, .bool false), (7, .pointer (some ⟨b19, 0, none⟩)), (8, .int .i64 y_6), (60, .bool (y_6 == s_9))] rfl ⟨rfl, rfl, rfl, rfl, rfl, rfl, rfl, trivial⟩ ?_
            refine WO_split (d := 60) (b := y_6 == s_9) rfl (fun hb26 => ?_) (fun hb26 => ?_)
            · have hm := ifT hb26 hm
              refine WO_loadB tbok 1 rfl rfl rfl rfl (fun _ h => h) rfl rfl ?_
              obtain ⟨y_10, hc27, hm⟩ := bind_some hm
              refine WO_call0 (.bool y_10) rfl rfl trivial rfl rfl rfl rfl St_closed ⟨22, #[], #[], rfl, callable_22, fun w hw => ⟨_, hw.sat, fiduciallaw50_none_walk h17 h18 hc27⟩⟩ ?_
              refine WO_pure tbok 2 [(0, .slice a_p0 p0.length c_p0), (1, .int .i64 p1), (2, .int .i64 p2), (6, .bool y_10), (7, .pointer (some ⟨b19, 0, none⟩)), (8, .int .i64 y_6)] rfl ⟨rfl, rfl, rfl, rfl, rfl, rfl, trivial⟩ ?_
              refine WO_end ?_
              cases hm
              exact WK_ret (ret_out (L := []) (RLc_tmp rfl RLc_nil) (List.nil_sublist _) rfl)
            · have hm := ifF hb26 hm
              refine WO_pure tbok 1 [(0, .slice a_p0 p0.length c_p0), (1, .int .i64 p1), (2, .int .i64 p2), (6, .bool false), (7, .pointer (some ⟨b19, 0, none⟩)), (8, .int .i64 y_6), (60, .bool false)] rfl ⟨rfl, rfl, rfl, rfl, rfl, rfl, rfl, trivial⟩ ?_
              refine WO_skip rfl rfl ?_
              refine WO_pure tbok 2 [(0, .slice a_p0 p0.length c_p0), (1, .int .i64 p1), (2, .int .i64 p2), (6, .bool false), (7, .pointer (some ⟨b19, 0, none⟩)), (8, .int .i64 y_6)] rfl ⟨rfl, rfl, rfl, rfl, rfl, rfl, trivial⟩ ?_
              refine WO_end ?_
              cases hm
              exact WK_ret (ret_out (L := []) (RLc_tmp rfl RLc_nil) (List.nil_sublist _) rfl)
          · have hm := ifF hb25 hm
            refine WK_skip ?_
            refine WK_seq ?_
            refine WK_region ?_
            refine WO_pure tbok 3 [(0, .slice a_p0 p0.length c_p0), (1, .int .i64 p1), (6, .bool false), (7, .pointer (some ⟨b19, 0, none⟩)), (8, .int .i64 y_6), (65, .slice a_p0 p0.length c_p0), (66, .int .i64 p1), (67, .int .i64 p2)] rfl ⟨rfl, rfl, rfl, rfl, rfl, rfl, rfl, rfl, trivial⟩ ?_
            obtain ⟨⟨y_11, y_12⟩, hc28, hm⟩ := bind_some hm
            refine WO_call1 (fiduciallaw50_through_Q (y_11, y_12)) rfl rfl trivial rfl rfl rfl rfl ⟨35, #[], #[], rfl, callable_35, fun w hw => ⟨_, hw.sat, fiduciallaw50_through_walk (h_p0.mono (mono_RowE (mono_FE _) _) hle16) hc28⟩⟩ (fun v33 L32 hq => ?_)
            obtain ⟨a29, qa29, c30, rfl, hL32⟩ := hq
            obtain rfl := OwnE.qlen hL32
            refine WO.cls (C' := St w0 m m15 [L13, [⟨b19, 25, [.slice a7 ((y_3).length) c8, .int .i64 y_4, .slice a10 ((y_5).length) c11]⟩], L32]) (fun _ h => h) ?_
            refine WO_pure tbok 5 [(0, .slice a_p0 p0.length c_p0), (1, .int .i64 p1), (6, .bool false), (7, .pointer (some ⟨b19, 0, none⟩)), (8, .int .i64 y_6), (10, .slice a29 ((y_11).length) c30)] rfl ⟨rfl, rfl, rfl, rfl, rfl, rfl, trivial⟩ ?_
            refine WO_end ?_
            refine WK_seq ?_
            refine WK_seq ?_
            obtain ⟨s_13, hx34, hm⟩ := bind_some hm
            refine WK_meet [(0, .slice a_p0 p0.length c_p0), (1, .int .i64 p1), (6, .bool false), (93, .bool s_13)] (St w0 m m15 [L13, [⟨b19, 25, [.slice a7 ((y_3).length) c8, .int .i64 y_4, .slice a10 ((y_5).length) c11]⟩], L32]) ?_ (fun hk35 => ?_)
            · refine WK_cond (b := s_13) rfl (fun hb36 => ?_) (fun hb36 => ?_)
              · have hm := ifT hb36 hm
                refine WK_seq ?_
                refine WK_region ?_
                refine WO_pure tbok 1 [(0, .slice a_p0 p0.length c_p0), (1, .int .i64 p1), (6, .bool false)] rfl ⟨rfl, rfl, rfl, trivial⟩ ?_
                refine WO_end ?_
                cases hm
                exact WK_ret (ret_out (L := []) (RLc_tmp rfl RLc_nil) (List.nil_sublist _) rfl)
              · have hm := ifF hb36 hm
                refine WK_skip ?_
                refine WK_seq ?_
                refine WK_region ?_
                refine WO_pure tbok 1 [(0, .slice a_p0 p0.length c_p0), (1, .int .i64 p1), (6, .bool false), (95, .slice a_p0 p0.length c_p0)] rfl ⟨rfl, rfl, rfl, rfl, trivial⟩ ?_
                obtain ⟨⟨y_14, y_15, y_16, y_17⟩, hc37, hm⟩ := bind_some hm
                refine WO_call2 (seam_Find_Q (y_14, y_15, y_16, y_17)) rfl rfl trivial rfl rfl rfl rfl ⟨19, #[], #[], rfl, callable_19, seam_Find_walk (h_p0.mono (mono_RowE (mono_FE _) _) hle16) hc37⟩ (fun v45 m46 L44 hle47 hq => ?_)
                obtain ⟨a38, qa38, c39, a41, qa41, c42, rfl, h48, h49⟩ := hq
                obtain rfl := SlR.qlen h48
                obtain rfl := SlR.qlen h49
                refine WO.cls (C' := St w0 m m46 [L13, [⟨b19, 25, [.slice a7 ((y_3).length) c8, .int .i64 y_4, .slice a10 ((y_5).length) c11]⟩], L32, L44]) (fun _ h => h.sub (by simp)) ?_
                refine WO_pure tbok 3 [(0, .slice a_p0 p0.length c_p0), (1, .int .i64 p1), (6, .bool false), (97, .agg #[.slice a38 ((y_14).length) c39, .int .i64 y_15, .slice a41 ((y_16).length) c42]), (98, .int .i64 y_17)] rfl ⟨rfl, rfl, rfl, rfl, rfl, trivial⟩ ?_
                refine WO_alloc tbok [.slice none 0 0, .int .i64 0, .slice none 0 0] rfl rfl trivial rfl rfl rfl rfl (fun b50 => ?_)
                refine WO.cls (C' := St w0 m m46 [L13, [⟨b19, 25, [.slice a7 ((y_3).length) c8, .int .i64 y_4, .slice a10 ((y_5).length) c11]⟩], L32, L44, [⟨b50, 25, [.slice none 0 0, .int .i64 0, .slice none 0 0]⟩]]) (fun _ h => h) ?_
                refine WO_storeB tbok 4 [.slice a38 ((y_14).length) c39, .int .i64 y_15, .slice a41 ((y_16).length) c42] rfl rfl rfl rfl rfl rfl rfl ?_
                refine WO.cls (C' := St w0 m m46 [L13, [⟨b19, 25, [.slice a7 ((y_3).length) c8, .int .i64 y_4, .slice a10 ((y_5).length) c11]⟩], L32, L44, [⟨b50, 25, [.slice a38 ((y_14).length) c39, .int .i64 y_15, .slice a41 ((y_16).length) c42]⟩]]) (fun _ h => h) ?_
                refine WO_pure tbok 1 [(0, .slice a_p0 p0.length c_p0), (1, .int .i64 p1), (6, .bool false), (8, .int .i64 y_17), (12, .pointer (some ⟨b50, 0, none⟩))] rfl ⟨rfl, rfl, rfl, rfl, rfl, trivial⟩ ?_
                refine WO_end ?_
                refine WK_seq ?_
                refine WK_seq ?_
                refine WK_region ?_
                refine WO_pure tbok 2 [(0, .slice a_p0 p0.length c_p0), (1, .int .i64 p1), (6, .bool false), (12, .pointer (some ⟨b50, 0, none⟩)), (100, .bool (y_17 != 0))] rfl ⟨rfl, rfl, rfl, rfl, rfl, trivial⟩ ?_
                refine WO_end ?_
                refine WK_cond (b := y_17 != 0) rfl (fun hb51 => ?_) (fun hb51 => ?_)
                · have hm := ifT hb51 hm
                  refine WK_seq ?_
                  refine WK_region ?_
                  refine WO_pure tbok 1 [(0, .slice a_p0 p0.length c_p0), (1, .int .i64 p1), (6, .bool false), (12, .pointer (some ⟨b50, 0, none⟩))] rfl ⟨rfl, rfl, rfl, rfl, trivial⟩ ?_
                  refine WO_end ?_
                  cases hm
                  exact WK_ret (ret_out (L := []) (RLc_tmp rfl RLc_nil) (List.nil_sublist _) rfl)
                · have hm := ifF hb51 hm
                  refine WK_skip ?_
                  refine WK_seq ?_
                  refine WK_region ?_
                  refine WO_pure tbok 1 [(0, .slice a_p0 p0.length c_p0), (1, .int .i64 p1), (6, .bool false), (12, .pointer (some ⟨b50, 0, none⟩)), (13, .bool false)] rfl ⟨rfl, rfl, rfl, rfl, rfl, trivial⟩ ?_
                  refine WO_end ?_
                  refine WK_seq ?_
                  refine WK_seq ?_
                  refine WK_region ?_
                  refine WO_pure tbok 1 [(0, .slice a_p0 p0.length c_p0), (1, .int .i64 p1), (6, .bool false), (12, .pointer (some ⟨b50, 0, none⟩)), (13, .bool false), (101, .slice a_p0 p0.length c_p0)] rfl ⟨rfl, rfl, rfl, rfl, rfl, rfl, trivial⟩ ?_
                  obtain ⟨v_18, hy52, hm⟩ := bind_some hm
                  obtain ⟨hc53, hy52⟩ := ix_some hy52
                  refine WO_index tbok rfl rfl rfl rfl rfl rfl rfl rfl (SlR.addr ((h_p0.mono (mono_RowE (mono_FE _) _) hle16).mono (mono_RowE (mono_FE _) _) hle47)) hc53 ?_
                  refine WO_loadR tbok rfl rfl rfl rfl (fun _ h => St.sat h) ((h_p0.mono (mono_RowE (mono_FE _) _) hle16).mono (mono_RowE (mono_FE _) _) hle47) hy52 rfl rfl (fun a54 c55 h56 => ?_)
                  refine WO_pure tbok 2 [(0, .slice a_p0 p0.length c_p0), (1, .int .i64 p1), (6, .bool false), (12, .pointer (some ⟨b50, 0, none⟩)), (13, .bool false), (104, .int .i64 ((v_18).length : Int)), (105, .int .i64 0)] rfl ⟨rfl, rfl, rfl, rfl, rfl, rfl, rfl, trivial⟩ ?_
                  refine WO_end ?_
                  obtain ⟨x62, hx63, hm⟩ := bind_some hm
                  refine WK_join (β := Bool × Mu) (fun p => Sum.inr p.1 = x62 ∧ Le m46 p.2) (fun p => [(6, .bool false), (13, .bool p.1)]) (fun p => St w0 m p.2 [L13, [⟨b19, 25, [.slice a7 ((y_3).length) c8, .int .i64 y_4, .slice a10 ((y_5).length) c11]⟩], L32, L44, [⟨b50, 25, [.slice a38 ((y_14).length) c39, .int .i64 y_15, .slice a41 ((y_16).length) c42]⟩]]) ?_ (fun hk64 => ?_)
                  · rintro ⟨s_21, m60⟩ ⟨hq70, hle61⟩
                    subst hq70
                    refine WK.sub (e' := [(6, .bool false), (13, .bool s_21)]) ⟨rfl, rfl, trivial⟩ (WK.cls (C' := St w0 m m60 [L13, [⟨b19, 25, [.slice a7 ((y_3).length) c8, .int .i64 y_4, .slice a10 ((y_5).length) c11]⟩], L32, L44, [⟨b50, 25, [.slice a38 ((y_14).length) c39, .int .i64 y_15, .slice a41 ((y_16).length) c42]⟩]]) (fun _ h => h) ?_)
                    refine WK_seq ?_
                    refine WK_region ?_
                    refine WO_pure tbok 2 [(6, .bool s_21)] rfl ⟨rfl, trivial⟩ ?_
                    refine WO_end ?_
                    cases hm
                    exact WK_ret (ret_out (L := []) (RLc_tmp rfl RLc_nil) (List.nil_sublist _) rfl)
                  · refine WK_block ?_
                    refine WK_loop (S := Bool × Int) (G := Mu) (fun s => fiduciallaw50_SeamThrough_s1 p0 p1 y_15 v_18 s.1 s.2) (fun s g => [(0, .slice a_p0 p0.length c_p0), (1, .int .i64 p1), (6, .bool false), (12, .pointer (some ⟨b50, 0, none⟩)), (13, .bool s.1), (104, .int .i64 ((v_18).length : Int)), (105, .int .i64 s.2)]) (fun s g => St w0 m g [L13, [⟨b19, 25, [.slice a7 ((y_3).length) c8, .int .i64 y_4, .slice a10 ((y_5).length) c11]⟩], L32, L44, [⟨b50, 25, [.slice a38 ((y_14).length) c39, .int .i64 y_15, .slice a41 ((y_16).length) c42]⟩]]) (fun s g => Le m46 g) FUEL (false, 0) m46 x62 hx63 (Le.refl _) ⟨rfl, rfl, rfl, rfl, rfl, rfl, rfl, trivial⟩ (fun _ h => h) ?_
                    rintro ⟨s_19, s_20⟩ m58 o66 fl67 hm65 hle59 hn68 hd69
                    have hm65 : fiduciallaw50_SeamThrough_s1 p0 p1 y_15 v_18 s_19 s_20 = some o66 := hm65
                    unfold fiduciallaw50_SeamThrough_s1 at hm65
                    refine WK.sub (e' := [(0, .slice a_p0 p0.length c_p0), (1, .int .i64 p1), (6, .bool false), (12, .pointer (some ⟨b50, 0, none⟩)), (13, .bool s_19), (104, .int .i64 ((v_18).length : Int)), (105, .int .i64 s_20)]) ⟨rfl, rfl, rfl, rfl, rfl, rfl, rfl, trivial⟩ (WK.cls (C' := St w0 m m58 [L13, [⟨b19, 25, [.slice a7 ((y_3).length) c8, .int .i64 y_4, .slice a10 ((y_5).length) c11]⟩], L32, L44, [⟨b50, 25, [.slice a38 ((y_14).length) c39, .int .i64 y_15, .slice a41 ((y_16).length) c42]⟩]]) (fun _ h => h) ?_)
                    refine WK_seq ?_
                    refine WK_region ?_
                    refine WO_pure tbok 1 [(0, .slice a_p0 p0.length c_p0), (1, .int .i64 p1), (6, .bool false), (12, .pointer (some ⟨b50, 0, none⟩)), (13, .bool s_19), (104, .int .i64 ((v_18).length : Int)), (105, .int .i64 s_20), (106, .bool (decide (s_20 < ((v_18).length : Int))))] rfl ⟨rfl, rfl, rfl, rfl, rfl, rfl, rfl, rfl, trivial⟩ ?_
                    refine WO_end ?_
                    refine WK_seq ?_
                    refine WK_cond (b := decide (s_20 < ((v_18).length : Int))) rfl (fun hb71 => ?_) (fun hb71 => ?_)
                    · have hm65 := ifT hb71 hm65
                      refine WK_skip ?_
                      refine WK_seq ?_
                      refine WK_block ?_
                      refine WK_seq ?_
                      refine WK_region ?_
                      refine WO_pure tbok 2 [(0, .slice a_p0 p0.length c_p0), (1, .int .i64 p1), (6, .bool false), (12, .pointer (some ⟨b50, 0, none⟩)), (13, .bool s_19), (14, .int .i64 s_20), (104, .int .i64 ((v_18).length : Int)), (105, .int .i64 s_20)] rfl ⟨rfl, rfl, rfl, rfl, rfl, rfl, rfl, rfl, trivial⟩ ?_
                      refine WO_end ?_
                      refine WK_seq ?_
                      refine WK_region ?_
                      refine WO_pure tbok 3 [(0, .slice a_p0 p0.length c_p0), (1, .int .i64 p1), (6, .bool false), (12, .pointer (some ⟨b50, 0, none⟩)), (13, .bool s_19), (104, .int .i64 ((v_18).length : Int)), (105, .int .i64 s_20), (109, .slice a_p0 p0.length c_p0), (110, .int .i64 p1), (111, .int .i64 s_20)] rfl ⟨rfl, rfl, rfl, rfl, rfl, rfl, rfl, rfl, rfl, rfl, trivial⟩ ?_
                      obtain ⟨⟨y_22, y_23, y_24, y_25⟩, hc72, hm65⟩ := bind_some hm65
                      refine WO_call2 (seam_Through_Q (y_22, y_23, y_24, y_25)) rfl rfl trivial rfl rfl rfl rfl ⟨34, #[], #[], rfl, callable_34, seam_Through_walk (((h_p0.mono (mono_RowE (mono_FE _) _) hle16).mono (mono_RowE (mono_FE _) _) hle47).mono (mono_RowE (mono_FE _) _) hle59) hc72⟩ (fun v80 m81 L79 hle82 hq => ?_)
                      obtain ⟨a73, qa73, c74, a76, qa76, c77, rfl, h83, h84⟩ := hq
                      obtain rfl := SlR.qlen h83
                      obtain rfl := SlR.qlen h84
                      refine WO.cls (C' := St w0 m m81 [L13, [⟨b19, 25, [.slice a7 ((y_3).length) c8, .int .i64 y_4, .slice a10 ((y_5).length) c11]⟩], L32, L44, [⟨b50, 25, [.slice a38 ((y_14).length) c39, .int .i64 y_15, .slice a41 ((y_16).length) c42]⟩], L79]) (fun _ h => h.sub (by simp)) ?_
                      refine WO_pure tbok 3 [(0, .slice a_p0 p0.length c_p0), (1, .int .i64 p1), (6, .bool false), (12, .pointer (some ⟨b50, 0, none⟩)), (13, .bool s_19), (104, .int .i64 ((v_18).length : Int)), (105, .int .i64 s_20), (113, .agg #[.slice a73 ((y_22).length) c74, .int .i64 y_23, .slice a76 ((y_24).length) c77]), (114, .int .i64 y_25)] rfl ⟨rfl, rfl, rfl, rfl, rfl, rfl, rfl, rfl, rfl, trivial⟩ ?_
                      refine WO_alloc tbok [.slice none 0 0, .int .i64 0, .slice none 0 0] rfl rfl trivial rfl rfl rfl rfl (fun b85 => ?_)
                      refine WO.cls (C' := St w0 m m81 [L13, [⟨b19, 25, [.slice a7 ((y_3).length) c8, .int .i64 y_4, .slice a10 ((y_5).length) c11]⟩], L32, L44, [⟨b50, 25, [.slice a38 ((y_14).length) c39, .int .i64 y_15, .slice a41 ((y_16).length) c42]⟩], L79, [⟨b85, 25, [.slice none 0 0, .int .i64 0, .slice none 0 0]⟩]]) (fun _ h => h) ?_
                      refine WO_storeB tbok 6 [.slice a73 ((y_22).length) c74, .int .i64 y_23, .slice a76 ((y_24).length) c77] rfl rfl rfl rfl rfl rfl rfl ?_
                      refine WO.cls (C' := St w0 m m81 [L13, [⟨b19, 25, [.slice a7 ((y_3).length) c8, .int .i64 y_4, .slice a10 ((y_5).length) c11]⟩], L32, L44, [⟨b50, 25, [.slice a38 ((y_14).length) c39, .int .i64 y_15, .slice a41 ((y_16).length) c42]⟩], L79, [⟨b85, 25, [.slice a73 ((y_22).length) c74, .int .i64 y_23, .slice a76 ((y_24).length) c77]⟩]]) (fun _ h => h) ?_
                      refine WO_pure tbok 1 [(0, .slice a_p0 p0.length c_p0), (1, .int .i64 p1), (6, .bool false), (12, .pointer (some ⟨b50, 0, none⟩)), (13, .bool s_19), (15, .pointer (some ⟨b85, 0, none⟩)), (16, .int .i64 y_25), (104, .int .i64 ((v_18).length : Int)), (105, .int .i64 s_20)] rfl ⟨rfl, rfl, rfl, rfl, rfl, rfl, rfl, rfl, rfl, trivial⟩ ?_
                      refine WO_end ?_
                      refine WK_seq ?_
                      refine WK_seq ?_
                      obtain ⟨s_26, hx86, hm65⟩ := bind_some hm65
                      refine WK_meet [(0, .slice a_p0 p0.length c_p0), (1, .int .i64 p1), (6, .bool false), (12, .pointer (some ⟨b50, 0, none⟩)), (13, .bool s_19), (15, .pointer (some ⟨b85, 0, none⟩)), (104, .int .i64 ((v_18).length : Int)), (105, .int .i64 s_20), (123, .bool s_26)] (St w0 m m81 [L13, [⟨b19, 25, [.slice a7 ((y_3).length) c8, .int .i64 y_4, .slice a10 ((y_5).length) c11]⟩], L32, L44, [⟨b50, 25, [.slice a38 ((y_14).length) c39, .int .i64 y_15, .slice a41 ((y_16).length) c42]⟩], L79, [⟨b85, 25, [.slice a73 ((y_22).length) c74, .int .i64 y_23, .slice a76 ((y_24).length) c77]⟩]]) ?_ (fun hk87 => ?_)
                      · refine WK_cond (b := s_26) rfl (fun hb88 => ?_) (fun hb88 => ?_)
                        · have hm65 := ifT hb88 hm65
                          refine WK_seq ?_
                          refine WK_region ?_
                          refine WO_pure tbok 1 [(0, .slice a_p0 p0.length c_p0), (1, .int .i64 p1), (6, .bool false), (12, .pointer (some ⟨b50, 0, none⟩)), (13, .bool s_19), (15, .pointer (some ⟨b85, 0, none⟩)), (104, .int .i64 ((v_18).length : Int)), (105, .int .i64 s_20)] rfl ⟨rfl, rfl, rfl, rfl, rfl, rfl, rfl, rfl, trivial⟩ ?_
                          refine WO_end ?_
                          cases hm65
                          have hq := hd69 _ rfl
                          subst hq
                          have hm : some _ = some _ := hm
                          cases hm
                          exact WK_ret (ret_out (L := []) (RLc_tmp rfl RLc_nil) (List.nil_sublist _) rfl)
                        · have hm65 := ifF hb88 hm65
                          refine WK_skip ?_
                          obtain ⟨s_27, hx89, hm65⟩ := bind_some hm65
                          refine WK_meet [(0, .slice a_p0 p0.length c_p0), (1, .int .i64 p1), (6, .bool false), (12, .pointer (some ⟨b50, 0, none⟩)), (13, .bool s_27), (104, .int .i64 ((v_18).length : Int)), (105, .int .i64 s_20)] (St w0 m m81 [L13, [⟨b19, 25, [.slice a7 ((y_3).length) c8, .int .i64 y_4, .slice a10 ((y_5).length) c11]⟩], L32, L44, [⟨b50, 25, [.slice a38 ((y_14).length) c39, .int .i64 y_15, .slice a41 ((y_16).length) c42]⟩], L79, [⟨b85, 25, [.slice a73 ((y_22).length) c74, .int .i64 y_23, .slice a76 ((y_24).length) c77]⟩]]) ?_ (fun hk90 => ?_)
                          · refine WK_blk ?_
                            refine WK_region ?_
                            refine WO_pure tbok 2 [(0, .slice a_p0 p0.length c_p0), (1, .int .i64 p1), (6, .bool false), (12, .pointer (some ⟨b50, 0, none⟩)), (13, .bool s_27), (104, .int .i64 ((v_18).length : Int)), (105, .int .i64 (w64 (s_20 + 1)))] rfl ⟨rfl, rfl, rfl, rfl, rfl, rfl, rfl, trivial⟩ ?_
                            refine WO_end ?_
                            cases hm65
                            refine WK.sub ?_ (WK.cls (fun _ h => St.take 5 h) (hn68 _ m81 rfl (hle59.trans hle82)))
                            exact ⟨rfl, rfl, rfl, rfl, rfl, rfl, rfl, trivial⟩
                          · refine WK_region ?_
                            refine WO_pure tbok 2 [(0, .slice a_p0 p0.length c_p0), (1, .int .i64 p1), (6, .bool false), (12, .pointer (some ⟨b50, 0, none⟩)), (13, .bool s_19), (15, .pointer (some ⟨b85, 0, none⟩)), (104, .int .i64 ((v_18).length : Int)), (105, .int .i64 s_20), (125, .bool s_19)] rfl ⟨rfl, rfl, rfl, rfl, rfl, rfl, rfl, rfl, rfl, trivial⟩ ?_
                            refine WO_split (d := 125) (b := s_19) rfl (fun hb91 => ?_) (fun hb91 => ?_)
                            · have hx89 := ifT hb91 hx89
                              refine WO_pure tbok 7 [(0, .slice a_p0 p0.length c_p0), (1, .int .i64 p1), (6, .bool false), (12, .pointer (some ⟨b50, 0, none⟩)), (13, .bool true), (104, .int .i64 ((v_18).length : Int)), (105, .int .i64 s_20)] rfl ⟨rfl, rfl, rfl, rfl, rfl, rfl, rfl, trivial⟩ ?_
                              refine WO_end ?_
                              cases hx89
                              refine WK.sub ?_ (WK.cls (fun _ h => h) hk90)
                              exact ⟨rfl, rfl, rfl, rfl, rfl, rfl, rfl, trivial⟩
                            · have hx89 := ifF hb91 hx89
                              refine WO_pure tbok 1 [(0, .slice a_p0 p0.length c_p0), (1, .int .i64 p1), (6, .bool false), (12, .pointer (some ⟨b50, 0, none⟩)), (13, .bool s_19), (104, .int .i64 ((v_18).length : Int)), (105, .int .i64 s_20), (125, .bool false), (126, .pointer (some ⟨b85, 1, none⟩))] rfl ⟨rfl, rfl, rfl, rfl, rfl, rfl, rfl, rfl, rfl, trivial⟩ ?_
                              refine WO_loadB tbok 6 rfl rfl rfl rfl (fun _ h => h) rfl rfl ?_
                              refine WO_pure tbok 1 [(0, .slice a_p0 p0.length c_p0), (1, .int .i64 p1), (6, .bool false), (12, .pointer (some ⟨b50, 0, none⟩)), (13, .bool s_19), (104, .int .i64 ((v_18).length : Int)), (105, .int .i64 s_20), (125, .bool false), (127, .int .i64 y_23), (128, .pointer (some ⟨b50, 1, none⟩))] rfl ⟨rfl, rfl, rfl, rfl, rfl, rfl, rfl, rfl, rfl, rfl, trivial⟩ ?_
                              refine WO_loadB tbok 4 rfl rfl rfl rfl (fun _ h => h) rfl rfl ?_
                              refine WO_pure tbok 3 [(0, .slice a_p0 p0.length c_p0), (1, .int .i64 p1), (6, .bool false), (12, .pointer (some ⟨b50, 0, none⟩)), (13, .bool (y_23 == y_15)), (104, .int .i64 ((v_18).length : Int)), (105, .int .i64 s_20)] rfl ⟨rfl, rfl, rfl, rfl, rfl, rfl, rfl, trivial⟩ ?_
                              refine WO_end ?_
                              cases hx89
                              refine WK.sub ?_ (WK.cls (fun _ h => h) hk90)
                              exact ⟨rfl, rfl, rfl, rfl, rfl, rfl, rfl, trivial⟩
                      · refine WK_region ?_
                        refine WO_pure tbok 3 [(0, .slice a_p0 p0.length c_p0), (1, .int .i64 p1), (6, .bool false), (12, .pointer (some ⟨b50, 0, none⟩)), (13, .bool s_19), (15, .pointer (some ⟨b85, 0, none⟩)), (104, .int .i64 ((v_18).length : Int)), (105, .int .i64 s_20), (117, .bool (y_25 != 0))] rfl ⟨rfl, rfl, rfl, rfl, rfl, rfl, rfl, rfl, rfl, trivial⟩ ?_
                        refine WO_split (d := 117) (b := y_25 != 0) rfl (fun hb92 => ?_) (fun hb92 => ?_)
                        · have hx86 := ifT hb92 hx86
                          refine WO_pure tbok 6 [(0, .slice a_p0 p0.length c_p0), (1, .int .i64 p1), (6, .bool false), (12, .pointer (some ⟨b50, 0, none⟩)), (13, .bool s_19), (15, .pointer (some ⟨b85, 0, none⟩)), (104, .int .i64 ((v_18).length : Int)), (105, .int .i64 s_20), (123, .bool true)] rfl ⟨rfl, rfl, rfl, rfl, rfl, rfl, rfl, rfl, rfl, trivial⟩ ?_
                          refine WO_end ?_
                          cases hx86
                          refine WK.sub ?_ (WK.cls (fun _ h => h) hk87)
                          exact ⟨rfl, rfl, rfl, rfl, rfl, rfl, rfl, rfl, rfl, trivial⟩
                        · have hx86 := ifF hb92 hx86
                          refine WO_pure tbok 1 [(0, .slice a_p0 p0.length c_p0), (1, .int .i64 p1), (6, .bool false), (12, .pointer (some ⟨b50, 0, none⟩)), (13, .bool s_19), (15, .pointer (some ⟨b85, 0, none⟩)), (104, .int .i64 ((v_18).length : Int)), (105, .int .i64 s_20), (117, .bool false), (118, .pointer (some ⟨b85, 1, none⟩))] rfl ⟨rfl, rfl, rfl, rfl, rfl, rfl, rfl, rfl, rfl, rfl, trivial⟩ ?_
                          refine WO_loadB tbok 6 rfl rfl rfl rfl (fun _ h => h) rfl rfl ?_
                          refine WO_pure tbok 1 [(0, .slice a_p0 p0.length c_p0), (1, .int .i64 p1), (6, .bool false), (12, .pointer (some ⟨b50, 0, none⟩)), (13, .bool s_19), (15, .pointer (some ⟨b85, 0, none⟩)), (104, .int .i64 ((v_18).length : Int)), (105, .int .i64 s_20), (117, .bool false), (119, .int .i64 y_23), (120, .pointer (some ⟨b50, 1, none⟩))] rfl ⟨rfl, rfl, rfl, rfl, rfl, rfl, rfl, rfl, rfl, rfl, rfl, trivial⟩ ?_
                          refine WO_loadB tbok 4 rfl rfl rfl rfl (fun _ h => h) rfl rfl ?_
                          refine WO_pure tbok 2 [(0, .slice a_p0 p0.length c_p0), (1, .int .i64 p1), (6, .bool false), (12, .pointer (some ⟨b50, 0, none⟩)), (13, .bool s_19), (15, .pointer (some ⟨b85, 0, none⟩)), (104, .int .i64 ((v_18).length : Int)), (105, .int .i64 s_20), (123, .bool (decide (y_23 < y_15)))] rfl ⟨rfl, rfl, rfl, rfl, rfl, rfl, rfl, rfl, rfl, trivial⟩ ?_
                          refine WO_end ?_
                          cases hx86
                          refine WK.sub ?_ (WK.cls (fun _ h => h) hk87)
                          exact ⟨rfl, rfl, rfl, rfl, rfl, rfl, rfl, rfl, rfl, trivial⟩
                    · have hm65 := ifF hb71 hm65
                      refine WK_exit rfl ?_
                      cases hm65
                      refine WK.sub ?_ (WK.cls (fun _ h => h) (hk64 (s_19, m58) ⟨(hd69 _ rfl), hle59⟩))
                      exact ⟨rfl, rfl, trivial⟩
            · refine WK_draw 23 [0, 1, 2, 3, 4, 5, 6, 7, 8, 9, 10, 11, 12, 13, 14, 15, 16, 17, 18, 19, 20, 21, 22] follows_ok (by kernel_rfl) St_closed ?_
              refine WO_pure tbok 3 [(0, .slice a_p0 p0.length c_p0), (1, .int .i64 p1), (6, .bool false), (7, .pointer (some ⟨b19, 0, none⟩)), (10, .slice a29 ((y_11).length) c30), (73, .bool (y_6 != 0))] rfl ⟨rfl, rfl, rfl, rfl, rfl, rfl, trivial⟩ ?_
              refine WO_split (d := 73) (b := y_6 != 0) rfl (fun hb93 => ?_) (fun hb93 => ?_)
              · have hx34 := ifT hb93 hx34
                refine WO_pure tbok 3 [(0, .slice a_p0 p0.length c_p0), (1, .int .i64 p1), (6, .bool false), (7, .pointer (some ⟨b19, 0, none⟩)), (10, .slice a29 ((y_11).length) c30), (73, .bool true)] rfl ⟨rfl, rfl, rfl, rfl, rfl, rfl, trivial⟩ ?_
                refine WO_skip rfl rfl ?_
                refine WO_pure tbok 7 [(0, .slice a_p0 p0.length c_p0), (1, .int .i64 p1), (6, .bool false), (7, .pointer (some ⟨b19, 0, none⟩)), (80, .bool true)] rfl ⟨rfl, rfl, rfl, rfl, rfl, trivial⟩ ?_
                refine WO_skip rfl rfl ?_
                refine WO_pure tbok 8 [(0, .slice a_p0 p0.length c_p0), (1, .int .i64 p1), (6, .bool false), (93, .bool true)] rfl ⟨rfl, rfl, rfl, rfl, trivial⟩ ?_
                refine WO_tail ?_
                refine WO_end ?_
                cases hx34
                refine WK.sub ?_ (WK.cls (fun _ h => h) hk35)
                exact ⟨rfl, rfl, rfl, rfl, trivial⟩
              · have hx34 := ifF hb93 hx34
                refine WO_pure tbok 1 [(0, .slice a_p0 p0.length c_p0), (1, .int .i64 p1), (6, .bool false), (7, .pointer (some ⟨b19, 0, none⟩)), (10, .slice a29 ((y_11).length) c30), (73, .bool false), (74, .pointer (some ⟨b19, 0, none⟩))] rfl ⟨rfl, rfl, rfl, rfl, rfl, rfl, rfl, trivial⟩ ?_
                refine WO_loadB tbok 1 rfl rfl rfl rfl (fun _ h => h) rfl rfl ?_
                refine WO_pure tbok 1 [(0, .slice a_p0 p0.length c_p0), (1, .int .i64 p1), (6, .bool false), (7, .pointer (some ⟨b19, 0, none⟩)), (10, .slice a29 ((y_11).length) c30), (73, .bool false), (75, .slice a7 ((y_3).length) c8), (76, .slice a29 ((y_11).length) c30)] rfl ⟨rfl, rfl, rfl, rfl, rfl, rfl, rfl, rfl, trivial⟩ ?_
                obtain ⟨y_28, hc94, hx34⟩ := bind_some hx34
                refine WO_call0 (.bool y_28) rfl rfl St_closed rfl rfl rfl rfl St_closed ⟨21, #[], #[], rfl, callable_21, fun w hw => ⟨_, hw.satV, slices_Equal_sint_walk (h17.mono (mono_FE _) hw.leV) (OwnE.rd (E := (I1 .i64)) (k := 1) (fun _ => rfl) hL32 (fun _ hx => hw.memV (i := 2) rfl hx)) hc94⟩⟩ ?_
                refine WO_pure tbok 3 [(0, .slice a_p0 p0.length c_p0), (1, .int .i64 p1), (6, .bool false), (7, .pointer (some ⟨b19, 0, none⟩)), (10, .slice a29 ((y_11).length) c30), (80, .bool (!y_28))] rfl ⟨rfl, rfl, rfl, rfl, rfl, rfl, trivial⟩ ?_
                refine WO_split (d := 80) (b := !y_28) rfl (fun hb95 => ?_) (fun hb95 => ?_)
                · have hx34 := ifT hb95 hx34
                  refine WO_pure tbok 4 [(0, .slice a_p0 p0.length c_p0), (1, .int .i64 p1), (6, .bool false), (7, .pointer (some ⟨b19, 0, none⟩)), (80, .bool true)] rfl ⟨rfl, rfl, rfl, rfl, rfl, trivial⟩ ?_
                  refine WO_skip rfl rfl ?_
                  refine WO_pure tbok 8 [(0, .slice a_p0 p0.length c_p0), (1, .int .i64 p1), (6, .bool false), (93, .bool true)] rfl ⟨rfl, rfl, rfl, rfl, trivial⟩ ?_
                  refine WO_tail ?_
                  refine WO_end ?_
                  cases hx34
                  refine WK.sub ?_ (WK.cls (fun _ h => h) hk35)
                  exact ⟨rfl, rfl, rfl, rfl, trivial⟩
                · have hx34 := ifF hb95 hx34
                  refine WO_pure tbok 1 [(0, .slice a_p0 p0.length c_p0), (1, .int .i64 p1), (6, .bool false), (7, .pointer (some ⟨b19, 0, none⟩)), (10, .slice a29 ((y_11).length) c30), (80, .bool false), (81, .pointer (some ⟨b19, 1, none⟩))] rfl ⟨rfl, rfl, rfl, rfl, rfl, rfl, rfl, trivial⟩ ?_
                  refine WO_loadB tbok 1 rfl rfl rfl rfl (fun _ h => h) rfl rfl ?_
                  refine WO_pure tbok 2 [(0, .slice a_p0 p0.length c_p0), (1, .int .i64 p1), (6, .bool false), (7, .pointer (some ⟨b19, 0, none⟩)), (80, .bool false), (82, .int .i64 y_4), (83, .slice a_p0 p0.length c_p0), (84, .slice a29 ((y_11).length) c30)] rfl ⟨rfl, rfl, rfl, rfl, rfl, rfl, rfl, rfl, trivial⟩ ?_
                  obtain ⟨y_29, hc96, hx34⟩ := bind_some hx34
                  refine WO_call0 (.int .i64 y_29) rfl rfl St_closed rfl rfl rfl rfl St_closed ⟨27, #[], #[], rfl, callable_27, fun w hw => ⟨_, hw.satV, fiduciallaw50_Total_walk ((h_p0.mono (mono_RowE (mono_FE _) _) hle16).mono (mono_RowE (mono_FE _) _) hw.leV) (OwnE.rd (E := (I1 .i64)) (k := 1) (fun _ => rfl) hL32 (fun _ hx => hw.memV (i := 2) rfl hx)) hc96⟩⟩ ?_
                  refine WO_pure tbok 3 [(0, .slice a_p0 p0.length c_p0), (1, .int .i64 p1), (6, .bool false), (7, .pointer (some ⟨b19, 0, none⟩)), (88, .bool (y_4 != y_29))] rfl ⟨rfl, rfl, rfl, rfl, rfl, trivial⟩ ?_
                  refine WO_split (d := 88) (b := y_4 != y_29) rfl (fun hb97 => ?_) (fun hb97 => ?_)
                  · have hx34 := ifT hb97 hx34
                    refine WO_pure tbok 5 [(0, .slice a_p0 p0.length c_p0), (1, .int .i64 p1), (6, .bool false), (93, .bool true)] rfl ⟨rfl, rfl, rfl, rfl, trivial⟩ ?_
                    refine WO_tail ?_
                    refine WO_end ?_
                    cases hx34
                    refine WK.sub ?_ (WK.cls (fun _ h => h) hk35)
                    exact ⟨rfl, rfl, rfl, rfl, trivial⟩
                  · have hx34 := ifF hb97 hx34
                    refine WO_pure tbok 1 [(0, .slice a_p0 p0.length c_p0), (1, .int .i64 p1), (6, .bool false), (88, .bool false), (89, .pointer (some ⟨b19, 2, none⟩))] rfl ⟨rfl, rfl, rfl, rfl, rfl, trivial⟩ ?_
                    refine WO_loadB tbok 1 rfl rfl rfl rfl (fun _ h => h) rfl rfl ?_
                    refine WO_pure tbok 3 [(0, .slice a_p0 p0.length c_p0), (1, .int .i64 p1), (6, .bool false), (93, .bool (((y_5).length : Int) != 0))] rfl ⟨rfl, rfl, rfl, rfl, trivial⟩ ?_
                    refine WO_tail ?_
                    refine WO_end ?_
                    cases hx34
                    refine WK.sub ?_ (WK.cls (fun _ h => h) hk35)
                    exact ⟨rfl, rfl, rfl, rfl, trivial⟩
        · refine WK_cond (b := s_8) rfl (fun hb98 => ?_) (fun hb98 => ?_)
          · have hx23 := ifT hb98 hx23
            refine WK_region ?_
            refine WO_pure tbok 1 [(0, .slice a_p0 p0.length c_p0), (1, .int .i64 p1), (2, .int .i64 p2), (6, .bool false), (7, .pointer (some ⟨b19, 0, none⟩)), (8, .int .i64 y_6), (9, .int .i64 2)] rfl ⟨rfl, rfl, rfl, rfl, rfl, rfl, rfl, trivial⟩ ?_
            refine WO_end ?_
            cases hx23
            refine WK.sub ?_ (WK.cls (fun _ h => h) hk24)
            exact ⟨rfl, rfl, rfl, rfl, rfl, rfl, rfl, trivial⟩
          · have hx23 := ifF hb98 hx23
            refine WK_skip ?_
            cases hx23
            refine WK.sub ?_ (WK.cls (fun _ h => h) hk24)
            exact ⟨rfl, rfl, rfl, rfl, rfl, rfl, rfl, trivial⟩
      · refine WK_region ?_
        refine WO_pure tbok 3 [(0, .slice a_p0 p0.length c_p0), (1, .int .i64 p1), (2, .int .i64 p2), (6, .bool false), (7, .pointer (some ⟨b19, 0, none⟩)), (8, .int .i64 y_6), (9, .int .i64 y_7), (33, .bool (y_7 == 0))] rfl ⟨rfl, rfl, rfl, rfl, rfl, rfl, rfl, rfl, trivial⟩ ?_
        refine WO_split (d := 33) (b := y_7 == 0) rfl (fun hb99 => ?_) (fun hb99 => ?_)
        · have hx21 := ifT hb99 hx21
          refine WO_pure tbok 3 [(0, .slice a_p0 p0.length c_p0), (1, .int .i64 p1), (2, .int .i64 p2), (6, .bool false), (7, .pointer (some ⟨b19, 0, none⟩)), (8, .int .i64 y_6), (9, .int .i64 y_7), (33, .bool true), (36, .bool (decide (p1 < 0)))] rfl ⟨rfl, rfl, rfl, rfl, rfl, rfl, rfl, rfl, rfl, trivial⟩ ?_
          refine WO_split (d := 36) (b := decide (p1 < 0)) rfl (fun hb100 => ?_) (fun hb100 => ?_)
          · have hx21 := ifT hb100 hx21
            refine WO_pure tbok 18 [(0, .slice a_p0 p0.length c_p0), (1, .int .i64 p1), (2, .int .i64 p2), (6, .bool false), (7, .pointer (some ⟨b19, 0, none⟩)), (8, .int .i64 y_6), (9, .int .i64 y_7), (54, .bool true)] rfl ⟨rfl, rfl, rfl, rfl, rfl, rfl, rfl, rfl, trivial⟩ ?_
            refine WO_end ?_
            cases hx21
            refine WK.sub ?_ (WK.cls (fun _ h => h) hk22)
            exact ⟨rfl, rfl, rfl, rfl, rfl, rfl, rfl, rfl, trivial⟩
          · have hx21 := ifF hb100 hx21
            refine WO_pure tbok 6 [(0, .slice a_p0 p0.length c_p0), (1, .int .i64 p1), (2, .int .i64 p2), (6, .bool false), (7, .pointer (some ⟨b19, 0, none⟩)), (8, .int .i64 y_6), (9, .int .i64 y_7), (33, .bool true), (42, .bool (decide ((p0.length : Int) ≤ p1)))] rfl ⟨rfl, rfl, rfl, rfl, rfl, rfl, rfl, rfl, rfl, trivial⟩ ?_
            refine WO_split (d := 42) (b := decide ((p0.length : Int) ≤ p1)) rfl (fun hb101 => ?_) (fun hb101 => ?_)
            · have hx21 := ifT hb101 hx21
              refine WO_pure tbok 12 [(0, .slice a_p0 p0.length c_p0), (1, .int .i64 p1), (2, .int .i64 p2), (6, .bool false), (7, .pointer (some ⟨b19, 0, none⟩)), (8, .int .i64 y_6), (9, .int .i64 y_7), (54, .bool true)] rfl ⟨rfl, rfl, rfl, rfl, rfl, rfl, rfl, rfl, trivial⟩ ?_
              refine WO_end ?_
              cases hx21
              refine WK.sub ?_ (WK.cls (fun _ h => h) hk22)
              exact ⟨rfl, rfl, rfl, rfl, rfl, rfl, rfl, rfl, trivial⟩
            · have hx21 := ifF hb101 hx21
              refine WO_pure tbok 4 [(0, .slice a_p0 p0.length c_p0), (1, .int .i64 p1), (2, .int .i64 p2), (6, .bool false), (7, .pointer (some ⟨b19, 0, none⟩)), (8, .int .i64 y_6), (9, .int .i64 y_7), (33, .bool true), (46, .bool (decide (p2 < 0)))] rfl ⟨rfl, rfl, rfl, rfl, rfl, rfl, rfl, rfl, rfl, trivial⟩ ?_
              refine WO_split (d := 46) (b := decide (p2 < 0)) rfl (fun hb102 => ?_) (fun hb102 => ?_)
              · have hx21 := ifT hb102 hx21
                refine WO_pure tbok 8 [(0, .slice a_p0 p0.length c_p0), (1, .int .i64 p1), (2, .int .i64 p2), (6, .bool false), (7, .pointer (some ⟨b19, 0, none⟩)), (8, .int .i64 y_6), (9, .int .i64 y_7), (54, .bool true)] rfl ⟨rfl, rfl, rfl, rfl, rfl, rfl, rfl, rfl, trivial⟩ ?_
                refine WO_end ?_
                cases hx21
                refine WK.sub ?_ (WK.cls (fun _ h => h) hk22)
                exact ⟨rfl, rfl, rfl, rfl, rfl, rfl, rfl, rfl, trivial⟩
              · have hx21 := ifF hb102 hx21
                refine WO_pure tbok 2 [(0, .slice a_p0 p0.length c_p0), (1, .int .i64 p1), (2, .int .i64 p2), (6, .bool false), (7, .pointer (some ⟨b19, 0, none⟩)), (8, .int .i64 y_6), (9, .int .i64 y_7), (33, .bool true), (46, .bool false), (47, .int .i64 p2), (48, .slice a_p0 p0.length c_p0)] rfl ⟨rfl, rfl, rfl, rfl, rfl, rfl, rfl, rfl, rfl, rfl, rfl, trivial⟩ ?_
                obtain ⟨v_30, hy103, hx21⟩ := bind_some hx21
                obtain ⟨hc104, hy103⟩ := ix_some hy103
                refine WO_index tbok rfl rfl rfl rfl rfl rfl rfl rfl (SlR.addr (h_p0.mono (mono_RowE (mono_FE _) _) hle16)) hc104 ?_
                refine WO_loadR tbok rfl rfl rfl rfl (fun _ h => St.sat h) (h_p0.mono (mono_RowE (mono_FE _) _) hle16) hy103 rfl rfl (fun a105 c106 h107 => ?_)
                refine WO_pure tbok 4 [(0, .slice a_p0 p0.length c_p0), (1, .int .i64 p1), (2, .int .i64 p2), (6, .bool false), (7, .pointer (some ⟨b19, 0, none⟩)), (8, .int .i64 y_6), (9, .int .i64 y_7), (54, .bool (decide (((v_30).length : Int) ≤ p2)))] rfl ⟨rfl, rfl, rfl, rfl, rfl, rfl, rfl, rfl, trivial⟩ ?_
                refine WO_end ?_
                cases hx21
                refine WK.sub ?_ (WK.cls (fun _ h => h) hk22)
                exact ⟨rfl, rfl, rfl, rfl, rfl, rfl, rfl, rfl, trivial⟩
        · have hx21 := ifF hb99 hx21
          refine WO_pure tbok 21 [(0, .slice a_p0 p0.length c_p0), (1, .int .i64 p1), (2, .int .i64 p2), (6, .bool false), (7, .pointer (some ⟨b19, 0, none⟩)), (8, .int .i64 y_6), (9, .int .i64 y_7), (54, .bool false)] rfl ⟨rfl, rfl, rfl, rfl, rfl, rfl, rfl, rfl, trivial⟩ ?_
          refine WO_end ?_
          cases hx21
          refine WK.sub ?_ (WK.cls (fun _ h => h) hk22)
          exact ⟨rfl, rfl, rfl, rfl, rfl, rfl, rfl, rfl, trivial⟩
end Go.Proofs.Ytomlpofoaokmdaa
