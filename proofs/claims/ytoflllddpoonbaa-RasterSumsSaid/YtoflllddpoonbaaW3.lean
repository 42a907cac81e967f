import Derived.Test.YtoflllddpoonbaaTab
import Derived.Test.YtoflllddpoonbaaM
import Derived.Test.YtoflllddpoonbaaW2
set_option linter.unusedVariables false
set_option maxRecDepth 100000
set_option maxHeartbeats 4000000
namespace Go.Proofs.Ytoflllddpoonbaa
open Go.E Go.RowKit
attribute [local irreducible] Go.E.WO Go.E.WK
theorem fiduciallaw13_RasterHistograms_walk {m : Mu} {p0_0 : Int} {p0_1 : Int} {p0_2 : Int} {p0_3 : List Int} {a_p0_3 : Option Addr} {q_p0_3 c_p0_3 : Nat} (h_p0_3 : SlR (FE (I1 .i64)) 1 m (.slice a_p0_3 q_p0_3 c_p0_3) p0_3) {r : Bool} (hm : fiduciallaw13_RasterHistograms p0_0 p0_1 p0_2 p0_3 = some r) :
    Go.E.Spec Try.prog 5 [.agg #[.int .i64 p0_0, .int .i64 p0_1, .int .i64 p0_2, .slice a_p0_3 q_p0_3 c_p0_3]] m (fun v _ _ => v = .bool r) := by
  refine Spec_enter Try.func5 rfl rfl rfl (fun w0 => ?_)
  refine WK.sub (e' := [(0, .agg #[.int .i64 p0_0, .int .i64 p0_1, .int .i64 p0_2, .slice a_p0_3 q_p0_3 c_p0_3])]) ⟨rfl, trivial⟩ ?_
  obtain rfl := SlR.qlen h_p0_3
  refine WK.sub (e' := [(0, .agg #[.int .i64 p0_0, .int .i64 p0_1, .int .i64 p0_2, .slice a_p0_3 p0_3.length c_p0_3])]) ⟨rfl, trivial⟩ ?_
  unfold fiduciallaw13_RasterHistograms at hm
  refine WK_seq ?_
  refine WK_region ?_
  refine WO_box [.int .i64 p0_0, .int .i64 p0_1, .int .i64 p0_2, .slice a_p0_3 p0_3.length c_p0_3] rfl rfl trivial rfl rfl rfl (fun b2 => ?_)
  refine WO.cls (C' := St w0 m m [[⟨b2, 24, [.int .i64 p0_0, .int .i64 p0_1, .int .i64 p0_2, .slice a_p0_3 p0_3.length c_p0_3]⟩]]) (fun _ h => h) ?_
  refine WO_pure tbok 1 [(1, .pointer (some ⟨b2, 0, none⟩)), (2, .bool false)] rfl ⟨rfl, rfl, trivial⟩ ?_
  refine WO_end ?_
  refine WK_seq ?_
  refine WK_seq ?_
  refine WK_region ?_
  obtain ⟨y3, hc4, hm⟩ := bind_some hm
  refine WO_call0 (.bool y3) rfl rfl trivial rfl rfl rfl rfl St_closed ⟨11, #[], #[], rfl, callable_11, fun w hw => ⟨_, hw.sat, fiduciallaw13_known_walk hc4⟩⟩ ?_
  refine WO_pure tbok 1 [(1, .pointer (some ⟨b2, 0, none⟩)), (2, .bool false), (12, .bool (!y3))] rfl ⟨rfl, rfl, rfl, trivial⟩ ?_
  refine WO_end ?_
  refine WK_cond (b := !y3) rfl (fun hb5 => ?_) (fun hb5 => ?_)
  · have hm := ifT hb5 hm
    refine WK_seq ?_
    refine WK_region ?_
    refine WO_pure tbok 1 [(1, .pointer (some ⟨b2, 0, none⟩)), (2, .bool false)] rfl ⟨rfl, rfl, trivial⟩ ?_
    refine WO_end ?_
    cases hm
    exact WK_ret (ret_out (L := []) (RLc_tmp rfl RLc_nil) (List.nil_sublist _) rfl)
  · have hm := ifF hb5 hm
    refine WK_skip ?_
    refine WK_seq ?_
    refine WK_seq ?_
    obtain ⟨s6, hx7, hm⟩ := bind_some hm
    refine WK_meet [(1, .pointer (some ⟨b2, 0, none⟩)), (2, .bool false), (21, .bool s6)] (St w0 m m [[⟨b2, 24, [.int .i64 p0_0, .int .i64 p0_1, .int .i64 p0_2, .slice a_p0_3 p0_3.length c_p0_3]⟩]]) ?_ (fun hk8 => ?_)
    · refine WK_cond (b := s6) rfl (fun hb9 => ?_) (fun hb9 => ?_)
      · have hm := ifT hb9 hm
        refine WK_seq ?_
        refine WK_region ?_
        refine WO_pure tbok 1 [(1, .pointer (some ⟨b2, 0, none⟩)), (2, .bool true)] rfl ⟨rfl, rfl, trivial⟩ ?_
        refine WO_end ?_
        cases hm
        exact WK_ret (ret_out (L := []) (RLc_tmp rfl RLc_nil) (List.nil_sublist _) rfl)
      · have hm := ifF hb9 hm
        refine WK_skip ?_
        refine WK_seq ?_
        refine WK_region ?_
        refine WO_loadB tbok 0 rfl rfl rfl rfl (fun _ h => h) rfl rfl ?_
        obtain ⟨⟨y10, y11⟩, hc12, hm⟩ := bind_some hm
        refine WO_call1 (raster_Histogram_Q (y10, y11)) rfl rfl trivial rfl rfl rfl rfl ⟨25, #[], #[], rfl, callable_25, fun w hw => ⟨_, hw.sat, raster_Histogram_walk h_p0_3 hc12⟩⟩ (fun v17 L16 hq => ?_)
        obtain ⟨a13, qa13, c14, rfl, hL16⟩ := hq
        obtain rfl := OwnE.qlen hL16
        refine WO.cls (C' := St w0 m m [[⟨b2, 24, [.int .i64 p0_0, .int .i64 p0_1, .int .i64 p0_2, .slice a_p0_3 p0_3.length c_p0_3]⟩], L16]) (fun _ h => h) ?_
        refine WO_pure tbok 5 [(1, .pointer (some ⟨b2, 0, none⟩)), (2, .bool false), (3, .slice a13 ((y10).length) c14), (4, .int .i64 y11)] rfl ⟨rfl, rfl, rfl, rfl, trivial⟩ ?_
        refine WO_end ?_
        refine WK_seq ?_
        refine WK_seq ?_
        refine WK_region ?_
        refine WO_loadB tbok 0 rfl rfl rfl rfl (fun _ h => h) rfl rfl ?_
        obtain ⟨y18, hc19, hm⟩ := bind_some hm
        refine WO_call0 (.int .i64 y18) rfl rfl trivial rfl rfl rfl rfl St_closed ⟨15, #[], #[], rfl, callable_15, fun w hw => ⟨_, hw.sat, fiducialref13_Check_walk h_p0_3 hc19⟩⟩ ?_
        refine WO_pure tbok 1 [(1, .pointer (some ⟨b2, 0, none⟩)), (2, .bool false), (3, .slice a13 ((y10).length) c14), (4, .int .i64 y11), (5, .int .i64 y18)] rfl ⟨rfl, rfl, rfl, rfl, rfl, trivial⟩ ?_
        refine WO_end ?_
        refine WK_seq ?_
        refine WK_region ?_
        refine WO_pure tbok 2 [(1, .pointer (some ⟨b2, 0, none⟩)), (2, .bool false), (3, .slice a13 ((y10).length) c14), (4, .int .i64 y11), (5, .int .i64 y18), (30, .bool (y18 != 0))] rfl ⟨rfl, rfl, rfl, rfl, rfl, rfl, trivial⟩ ?_
        refine WO_end ?_
        refine WK_cond (b := y18 != 0) rfl (fun hb20 => ?_) (fun hb20 => ?_)
        · have hm := ifT hb20 hm
          refine WK_seq ?_
          refine WK_region ?_
          refine WO_pure tbok 4 [(1, .pointer (some ⟨b2, 0, none⟩)), (2, .bool false), (3, .slice a13 ((y10).length) c14), (4, .int .i64 y11), (34, .bool (y11 == y18))] rfl ⟨rfl, rfl, rfl, rfl, rfl, trivial⟩ ?_
          refine WO_split (d := 34) (b := y11 == y18) rfl (fun hb21 => ?_) (fun hb21 => ?_)
          · have hm := ifT hb21 hm
            refine WO_pure tbok 5 [(1, .pointer (some ⟨b2, 0, none⟩)), (2, .bool (((y10).length : Int) == 0)), (3, .slice a13 ((y10).length) c14), (4, .int .i64 y11)] rfl ⟨rfl, rfl, rfl, rfl, trivial⟩ ?_
            refine WO_end ?_
            cases hm
            exact WK_ret (ret_out (L := []) (RLc_tmp rfl RLc_nil) (List.nil_sublist _) rfl)
          · have hm := ifF hb21 hm
            refine WO_pure tbok 5 [(1, .pointer (some ⟨b2, 0, none⟩)), (2, .bool false), (3, .slice a13 ((y10).length) c14), (4, .int .i64 y11)] rfl ⟨rfl, rfl, rfl, rfl, trivial⟩ ?_
            refine WO_end ?_
            cases hm
            exact WK_ret (ret_out (L := []) (RLc_tmp rfl RLc_nil) (List.nil_sublist _) rfl)
        · have hm := ifF hb20 hm
          refine WK_skip ?_
          refine WK_seq ?_
          refine WK_seq ?_
          obtain ⟨s22, hx23, hm⟩ := bind_some hm
          refine WK_meet [(1, .pointer (some ⟨b2, 0, none⟩)), (2, .bool false), (3, .slice a13 ((y10).length) c14), (48, .bool s22)] (St w0 m m [[⟨b2, 24, [.int .i64 p0_0, .int .i64 p0_1, .int .i64 p0_2, .slice a_p0_3 p0_3.length c_p0_3]⟩], L16]) ?_ (fun hk24 => ?_)
          · refine WK_cond (b := s22) rfl (fun hb25 => ?_) (fun hb25 => ?_)
            · have hm := ifT hb25 hm
              refine WK_seq ?_
              refine WK_region ?_
              refine WO_pure tbok 1 [(1, .pointer (some ⟨b2, 0, none⟩)), (2, .bool false), (3, .slice a13 ((y10).length) c14)] rfl ⟨rfl, rfl, rfl, trivial⟩ ?_
              refine WO_end ?_
              cases hm
              exact WK_ret (ret_out (L := []) (RLc_tmp rfl RLc_nil) (List.nil_sublist _) rfl)
            · have hm := ifF hb25 hm
              refine WK_skip ?_
              refine WK_seq ?_
              refine WK_seq ?_
              refine WK_region ?_
              refine WO_pure tbok 3 [(1, .pointer (some ⟨b2, 0, none⟩)), (2, .bool false), (3, .slice a13 ((y10).length) c14), (49, .slice a13 ((y10).length) c14), (50, .int .i64 ((y10).length : Int)), (51, .int .i64 0)] rfl ⟨rfl, rfl, rfl, rfl, rfl, rfl, trivial⟩ ?_
              refine WO_end ?_
              obtain ⟨x27, hx28, hm⟩ := bind_some hm
              refine WK_join (β := Unit × Unit) (fun p => Sum.inr p.1 = x27) (fun p => [(1, .pointer (some ⟨b2, 0, none⟩)), (2, .bool false), (3, .slice a13 ((y10).length) c14)]) (fun p => St w0 m m [[⟨b2, 24, [.int .i64 p0_0, .int .i64 p0_1, .int .i64 p0_2, .slice a_p0_3 p0_3.length c_p0_3]⟩], L16]) ?_ (fun hk29 => ?_)
              · rintro ⟨⟨⟩, ⟨⟩⟩ hq35
                subst hq35
                refine WK.sub (e' := [(1, .pointer (some ⟨b2, 0, none⟩)), (2, .bool false), (3, .slice a13 ((y10).length) c14)]) ⟨rfl, rfl, rfl, trivial⟩ (WK.cls (C' := St w0 m m [[⟨b2, 24, [.int .i64 p0_0, .int .i64 p0_1, .int .i64 p0_2, .slice a_p0_3 p0_3.length c_p0_3]⟩], L16]) (fun _ h => h) ?_)
                refine WK_seq ?_
                refine WK_region ?_
                refine WO_loadB tbok 0 rfl rfl rfl rfl (fun _ h => h) rfl rfl ?_
                obtain ⟨⟨y36, y37, y38, y39, y40⟩, hc41, hm⟩ := bind_some hm
                refine WO_call1 (raster_Turn_Q (y36, y37, y38, y39, y40)) rfl rfl trivial rfl rfl rfl rfl ⟨13, #[], #[], rfl, callable_13, fun w hw => ⟨_, hw.sat, raster_Turn_walk h_p0_3 hc41⟩⟩ (fun v46 L45 hq => ?_)
                obtain ⟨a42, qa42, c43, rfl, hL45⟩ := hq
                obtain rfl := OwnE.qlen hL45
                refine WO.cls (C' := St w0 m m [[⟨b2, 24, [.int .i64 p0_0, .int .i64 p0_1, .int .i64 p0_2, .slice a_p0_3 p0_3.length c_p0_3]⟩], L16, L45]) (fun _ h => h) ?_
                refine WO_pure tbok 3 [(2, .bool false), (3, .slice a13 ((y10).length) c14), (65, .agg #[.int .i64 y36, .int .i64 y37, .int .i64 y38, .slice a42 ((y39).length) c43]), (66, .int .i64 y40)] rfl ⟨rfl, rfl, rfl, rfl, trivial⟩ ?_
                refine WO_alloc tbok [.int .i64 0, .int .i64 0, .int .i64 0, .slice none 0 0] rfl rfl trivial rfl rfl rfl rfl (fun b47 => ?_)
                refine WO.cls (C' := St w0 m m [[⟨b2, 24, [.int .i64 p0_0, .int .i64 p0_1, .int .i64 p0_2, .slice a_p0_3 p0_3.length c_p0_3]⟩], L16, L45, [⟨b47, 24, [.int .i64 0, .int .i64 0, .int .i64 0, .slice none 0 0]⟩]]) (fun _ h => h) ?_
                refine WO_storeB tbok 3 [.int .i64 y36, .int .i64 y37, .int .i64 y38, .slice a42 ((y39).length) c43] rfl rfl rfl rfl rfl rfl rfl ?_
                refine WO.cls (C' := St w0 m m [[⟨b2, 24, [.int .i64 p0_0, .int .i64 p0_1, .int .i64 p0_2, .slice a_p0_3 p0_3.length c_p0_3]⟩], L16, L45, [⟨b47, 24, [.int .i64 y36, .int .i64 y37, .int .i64 y38, .slice a42 ((y39).length) c43]⟩]]) (fun _ h => h) ?_
                refine WO_pure tbok 1 [(2, .bool false), (3, .slice a13 ((y10).length) c14), (8, .pointer (some ⟨b47, 0, none⟩)), (9, .int .i64 y40)] rfl ⟨rfl, rfl, rfl, rfl, trivial⟩ ?_
                refine WO_end ?_
                refine WK_seq ?_
                refine WK_region ?_
                refine WO_loadB tbok 3 rfl rfl rfl rfl (fun _ h => h) rfl rfl ?_
                obtain ⟨⟨y48, y49⟩, hc50, hm⟩ := bind_some hm
                refine WO_call1 (raster_Histogram_Q (y48, y49)) rfl rfl trivial rfl rfl rfl rfl ⟨25, #[], #[], rfl, callable_25, fun w hw => ⟨_, hw.satV, raster_Histogram_walk (OwnE.rd (E := (I1 .i64)) (k := 1) (fun _ => rfl) hL45 (fun _ hx => hw.memV (i := 2) rfl hx)) hc50⟩⟩ (fun v55 L54 hq => ?_)
                obtain ⟨a51, qa51, c52, rfl, hL54⟩ := hq
                obtain rfl := OwnE.qlen hL54
                refine WO.cls (C' := St w0 m m [[⟨b2, 24, [.int .i64 p0_0, .int .i64 p0_1, .int .i64 p0_2, .slice a_p0_3 p0_3.length c_p0_3]⟩], L16, L45, [⟨b47, 24, [.int .i64 y36, .int .i64 y37, .int .i64 y38, .slice a42 ((y39).length) c43]⟩], L54]) (fun _ h => h) ?_
                refine WO_pure tbok 5 [(2, .bool false), (3, .slice a13 ((y10).length) c14), (4, .int .i64 y49), (9, .int .i64 y40), (10, .slice a51 ((y48).length) c52)] rfl ⟨rfl, rfl, rfl, rfl, rfl, trivial⟩ ?_
                refine WO_end ?_
                refine WK_seq ?_
                refine WK_region ?_
                refine WO_pure tbok 3 [(2, .bool false), (3, .slice a13 ((y10).length) c14), (4, .int .i64 y49), (10, .slice a51 ((y48).length) c52), (74, .bool (y40 == 0))] rfl ⟨rfl, rfl, rfl, rfl, rfl, trivial⟩ ?_
                refine WO_split (d := 74) (b := y40 == 0) rfl (fun hb56 => ?_) (fun hb56 => ?_)
                · have hm := ifT hb56 hm
                  refine WO_pure tbok 4 [(2, .bool false), (3, .slice a13 ((y10).length) c14), (10, .slice a51 ((y48).length) c52), (78, .bool (y49 == 0))] rfl ⟨rfl, rfl, rfl, rfl, trivial⟩ ?_
                  refine WO_split (d := 78) (b := y49 == 0) rfl (fun hb57 => ?_) (fun hb57 => ?_)
                  · have hm := ifT hb57 hm
                    refine WO_pure tbok 2 [(2, .bool false), (78, .bool true), (79, .slice a51 ((y48).length) c52), (80, .slice a13 ((y10).length) c14)] rfl ⟨rfl, rfl, rfl, rfl, trivial⟩ ?_
                    obtain ⟨y58, hc59, hm⟩ := bind_some hm
                    refine WO_call0 (.bool y58) rfl rfl trivial rfl rfl rfl rfl St_closed ⟨27, #[], #[], rfl, callable_27, fun w hw => ⟨_, hw.satV, slices_Equal_sint_walk (OwnE.rd (E := (I1 .i64)) (k := 1) (fun _ => rfl) hL54 (fun _ hx => hw.memV (i := 4) rfl hx)) (OwnE.rd (E := (I1 .i64)) (k := 1) (fun _ => rfl) hL16 (fun _ hx => hw.memV (i := 1) rfl hx)) hc59⟩⟩ ?_
                    refine WO_pure tbok 2 [(2, .bool y58)] rfl ⟨rfl, trivial⟩ ?_
                    refine WO_end ?_
                    cases hm
                    exact WK_ret (ret_out (L := []) (RLc_tmp rfl RLc_nil) (List.nil_sublist _) rfl)
                  · have hm := ifF hb57 hm
                    refine WO_pure tbok 2 [(2, .bool false), (78, .bool false)] rfl ⟨rfl, rfl, trivial⟩ ?_
                    refine WO_skip rfl rfl ?_
                    refine WO_pure tbok 2 [(2, .bool false)] rfl ⟨rfl, trivial⟩ ?_
                    refine WO_end ?_
                    cases hm
                    exact WK_ret (ret_out (L := []) (RLc_tmp rfl RLc_nil) (List.nil_sublist _) rfl)
                · have hm := ifF hb56 hm
                  refine WO_pure tbok 6 [(2, .bool false), (78, .bool false)] rfl ⟨rfl, rfl, trivial⟩ ?_
                  refine WO_skip rfl rfl ?_
                  refine WO_pure tbok 2 [(2, .bool false)] rfl ⟨rfl, trivial⟩ ?_
                  refine WO_end ?_
                  cases hm
                  exact WK_ret (ret_out (L := []) (RLc_tmp rfl RLc_nil) (List.nil_sublist _) rfl)
              · refine WK_block ?_
                refine WK_loop (S := Int) (G := Unit) (fun s => fiduciallaw13_RasterHistograms_s1 p0_0 p0_1 p0_2 p0_3 y10 s) (fun s g => [(1, .pointer (some ⟨b2, 0, none⟩)), (2, .bool false), (3, .slice a13 ((y10).length) c14), (49, .slice a13 ((y10).length) c14), (50, .int .i64 ((y10).length : Int)), (51, .int .i64 s)]) (fun s g => St w0 m m [[⟨b2, 24, [.int .i64 p0_0, .int .i64 p0_1, .int .i64 p0_2, .slice a_p0_3 p0_3.length c_p0_3]⟩], L16]) (fun s g => True) FUEL 0 () x27 hx28 trivial ⟨rfl, rfl, rfl, rfl, rfl, rfl, trivial⟩ (fun _ h => h) ?_
                rintro s26 ⟨⟩ o31 fl32 hm30 - hn33 hd34
                have hm30 : fiduciallaw13_RasterHistograms_s1 p0_0 p0_1 p0_2 p0_3 y10 s26 = some o31 := hm30
                unfold fiduciallaw13_RasterHistograms_s1 at hm30
                refine WK.sub (e' := [(1, .pointer (some ⟨b2, 0, none⟩)), (2, .bool false), (3, .slice a13 ((y10).length) c14), (49, .slice a13 ((y10).length) c14), (50, .int .i64 ((y10).length : Int)), (51, .int .i64 s26)]) ⟨rfl, rfl, rfl, rfl, rfl, rfl, trivial⟩ (WK.cls (C' := St w0 m m [[⟨b2, 24, [.int .i64 p0_0, .int .i64 p0_1, .int .i64 p0_2, .slice a_p0_3 p0_3.length c_p0_3]⟩], L16]) (fun _ h => h) ?_)
                refine WK_seq ?_
                refine WK_region ?_
                refine WO_pure tbok 1 [(1, .pointer (some ⟨b2, 0, none⟩)), (2, .bool false), (3, .slice a13 ((y10).length) c14), (49, .slice a13 ((y10).length) c14), (50, .int .i64 ((y10).length : Int)), (51, .int .i64 s26), (52, .bool (decide (s26 < ((y10).length : Int))))] rfl ⟨rfl, rfl, rfl, rfl, rfl, rfl, rfl, trivial⟩ ?_
                refine WO_end ?_
                refine WK_seq ?_
                refine WK_cond (b := decide (s26 < ((y10).length : Int))) rfl (fun hb60 => ?_) (fun hb60 => ?_)
                · have hm30 := ifT hb60 hm30
                  refine WK_skip ?_
                  refine WK_seq ?_
                  refine WK_block ?_
                  refine WK_seq ?_
                  refine WK_region ?_
                  refine WO_pure tbok 1 [(1, .pointer (some ⟨b2, 0, none⟩)), (2, .bool false), (3, .slice a13 ((y10).length) c14), (49, .slice a13 ((y10).length) c14), (50, .int .i64 ((y10).length : Int)), (51, .int .i64 s26), (53, .int .i64 s26)] rfl ⟨rfl, rfl, rfl, rfl, rfl, rfl, rfl, trivial⟩ ?_
                  obtain ⟨v61, hy62, hm30⟩ := bind_some hm30
                  obtain ⟨hc63, hy62⟩ := ix_some hy62
                  refine WO_index tbok rfl rfl rfl rfl rfl rfl rfl rfl (OwnE.addr hL16) (by simpa using hc63) ?_
                  refine WO_loadO (E := (I1 .i64)) tbok (fun _ => rfl) 1 rfl rfl rfl rfl (fun _ h => h) hL16 rfl hy62 rfl ?_
                  refine WO_pure tbok 2 [(1, .pointer (some ⟨b2, 0, none⟩)), (2, .bool false), (3, .slice a13 ((y10).length) c14), (6, .int .i64 s26), (7, .int .i64 v61), (49, .slice a13 ((y10).length) c14), (50, .int .i64 ((y10).length : Int)), (51, .int .i64 s26)] rfl ⟨rfl, rfl, rfl, rfl, rfl, rfl, rfl, rfl, trivial⟩ ?_
                  refine WO_end ?_
                  refine WK_seq ?_
                  refine WK_region ?_
                  refine WO_pure tbok 1 [(1, .pointer (some ⟨b2, 0, none⟩)), (2, .bool false), (3, .slice a13 ((y10).length) c14), (6, .int .i64 s26), (49, .slice a13 ((y10).length) c14), (50, .int .i64 ((y10).length : Int)), (51, .int .i64 s26), (56, .int .i64 v61)] rfl ⟨rfl, rfl, rfl, rfl, rfl, rfl, rfl, rfl, trivial⟩ ?_
                  refine WO_loadB tbok 0 rfl rfl rfl rfl (fun _ h => h) rfl rfl ?_
                  refine WO_pure tbok 1 [(1, .pointer (some ⟨b2, 0, none⟩)), (2, .bool false), (3, .slice a13 ((y10).length) c14), (49, .slice a13 ((y10).length) c14), (50, .int .i64 ((y10).length : Int)), (51, .int .i64 s26), (56, .int .i64 v61), (57, .agg #[.int .i64 p0_0, .int .i64 p0_1, .int .i64 p0_2, .slice a_p0_3 p0_3.length c_p0_3]), (58, .int .i64 s26)] rfl ⟨rfl, rfl, rfl, rfl, rfl, rfl, rfl, rfl, rfl, trivial⟩ ?_
                  obtain ⟨y64, hc65, hm30⟩ := bind_some hm30
                  refine WO_call0 (.int .i64 y64) rfl rfl trivial rfl rfl rfl rfl St_closed ⟨26, #[], #[], rfl, callable_26, fun w hw => ⟨_, hw.sat, fiducialref13_Count_walk h_p0_3 hc65⟩⟩ ?_
                  refine WO_pure tbok 1 [(1, .pointer (some ⟨b2, 0, none⟩)), (2, .bool false), (3, .slice a13 ((y10).length) c14), (49, .slice a13 ((y10).length) c14), (50, .int .i64 ((y10).length : Int)), (51, .int .i64 s26), (60, .bool (v61 != y64))] rfl ⟨rfl, rfl, rfl, rfl, rfl, rfl, rfl, trivial⟩ ?_
                  refine WO_end ?_
                  refine WK_cond (b := v61 != y64) rfl (fun hb66 => ?_) (fun hb66 => ?_)
                  · have hm30 := ifT hb66 hm30
                    refine WK_seq ?_
                    refine WK_region ?_
                    refine WO_pure tbok 1 [(1, .pointer (some ⟨b2, 0, none⟩)), (2, .bool false), (3, .slice a13 ((y10).length) c14), (49, .slice a13 ((y10).length) c14), (50, .int .i64 ((y10).length : Int)), (51, .int .i64 s26)] rfl ⟨rfl, rfl, rfl, rfl, rfl, rfl, trivial⟩ ?_
                    refine WO_end ?_
                    cases hm30
                    have hq := hd34 _ rfl
                    subst hq
                    have hm : some _ = some _ := hm
                    cases hm
                    exact WK_ret (ret_out (L := []) (RLc_tmp rfl RLc_nil) (List.nil_sublist _) rfl)
                  · have hm30 := ifF hb66 hm30
                    refine WK_skip ?_
                    refine WK_blk ?_
                    refine WK_region ?_
                    refine WO_pure tbok 2 [(1, .pointer (some ⟨b2, 0, none⟩)), (2, .bool false), (3, .slice a13 ((y10).length) c14), (49, .slice a13 ((y10).length) c14), (50, .int .i64 ((y10).length : Int)), (51, .int .i64 (w64 (s26 + 1)))] rfl ⟨rfl, rfl, rfl, rfl, rfl, rfl, trivial⟩ ?_
                    refine WO_end ?_
                    cases hm30
                    refine WK.sub ?_ (WK.cls (fun _ h => h) (hn33 _ () rfl trivial))
                    exact ⟨rfl, rfl, rfl, rfl, rfl, rfl, trivial⟩
                · have hm30 := ifF hb60 hm30
                  refine WK_exit rfl ?_
                  cases hm30
                  refine WK.sub ?_ (WK.cls (fun _ h => h) (hk29 ((), ()) (hd34 _ rfl)))
                  exact ⟨rfl, rfl, rfl, trivial⟩
          · refine WK_region ?_
            refine WO_pure tbok 3 [(1, .pointer (some ⟨b2, 0, none⟩)), (2, .bool false), (3, .slice a13 ((y10).length) c14), (41, .bool (y11 != 0))] rfl ⟨rfl, rfl, rfl, rfl, trivial⟩ ?_
            refine WO_split (d := 41) (b := y11 != 0) rfl (fun hb67 => ?_) (fun hb67 => ?_)
            · have hx23 := ifT hb67 hx23
              refine WO_pure tbok 7 [(1, .pointer (some ⟨b2, 0, none⟩)), (2, .bool false), (3, .slice a13 ((y10).length) c14), (48, .bool true)] rfl ⟨rfl, rfl, rfl, rfl, trivial⟩ ?_
              refine WO_end ?_
              cases hx23
              refine WK.sub ?_ (WK.cls (fun _ h => h) hk24)
              exact ⟨rfl, rfl, rfl, rfl, trivial⟩
            · have hx23 := ifF hb67 hx23
              refine WO_pure tbok 3 [(1, .pointer (some ⟨b2, 0, none⟩)), (2, .bool false), (3, .slice a13 ((y10).length) c14), (41, .bool false), (43, .int .i64 ((y10).length : Int)), (44, .pointer (some ⟨b2, 2, none⟩))] rfl ⟨rfl, rfl, rfl, rfl, rfl, rfl, trivial⟩ ?_
              refine WO_loadB tbok 0 rfl rfl rfl rfl (fun _ h => h) rfl rfl ?_
              refine WO_pure tbok 3 [(1, .pointer (some ⟨b2, 0, none⟩)), (2, .bool false), (3, .slice a13 ((y10).length) c14), (48, .bool (((y10).length : Int) != (w64 (p0_2 + 1))))] rfl ⟨rfl, rfl, rfl, rfl, trivial⟩ ?_
              refine WO_end ?_
              cases hx23
              refine WK.sub ?_ (WK.cls (fun _ h => h) hk24)
              exact ⟨rfl, rfl, rfl, rfl, trivial⟩
    · refine WK_region ?_
      refine WO_loadB tbok 0 rfl rfl rfl rfl (fun _ h => h) rfl rfl ?_
      refine WO_bsliceX (E := V4) (El := El24) tbok (fun _ => rfl) (by decide) [.agg #[.int .i64 p0_0, .int .i64 p0_1, .int .i64 p0_2, .slice a_p0_3 p0_3.length c_p0_3]] [(.int .i64 p0_0, .int .i64 p0_1, .int .i64 p0_2, .slice a_p0_3 p0_3.length c_p0_3)] ([(p0_0, p0_1, p0_2, p0_3)] : List (Int × Int × Int × List Int)) rfl rfl trivial rfl rfl rfl rfl rfl rfl rfl rfl rfl rfl rfl rfl ⟨⟨_, _, _, rfl, h_p0_3⟩, trivial⟩ (fun b68 hb68 => ?_)
      refine WO.cls (C' := St w0 m m [[⟨b2, 24, [.int .i64 p0_0, .int .i64 p0_1, .int .i64 p0_2, .slice a_p0_3 p0_3.length c_p0_3]⟩], [⟨b68, 24, [.int .i64 p0_0, .int .i64 p0_1, .int .i64 p0_2, .slice a_p0_3 p0_3.length c_p0_3]⟩]]) (fun _ h => h) ?_
      obtain ⟨y70, hc71, hx7⟩ := bind_some hx7
      refine WO_call0 (.bool y70) rfl rfl trivial rfl rfl rfl rfl St_closed ⟨12, #[], #[], rfl, callable_12, fun w hw => ⟨_, hw.satV, fiduciallaw13_few_walk (OwnX.rd (E := V4) (k := 4) (fun _ => rfl) hb68 mono_El24 hw.leV (fun _ hx => hw.memV (i := 1) rfl hx)) hc71⟩⟩ ?_
      refine WO_pure tbok 2 [(1, .pointer (some ⟨b2, 0, none⟩)), (2, .bool false), (17, .bool (!y70))] rfl ⟨rfl, rfl, rfl, trivial⟩ ?_
      refine WO_split (d := 17) (b := !y70) rfl (fun hb72 => ?_) (fun hb72 => ?_)
      · have hx7 := ifT hb72 hx7
        refine WO_pure tbok 4 [(1, .pointer (some ⟨b2, 0, none⟩)), (2, .bool false), (21, .bool true)] rfl ⟨rfl, rfl, rfl, trivial⟩ ?_
        refine WO_end ?_
        cases hx7
        refine WK.sub ?_ (WK.cls (fun _ h => St.take 1 h) hk8)
        exact ⟨rfl, rfl, rfl, trivial⟩
      · have hx7 := ifF hb72 hx7
        refine WO_pure tbok 1 [(1, .pointer (some ⟨b2, 0, none⟩)), (2, .bool false), (17, .bool false), (18, .pointer (some ⟨b2, 2, none⟩))] rfl ⟨rfl, rfl, rfl, rfl, trivial⟩ ?_
        refine WO_loadB tbok 0 rfl rfl rfl rfl (fun _ h => h) rfl rfl ?_
        refine WO_pure tbok 2 [(1, .pointer (some ⟨b2, 0, none⟩)), (2, .bool false), (21, .bool (decide (600 < p0_2)))] rfl ⟨rfl, rfl, rfl, trivial⟩ ?_
        refine WO_end ?_
        cases hx7
        refine WK.sub ?_ (WK.cls (fun _ h => St.take 1 h) hk8)
        exact ⟨rfl, rfl, rfl, trivial⟩
theorem raster_Map_c1_walk {m : Mu} {p0 : Int} {q0_0 : Int} {q0_1 : Int} {q0_2 : Int} {q0_3 : List Int} {a_q0_3 : Option Addr} {q_q0_3 c_q0_3 : Nat} {b_q0 : Nat} (hb_q0 : m b_q0 = some (Ent.obj ⟨b_q0, 24, [.int .i64 q0_0, .int .i64 q0_1, .int .i64 q0_2, .slice a_q0_3 q_q0_3 c_q0_3]⟩)) (h_q0_3 : SlR (FE (I1 .i64)) 1 m (.slice a_q0_3 q_q0_3 c_q0_3) q0_3) {r : Bool} (hm : raster_Map_c1 p0 q0_0 q0_1 q0_2 q0_3 = some r) :
    Go.E.Spec Try.prog 55 [.int .i64 p0, .pointer (some ⟨b_q0, 0, none⟩)] m (fun v _ _ => v = .bool r) := by
  refine Spec_enter Try.func55 rfl rfl rfl (fun w0 => ?_)
  refine WK.sub (e' := [(0, .int .i64 p0), (1, .pointer (some ⟨b_q0, 0, none⟩))]) ⟨rfl, rfl, trivial⟩ ?_
  obtain rfl := SlR.qlen h_q0_3
  refine WK.sub (e' := [(0, .int .i64 p0), (1, .pointer (some ⟨b_q0, 0, none⟩))]) ⟨rfl, rfl, trivial⟩ ?_
  unfold raster_Map_c1 at hm
  refine WK_seq ?_
  refine WK_region ?_
  refine WO_pure tbok 1 [(0, .int .i64 p0), (1, .pointer (some ⟨b_q0, 0, none⟩)), (3, .bool false)] rfl ⟨rfl, rfl, rfl, trivial⟩ ?_
  refine WO_end ?_
  refine WK_seq ?_
  refine WK_region ?_
  refine WO_pure tbok 3 [(0, .int .i64 p0), (1, .pointer (some ⟨b_q0, 0, none⟩)), (3, .bool false), (6, .bool (decide (p0 < 0)))] rfl ⟨rfl, rfl, rfl, rfl, trivial⟩ ?_
  refine WO_split (d := 6) (b := decide (p0 < 0)) rfl (fun hb2 => ?_) (fun hb2 => ?_)
  · have hm := ifT hb2 hm
    refine WO_pure tbok 6 [(3, .bool true)] rfl ⟨rfl, trivial⟩ ?_
    refine WO_end ?_
    cases hm
    exact WK_ret (ret_out (L := []) (RLc_tmp rfl RLc_nil) (List.nil_sublist _) rfl)
  · have hm := ifF hb2 hm
    refine WO_pure tbok 2 [(3, .bool false), (6, .bool false), (7, .int .i64 p0), (8, .pointer (some ⟨b_q0, 2, none⟩))] rfl ⟨rfl, rfl, rfl, rfl, trivial⟩ ?_
    refine WO_loadM tbok rfl rfl rfl rfl (fun _ h => St.sat h) hb_q0 rfl ?_
    refine WO_pure tbok 3 [(3, .bool (decide (q0_2 < p0)))] rfl ⟨rfl, trivial⟩ ?_
    refine WO_end ?_
    cases hm
    exact WK_ret (ret_out (L := []) (RLc_tmp rfl RLc_nil) (List.nil_sublist _) rfl)
theorem raster_Map_c2_walk {m : Mu} {p0 : Int} {p1 : Int} {q0_0 : List Int} {q1_0 : Int} {q1_1 : Int} {q1_2 : Int} {q1_3 : List Int} {a_q0_0 : Option Addr} {q_q0_0 c_q0_0 : Nat} {b_q0 : Nat} {a_q1_3 : Option Addr} {q_q1_3 c_q1_3 : Nat} {b_q1 : Nat} (hb_q0 : m b_q0 = some (Ent.obj ⟨b_q0, 22, [.slice a_q0_0 q_q0_0 c_q0_0]⟩)) (h_q0_0 : SlR (FE (I1 .i64)) 1 m (.slice a_q0_0 q_q0_0 c_q0_0) q0_0) (hb_q1 : m b_q1 = some (Ent.obj ⟨b_q1, 24, [.int .i64 q1_0, .int .i64 q1_1, .int .i64 q1_2, .slice a_q1_3 q_q1_3 c_q1_3]⟩)) (h_q1_3 : SlR (FE (I1 .i64)) 1 m (.slice a_q1_3 q_q1_3 c_q1_3) q1_3) {r : Int} (hm : raster_Map_c2 p0 p1 q0_0 q1_0 q1_1 q1_2 q1_3 = some r) :
    Go.E.Spec Try.prog 56 [.int .i64 p0, .int .i64 p1, .pointer (some ⟨b_q0, 0, none⟩), .pointer (some ⟨b_q1, 0, none⟩)] m (fun v _ _ => v = .int .i64 r) := by
  refine Spec_enter Try.func56 rfl rfl rfl (fun w0 => ?_)
  refine WK.sub (e' := [(0, .int .i64 p0), (1, .int .i64 p1), (2, .pointer (some ⟨b_q0, 0, none⟩)), (3, .pointer (some ⟨b_q1, 0, none⟩))]) ⟨rfl, rfl, rfl, rfl, trivial⟩ ?_
  obtain rfl := SlR.qlen h_q0_0
  obtain rfl := SlR.qlen h_q1_3
  refine WK.sub (e' := [(0, .int .i64 p0), (1, .int .i64 p1), (2, .pointer (some ⟨b_q0, 0, none⟩)), (3, .pointer (some ⟨b_q1, 0, none⟩))]) ⟨rfl, rfl, rfl, rfl, trivial⟩ ?_
  unfold raster_Map_c2 at hm
  refine WK_seq ?_
  refine WK_region ?_
  refine WO_pure tbok 1 [(0, .int .i64 p0), (1, .int .i64 p1), (2, .pointer (some ⟨b_q0, 0, none⟩)), (3, .pointer (some ⟨b_q1, 0, none⟩)), (6, .int .i64 0)] rfl ⟨rfl, rfl, rfl, rfl, rfl, trivial⟩ ?_
  refine WO_end ?_
  refine WK_seq ?_
  refine WK_draw 8 [0, 1, 2, 3, 4, 5, 6, 7] follows_ok (by kernel_rfl) St_closed ?_
  refine WO_loadM tbok rfl rfl rfl rfl (fun _ h => St.sat h) hb_q0 rfl ?_
  refine WO_loadM tbok rfl rfl rfl rfl (fun _ h => St.sat h) hb_q1 rfl ?_
  refine WO_pure tbok 2 [(6, .int .i64 0), (7, .slice a_q0_0 q0_0.length c_q0_0), (8, .agg #[.int .i64 q1_0, .int .i64 q1_1, .int .i64 q1_2, .slice a_q1_3 q1_3.length c_q1_3]), (9, .int .i64 p0), (10, .int .i64 p1)] rfl ⟨rfl, rfl, rfl, rfl, rfl, trivial⟩ ?_
  obtain ⟨y3, hc4, hm⟩ := bind_some hm
  refine WO_call0 (.int .i64 y3) rfl rfl St_closed rfl rfl rfl rfl St_closed ⟨50, #[], #[], rfl, callable_50, fun w hw => ⟨_, hw.sat, raster_at_walk h_q1_3 hc4⟩⟩ ?_
  obtain ⟨v5, hy6, hm⟩ := bind_some hm
  obtain ⟨hc7, hy6⟩ := ix_some hy6
  refine WO_index tbok rfl rfl rfl rfl rfl rfl rfl rfl (SlR.addr h_q0_0) hc7 ?_
  refine WO_loadE tbok rfl rfl rfl rfl (fun _ h => St.sat h) h_q0_0 hy6 rfl ?_
  refine WO_pure tbok 1 [(6, .int .i64 v5)] rfl ⟨rfl, trivial⟩ ?_
  refine WO_tail ?_
  refine WO_end ?_
  cases hm
  exact WK_ret (ret_out (L := []) (RLc_tmp rfl RLc_nil) (List.nil_sublist _) rfl)
def raster_Map_Q (r : Int × Int × Int × List Int × Int) : Value → List Ent → Prop := fun v L => ∃ (a0 : Option Addr) (q0 c0 : Nat), v = .tuple #[.agg #[.int .i64 r.1, .int .i64 r.2.1, .int .i64 r.2.2.1, .slice a0 q0 c0], .int .i64 r.2.2.2.2] ∧ OwnE 3 1 (I1 .i64) (.slice a0 q0 c0) r.2.2.2.1 L
theorem raster_Map_walk {m : Mu} {p0_0 : Int} {p0_1 : Int} {p0_2 : Int} {p0_3 : List Int} {p1 : List Int} {a_p0_3 : Option Addr} {q_p0_3 c_p0_3 : Nat} {a_p1 : Option Addr} {q_p1 c_p1 : Nat} (h_p0_3 : SlR (FE (I1 .i64)) 1 m (.slice a_p0_3 q_p0_3 c_p0_3) p0_3) (h_p1 : SlR (FE (I1 .i64)) 1 m (.slice a_p1 q_p1 c_p1) p1) {r : Int × Int × Int × List Int × Int} (hm : raster_Map p0_0 p0_1 p0_2 p0_3 p1 = some r) :
    Go.E.Spec Try.prog 28 [.agg #[.int .i64 p0_0, .int .i64 p0_1, .int .i64 p0_2, .slice a_p0_3 q_p0_3 c_p0_3], .slice a_p1 q_p1 c_p1] m (fun v _ L => raster_Map_Q r v L) := by
  refine Spec_enter Try.func28 rfl rfl rfl (fun w0 => ?_)
  refine WK.sub (e' := [(0, .agg #[.int .i64 p0_0, .int .i64 p0_1, .int .i64 p0_2, .slice a_p0_3 q_p0_3 c_p0_3]), (1, .slice a_p1 q_p1 c_p1)]) ⟨rfl, rfl, trivial⟩ ?_
  obtain rfl := SlR.qlen h_p0_3
  obtain rfl := SlR.qlen h_p1
  refine WK.sub (e' := [(0, .agg #[.int .i64 p0_0, .int .i64 p0_1, .int .i64 p0_2, .slice a_p0_3 p0_3.length c_p0_3]), (1, .slice a_p1 p1.length c_p1)]) ⟨rfl, rfl, trivial⟩ ?_
  unfold raster_Map at hm
  refine WK_seq ?_
  refine WK_region ?_
  refine WO_box [.int .i64 p0_0, .int .i64 p0_1, .int .i64 p0_2, .slice a_p0_3 p0_3.length c_p0_3] rfl rfl trivial rfl rfl rfl (fun b3 => ?_)
  refine WO.cls (C' := St w0 m m [[⟨b3, 24, [.int .i64 p0_0, .int .i64 p0_1, .int .i64 p0_2, .slice a_p0_3 p0_3.length c_p0_3]⟩]]) (fun _ h => h) ?_
  refine WO_box [.slice a_p1 p1.length c_p1] rfl rfl trivial rfl rfl rfl (fun b4 => ?_)
  refine WO.cls (C' := St w0 m m [[⟨b3, 24, [.int .i64 p0_0, .int .i64 p0_1, .int .i64 p0_2, .slice a_p0_3 p0_3.length c_p0_3]⟩], [⟨b4, 22, [.slice a_p1 p1.length c_p1]⟩]]) (fun _ h => h) ?_
  refine WO_alloc tbok [.int .i64 0, .int .i64 0, .int .i64 0, .slice none 0 0] rfl rfl trivial rfl rfl rfl rfl (fun b5 => ?_)
  refine WO.cls (C' := St w0 m m [[⟨b3, 24, [.int .i64 p0_0, .int .i64 p0_1, .int .i64 p0_2, .slice a_p0_3 p0_3.length c_p0_3]⟩], [⟨b4, 22, [.slice a_p1 p1.length c_p1]⟩], [⟨b5, 24, [.int .i64 0, .int .i64 0, .int .i64 0, .slice none 0 0]⟩]]) (fun _ h => h) ?_
  refine WO_pure tbok 1 [(2, .pointer (some ⟨b3, 0, none⟩)), (3, .pointer (some ⟨b4, 0, none⟩)), (4, .pointer (some ⟨b5, 0, none⟩)), (5, .int .i64 0)] rfl ⟨rfl, rfl, rfl, rfl, trivial⟩ ?_
  refine WO_end ?_
  refine WK_seq ?_
  refine WK_seq ?_
  refine WK_region ?_
  refine WO_loadB tbok 0 rfl rfl rfl rfl (fun _ h => h) rfl rfl ?_
  obtain ⟨y6, hc7, hm⟩ := bind_some hm
  refine WO_call0 (.int .i64 y6) rfl rfl trivial rfl rfl rfl rfl St_closed ⟨20, #[], #[], rfl, callable_20, fun w hw => ⟨_, hw.sat, raster_Check_walk h_p0_3 hc7⟩⟩ ?_
  refine WO_pure tbok 1 [(2, .pointer (some ⟨b3, 0, none⟩)), (3, .pointer (some ⟨b4, 0, none⟩)), (4, .pointer (some ⟨b5, 0, none⟩)), (5, .int .i64 0), (6, .int .i64 y6)] rfl ⟨rfl, rfl, rfl, rfl, rfl, trivial⟩ ?_
  refine WO_end ?_
  refine WK_seq ?_
  refine WK_region ?_
  refine WO_pure tbok 2 [(2, .pointer (some ⟨b3, 0, none⟩)), (3, .pointer (some ⟨b4, 0, none⟩)), (4, .pointer (some ⟨b5, 0, none⟩)), (5, .int .i64 0), (6, .int .i64 y6), (10, .bool (y6 != 0))] rfl ⟨rfl, rfl, rfl, rfl, rfl, rfl, trivial⟩ ?_
  refine WO_end ?_
  refine WK_cond (b := y6 != 0) rfl (fun hb8 => ?_) (fun hb8 => ?_)
  · have hm := ifT hb8 hm
    refine WK_seq ?_
    refine WK_region ?_
    refine WO_pure tbok 2 [(2, .pointer (some ⟨b3, 0, none⟩)), (3, .pointer (some ⟨b4, 0, none⟩)), (4, .pointer (some ⟨b5, 0, none⟩)), (5, .int .i64 0), (11, .agg #[.int .i64 0, .int .i64 0, .int .i64 0, .slice none 0 0]), (12, .int .i64 y6)] rfl ⟨rfl, rfl, rfl, rfl, rfl, rfl, trivial⟩ ?_
    refine WO_storeB tbok 2 [.int .i64 0, .int .i64 0, .int .i64 0, .slice none 0 0] rfl rfl rfl rfl rfl rfl rfl ?_
    refine WO.cls (C' := St w0 m m [[⟨b3, 24, [.int .i64 p0_0, .int .i64 p0_1, .int .i64 p0_2, .slice a_p0_3 p0_3.length c_p0_3]⟩], [⟨b4, 22, [.slice a_p1 p1.length c_p1]⟩], [⟨b5, 24, [.int .i64 0, .int .i64 0, .int .i64 0, .slice none 0 0]⟩]]) (fun _ h => h) ?_
    refine WO_pure tbok 1 [(2, .pointer (some ⟨b3, 0, none⟩)), (3, .pointer (some ⟨b4, 0, none⟩)), (4, .pointer (some ⟨b5, 0, none⟩)), (5, .int .i64 y6)] rfl ⟨rfl, rfl, rfl, rfl, trivial⟩ ?_
    refine WO_end ?_
    cases hm
    exact WK_ret (ret_out (L := []) (RLc_cell tbok 2 rfl rfl rfl (RLc_tmp rfl RLc_nil)) (List.nil_sublist _) ⟨none, 0, 0, rfl, (OwnE.nil none)⟩)
  · have hm := ifF hb8 hm
    refine WK_skip ?_
    refine WK_seq ?_
    refine WK_seq ?_
    refine WK_region ?_
    refine WO_loadB tbok 1 rfl rfl rfl rfl (fun _ h => h) rfl rfl ?_
    refine WO_pure tbok 2 [(2, .pointer (some ⟨b3, 0, none⟩)), (3, .pointer (some ⟨b4, 0, none⟩)), (4, .pointer (some ⟨b5, 0, none⟩)), (5, .int .i64 0), (14, .int .i64 (p1.length : Int)), (15, .pointer (some ⟨b3, 2, none⟩))] rfl ⟨rfl, rfl, rfl, rfl, rfl, rfl, trivial⟩ ?_
    refine WO_loadB tbok 0 rfl rfl rfl rfl (fun _ h => h) rfl rfl ?_
    refine WO_pure tbok 2 [(2, .pointer (some ⟨b3, 0, none⟩)), (3, .pointer (some ⟨b4, 0, none⟩)), (4, .pointer (some ⟨b5, 0, none⟩)), (5, .int .i64 0), (18, .bool ((p1.length : Int) != (w64 (p0_2 + 1))))] rfl ⟨rfl, rfl, rfl, rfl, rfl, trivial⟩ ?_
    refine WO_end ?_
    refine WK_cond (b := (p1.length : Int) != (w64 (p0_2 + 1))) rfl (fun hb9 => ?_) (fun hb9 => ?_)
    · have hm := ifT hb9 hm
      refine WK_seq ?_
      refine WK_region ?_
      refine WO_pure tbok 1 [(2, .pointer (some ⟨b3, 0, none⟩)), (3, .pointer (some ⟨b4, 0, none⟩)), (4, .pointer (some ⟨b5, 0, none⟩)), (5, .int .i64 0), (19, .agg #[.int .i64 0, .int .i64 0, .int .i64 0, .slice none 0 0])] rfl ⟨rfl, rfl, rfl, rfl, rfl, trivial⟩ ?_
      refine WO_storeB tbok 2 [.int .i64 0, .int .i64 0, .int .i64 0, .slice none 0 0] rfl rfl rfl rfl rfl rfl rfl ?_
      refine WO.cls (C' := St w0 m m [[⟨b3, 24, [.int .i64 p0_0, .int .i64 p0_1, .int .i64 p0_2, .slice a_p0_3 p0_3.length c_p0_3]⟩], [⟨b4, 22, [.slice a_p1 p1.length c_p1]⟩], [⟨b5, 24, [.int .i64 0, .int .i64 0, .int .i64 0, .slice none 0 0]⟩]]) (fun _ h => h) ?_
      refine WO_pure tbok 1 [(2, .pointer (some ⟨b3, 0, none⟩)), (3, .pointer (some ⟨b4, 0, none⟩)), (4, .pointer (some ⟨b5, 0, none⟩)), (5, .int .i64 4)] rfl ⟨rfl, rfl, rfl, rfl, trivial⟩ ?_
      refine WO_end ?_
      cases hm
      exact WK_ret (ret_out (L := []) (RLc_cell tbok 2 rfl rfl rfl (RLc_tmp rfl RLc_nil)) (List.nil_sublist _) ⟨none, 0, 0, rfl, (OwnE.nil none)⟩)
    · have hm := ifF hb9 hm
      refine WK_skip ?_
      refine WK_seq ?_
      refine WK_seq ?_
      refine WK_region ?_
      refine WO_loadB tbok 1 rfl rfl rfl rfl (fun _ h => h) rfl rfl ?_
      refine WO_pure tbok 1 [(2, .pointer (some ⟨b3, 0, none⟩)), (3, .pointer (some ⟨b4, 0, none⟩)), (4, .pointer (some ⟨b5, 0, none⟩)), (5, .int .i64 0), (20, .slice a_p1 p1.length c_p1), (21, .func (.func 55) #[] #[.pointer (some ⟨b3, 0, none⟩)])] rfl ⟨rfl, rfl, rfl, rfl, rfl, rfl, trivial⟩ ?_
      obtain ⟨y11, hc12, hm⟩ := bind_some hm
      refine WO_call0 (.bool y11) rfl rfl trivial rfl rfl rfl rfl St_closed ⟨29, #[], #[], rfl, callable_29, fun w hw => ⟨_, hw.satV, slices_ContainsFunc_sint_walk (h_p1.mono (mono_FE _) hw.leV) (fun z10 _ h => specV_cap callable_55 (raster_Map_c1_walk (hw.memV (i := 0) rfl (List.mem_singleton.2 rfl)) (h_p0_3.mono (mono_FE _) hw.leV) h)) hc12⟩⟩ ?_
      refine WO_end ?_
      refine WK_cond (b := y11) rfl (fun hb13 => ?_) (fun hb13 => ?_)
      · have hm := ifT hb13 hm
        refine WK_seq ?_
        refine WK_region ?_
        refine WO_pure tbok 1 [(2, .pointer (some ⟨b3, 0, none⟩)), (3, .pointer (some ⟨b4, 0, none⟩)), (4, .pointer (some ⟨b5, 0, none⟩)), (5, .int .i64 0), (23, .agg #[.int .i64 0, .int .i64 0, .int .i64 0, .slice none 0 0])] rfl ⟨rfl, rfl, rfl, rfl, rfl, trivial⟩ ?_
        refine WO_storeB tbok 2 [.int .i64 0, .int .i64 0, .int .i64 0, .slice none 0 0] rfl rfl rfl rfl rfl rfl rfl ?_
        refine WO.cls (C' := St w0 m m [[⟨b3, 24, [.int .i64 p0_0, .int .i64 p0_1, .int .i64 p0_2, .slice a_p0_3 p0_3.length c_p0_3]⟩], [⟨b4, 22, [.slice a_p1 p1.length c_p1]⟩], [⟨b5, 24, [.int .i64 0, .int .i64 0, .int .i64 0, .slice none 0 0]⟩]]) (fun _ h => h) ?_
        refine WO_pure tbok 1 [(2, .pointer (some ⟨b3, 0, none⟩)), (3, .pointer (some ⟨b4, 0, none⟩)), (4, .pointer (some ⟨b5, 0, none⟩)), (5, .int .i64 2)] rfl ⟨rfl, rfl, rfl, rfl, trivial⟩ ?_
        refine WO_end ?_
        cases hm
        exact WK_ret (ret_out (L := []) (RLc_cell tbok 2 rfl rfl rfl (RLc_tmp rfl RLc_nil)) (List.nil_sublist _) ⟨none, 0, 0, rfl, (OwnE.nil none)⟩)
      · have hm := ifF hb13 hm
        refine WK_skip ?_
        refine WK_seq ?_
        refine WK_region ?_
        refine WO_pure tbok 1 [(2, .pointer (some ⟨b3, 0, none⟩)), (3, .pointer (some ⟨b4, 0, none⟩)), (4, .pointer (some ⟨b5, 0, none⟩)), (5, .int .i64 0), (24, .pointer (some ⟨b3, 0, none⟩))] rfl ⟨rfl, rfl, rfl, rfl, rfl, trivial⟩ ?_
        refine WO_loadB tbok 0 rfl rfl rfl rfl (fun _ h => h) rfl rfl ?_
        refine WO_pure tbok 1 [(2, .pointer (some ⟨b3, 0, none⟩)), (3, .pointer (some ⟨b4, 0, none⟩)), (4, .pointer (some ⟨b5, 0, none⟩)), (5, .int .i64 0), (25, .int .i64 p0_0), (26, .pointer (some ⟨b3, 1, none⟩))] rfl ⟨rfl, rfl, rfl, rfl, rfl, rfl, trivial⟩ ?_
        refine WO_loadB tbok 0 rfl rfl rfl rfl (fun _ h => h) rfl rfl ?_
        refine WO_pure tbok 1 [(2, .pointer (some ⟨b3, 0, none⟩)), (3, .pointer (some ⟨b4, 0, none⟩)), (4, .pointer (some ⟨b5, 0, none⟩)), (5, .int .i64 0), (25, .int .i64 p0_0), (27, .int .i64 p0_1), (28, .pointer (some ⟨b3, 2, none⟩))] rfl ⟨rfl, rfl, rfl, rfl, rfl, rfl, rfl, trivial⟩ ?_
        refine WO_loadB tbok 0 rfl rfl rfl rfl (fun _ h => h) rfl rfl ?_
        refine WO_pure tbok 1 [(4, .pointer (some ⟨b5, 0, none⟩)), (5, .int .i64 0), (25, .int .i64 p0_0), (27, .int .i64 p0_1), (29, .int .i64 p0_2), (30, .func (.func 56) #[] #[.pointer (some ⟨b4, 0, none⟩), .pointer (some ⟨b3, 0, none⟩)])] rfl ⟨rfl, rfl, rfl, rfl, rfl, rfl, trivial⟩ ?_
        obtain ⟨⟨y16, y17, y18, y19⟩, hc20, hm⟩ := bind_some hm
        refine WO_call1 (raster_made_Q (y16, y17, y18, y19)) rfl rfl trivial rfl rfl rfl rfl ⟨48, #[], #[], rfl, callable_48, fun w hw => ⟨_, hw.satV, raster_made_walk (fun z14 z15 _ h => specV_cap callable_56 (raster_Map_c2_walk (hw.memV (i := 1) rfl (List.mem_singleton.2 rfl)) (h_p1.mono (mono_FE _) hw.leV) (hw.memV (i := 0) rfl (List.mem_singleton.2 rfl)) (h_p0_3.mono (mono_FE _) hw.leV) h)) hc20⟩⟩ (fun v25 L24 hq => ?_)
        obtain ⟨a21, qa21, c22, rfl, hL24⟩ := hq
        obtain rfl := OwnE.qlen hL24
        refine WO.cls (C' := St w0 m m [[⟨b3, 24, [.int .i64 p0_0, .int .i64 p0_1, .int .i64 p0_2, .slice a_p0_3 p0_3.length c_p0_3]⟩], [⟨b4, 22, [.slice a_p1 p1.length c_p1]⟩], [⟨b5, 24, [.int .i64 0, .int .i64 0, .int .i64 0, .slice none 0 0]⟩], L24]) (fun _ h => h) ?_
        refine WO_storeB tbok 2 [.int .i64 y16, .int .i64 y17, .int .i64 y18, .slice a21 ((y19).length) c22] rfl rfl rfl rfl rfl rfl rfl ?_
        refine WO.cls (C' := St w0 m m [[⟨b3, 24, [.int .i64 p0_0, .int .i64 p0_1, .int .i64 p0_2, .slice a_p0_3 p0_3.length c_p0_3]⟩], [⟨b4, 22, [.slice a_p1 p1.length c_p1]⟩], [⟨b5, 24, [.int .i64 y16, .int .i64 y17, .int .i64 y18, .slice a21 ((y19).length) c22]⟩], L24]) (fun _ h => h) ?_
        refine WO_pure tbok 1 [(4, .pointer (some ⟨b5, 0, none⟩)), (5, .int .i64 0)] rfl ⟨rfl, rfl, trivial⟩ ?_
        refine WO_end ?_
        cases hm
        exact WK_ret (ret_out (L := L24) (RLc_cell tbok 2 rfl rfl rfl (RLc_tmp rfl RLc_nil)) (seg_sub 3 rfl) ⟨a21, ((y19).length), c22, rfl, hL24⟩)
theorem fiduciallaw13_RasterMaps_c1_walk {m : Mu} {p0 : Int} {q0_0 : Int} {q0_1 : Int} {q0_2 : Int} {q0_3 : List Int} {a_q0_3 : Option Addr} {q_q0_3 c_q0_3 : Nat} {b_q0 : Nat} (hb_q0 : m b_q0 = some (Ent.obj ⟨b_q0, 24, [.int .i64 q0_0, .int .i64 q0_1, .int .i64 q0_2, .slice a_q0_3 q_q0_3 c_q0_3]⟩)) (h_q0_3 : SlR (FE (I1 .i64)) 1 m (.slice a_q0_3 q_q0_3 c_q0_3) q0_3) {r : Bool} (hm : fiduciallaw13_RasterMaps_c1 p0 q0_0 q0_1 q0_2 q0_3 = some r) :
    Go.E.Spec Try.prog 30 [.int .i64 p0, .pointer (some ⟨b_q0, 0, none⟩)] m (fun v _ _ => v = .bool r) := by
  refine Spec_enter Try.func30 rfl rfl rfl (fun w0 => ?_)
  refine WK.sub (e' := [(0, .int .i64 p0), (1, .pointer (some ⟨b_q0, 0, none⟩))]) ⟨rfl, rfl, trivial⟩ ?_
  obtain rfl := SlR.qlen h_q0_3
  refine WK.sub (e' := [(0, .int .i64 p0), (1, .pointer (some ⟨b_q0, 0, none⟩))]) ⟨rfl, rfl, trivial⟩ ?_
  unfold fiduciallaw13_RasterMaps_c1 at hm
  refine WK_seq ?_
  refine WK_region ?_
  refine WO_pure tbok 1 [(0, .int .i64 p0), (1, .pointer (some ⟨b_q0, 0, none⟩)), (3, .bool false)] rfl ⟨rfl, rfl, rfl, trivial⟩ ?_
  refine WO_end ?_
  refine WK_seq ?_
  refine WK_region ?_
  refine WO_pure tbok 3 [(0, .int .i64 p0), (1, .pointer (some ⟨b_q0, 0, none⟩)), (3, .bool false), (6, .bool (decide (p0 < 0)))] rfl ⟨rfl, rfl, rfl, rfl, trivial⟩ ?_
  refine WO_split (d := 6) (b := decide (p0 < 0)) rfl (fun hb2 => ?_) (fun hb2 => ?_)
  · have hm := ifT hb2 hm
    refine WO_pure tbok 6 [(3, .bool true)] rfl ⟨rfl, trivial⟩ ?_
    refine WO_end ?_
    cases hm
    exact WK_ret (ret_out (L := []) (RLc_tmp rfl RLc_nil) (List.nil_sublist _) rfl)
  · have hm := ifF hb2 hm
    refine WO_pure tbok 2 [(3, .bool false), (6, .bool false), (7, .int .i64 p0), (8, .pointer (some ⟨b_q0, 2, none⟩))] rfl ⟨rfl, rfl, rfl, rfl, trivial⟩ ?_
    refine WO_loadM tbok rfl rfl rfl rfl (fun _ h => St.sat h) hb_q0 rfl ?_
    refine WO_pure tbok 3 [(3, .bool (decide (q0_2 < p0)))] rfl ⟨rfl, trivial⟩ ?_
    refine WO_end ?_
    cases hm
    exact WK_ret (ret_out (L := []) (RLc_tmp rfl RLc_nil) (List.nil_sublist _) rfl)
def fiducialref13_Map_Q (r : Int × Int × Int × List Int) : Value → List Ent → Prop := fun v L => ∃ (a0 : Option Addr) (q0 c0 : Nat), v = .agg #[.int .i64 r.1, .int .i64 r.2.1, .int .i64 r.2.2.1, .slice a0 q0 c0] ∧ OwnE 3 1 (I1 .i64) (.slice a0 q0 c0) r.2.2.2 L
theorem fiducialref13_Map_walk {m : Mu} {p0_0 : Int} {p0_1 : Int} {p0_2 : Int} {p0_3 : List Int} {p1 : List Int} {a_p0_3 : Option Addr} {q_p0_3 c_p0_3 : Nat} {a_p1 : Option Addr} {q_p1 c_p1 : Nat} (h_p0_3 : SlR (FE (I1 .i64)) 1 m (.slice a_p0_3 q_p0_3 c_p0_3) p0_3) (h_p1 : SlR (FE (I1 .i64)) 1 m (.slice a_p1 q_p1 c_p1) p1) {r : Int × Int × Int × List Int} (hm : fiducialref13_Map p0_0 p0_1 p0_2 p0_3 p1 = some r) :
    Go.E.Spec Try.prog 31 [.agg #[.int .i64 p0_0, .int .i64 p0_1, .int .i64 p0_2, .slice a_p0_3 q_p0_3 c_p0_3], .slice a_p1 q_p1 c_p1] m (fun v _ L => fiducialref13_Map_Q r v L) := by
  refine Spec_enter Try.func31 rfl rfl rfl (fun w0 => ?_)
  refine WK.sub (e' := [(0, .agg #[.int .i64 p0_0, .int .i64 p0_1, .int .i64 p0_2, .slice a_p0_3 q_p0_3 c_p0_3]), (1, .slice a_p1 q_p1 c_p1)]) ⟨rfl, rfl, trivial⟩ ?_
  obtain rfl := SlR.qlen h_p0_3
  obtain rfl := SlR.qlen h_p1
  refine WK.sub (e' := [(0, .agg #[.int .i64 p0_0, .int .i64 p0_1, .int .i64 p0_2, .slice a_p0_3 p0_3.length c_p0_3]), (1, .slice a_p1 p1.length c_p1)]) ⟨rfl, rfl, trivial⟩ ?_
  unfold fiducialref13_Map at hm
  refine WK_seq ?_
  refine WK_region ?_
  refine WO_box [.int .i64 p0_0, .int .i64 p0_1, .int .i64 p0_2, .slice a_p0_3 p0_3.length c_p0_3] rfl rfl trivial rfl rfl rfl (fun b3 => ?_)
  refine WO.cls (C' := St w0 m m [[⟨b3, 24, [.int .i64 p0_0, .int .i64 p0_1, .int .i64 p0_2, .slice a_p0_3 p0_3.length c_p0_3]⟩]]) (fun _ h => h) ?_
  refine WO_alloc tbok [.int .i64 0, .int .i64 0, .int .i64 0, .slice none 0 0] rfl rfl trivial rfl rfl rfl rfl (fun b4 => ?_)
  refine WO.cls (C' := St w0 m m [[⟨b3, 24, [.int .i64 p0_0, .int .i64 p0_1, .int .i64 p0_2, .slice a_p0_3 p0_3.length c_p0_3]⟩], [⟨b4, 24, [.int .i64 0, .int .i64 0, .int .i64 0, .slice none 0 0]⟩]]) (fun _ h => h) ?_
  refine WO_end ?_
  refine WK_seq ?_
  refine WK_region ?_
  refine WO_loadB tbok 0 rfl rfl rfl rfl (fun _ h => h) rfl rfl ?_
  obtain ⟨⟨y5, y6, y7, y8⟩, hc9, hm⟩ := bind_some hm
  refine WO_call1 (fiducialref13_Copy_Q (y5, y6, y7, y8)) rfl rfl trivial rfl rfl rfl rfl ⟨22, #[], #[], rfl, callable_22, fun w hw => ⟨_, hw.sat, fiducialref13_Copy_walk h_p0_3 hc9⟩⟩ (fun v14 L13 hq => ?_)
  obtain ⟨a10, qa10, c11, rfl, hL13⟩ := hq
  obtain rfl := OwnE.qlen hL13
  refine WO.cls (C' := St w0 m m [[⟨b3, 24, [.int .i64 p0_0, .int .i64 p0_1, .int .i64 p0_2, .slice a_p0_3 p0_3.length c_p0_3]⟩], [⟨b4, 24, [.int .i64 0, .int .i64 0, .int .i64 0, .slice none 0 0]⟩], L13]) (fun _ h => h) ?_
  refine WO_alloc tbok [.int .i64 0, .int .i64 0, .int .i64 0, .slice none 0 0] rfl rfl trivial rfl rfl rfl rfl (fun b15 => ?_)
  refine WO.cls (C' := St w0 m m [[⟨b3, 24, [.int .i64 p0_0, .int .i64 p0_1, .int .i64 p0_2, .slice a_p0_3 p0_3.length c_p0_3]⟩], [⟨b4, 24, [.int .i64 0, .int .i64 0, .int .i64 0, .slice none 0 0]⟩], L13, [⟨b15, 24, [.int .i64 0, .int .i64 0, .int .i64 0, .slice none 0 0]⟩]]) (fun _ h => h) ?_
  refine WO_storeB tbok 3 [.int .i64 y5, .int .i64 y6, .int .i64 y7, .slice a10 ((y8).length) c11] rfl rfl rfl rfl rfl rfl rfl ?_
  refine WO.cls (C' := St w0 m m [[⟨b3, 24, [.int .i64 p0_0, .int .i64 p0_1, .int .i64 p0_2, .slice a_p0_3 p0_3.length c_p0_3]⟩], [⟨b4, 24, [.int .i64 0, .int .i64 0, .int .i64 0, .slice none 0 0]⟩], L13, [⟨b15, 24, [.int .i64 y5, .int .i64 y6, .int .i64 y7, .slice a10 ((y8).length) c11]⟩]]) (fun _ h => h) ?_
  refine WO_end ?_
  refine WK_seq ?_
  refine WK_seq ?_
  refine WK_region ?_
  refine WO_pure tbok 1 [(1, .slice a_p1 p1.length c_p1), (2, .pointer (some ⟨b3, 0, none⟩)), (4, .pointer (some ⟨b4, 0, none⟩)), (5, .pointer (some ⟨b15, 0, none⟩)), (6, .int .i64 0)] rfl ⟨rfl, rfl, rfl, rfl, rfl, trivial⟩ ?_
  refine WO_end ?_
  obtain ⟨x23, hx24, hm⟩ := bind_some hm
  refine WK_join (β := (List Int) × (List Ent)) (fun p => p.1 = x23 ∧ OwnE 3 1 (I1 .i64) (.slice a10 ((y8).length) c11) p.1 p.2) (fun p => [(4, .pointer (some ⟨b4, 0, none⟩)), (5, .pointer (some ⟨b15, 0, none⟩))]) (fun p => St w0 m m [[⟨b3, 24, [.int .i64 p0_0, .int .i64 p0_1, .int .i64 p0_2, .slice a_p0_3 p0_3.length c_p0_3]⟩], [⟨b4, 24, [.int .i64 0, .int .i64 0, .int .i64 0, .slice none 0 0]⟩], p.2, [⟨b15, 24, [.int .i64 y5, .int .i64 y6, .int .i64 y7, .slice a10 ((y8).length) c11]⟩]]) ?_ (fun hk25 => ?_)
  · rintro ⟨l20, L22⟩ ⟨hq31, hL22⟩
    subst hq31
    refine WK.sub (e' := [(4, .pointer (some ⟨b4, 0, none⟩)), (5, .pointer (some ⟨b15, 0, none⟩))]) ⟨rfl, rfl, trivial⟩ (WK.cls (C' := St w0 m m [[⟨b3, 24, [.int .i64 p0_0, .int .i64 p0_1, .int .i64 p0_2, .slice a_p0_3 p0_3.length c_p0_3]⟩], [⟨b4, 24, [.int .i64 0, .int .i64 0, .int .i64 0, .slice none 0 0]⟩], L22, [⟨b15, 24, [.int .i64 y5, .int .i64 y6, .int .i64 y7, .slice a10 ((y8).length) c11]⟩]]) (fun _ h => h) ?_)
    refine WK_seq ?_
    refine WK_region ?_
    refine WO_loadB tbok 3 rfl rfl rfl rfl (fun _ h => h) rfl rfl ?_
    refine WO_storeB tbok 1 [.int .i64 y5, .int .i64 y6, .int .i64 y7, .slice a10 ((y8).length) c11] rfl rfl rfl rfl rfl rfl rfl ?_
    refine WO.cls (C' := St w0 m m [[⟨b3, 24, [.int .i64 p0_0, .int .i64 p0_1, .int .i64 p0_2, .slice a_p0_3 p0_3.length c_p0_3]⟩], [⟨b4, 24, [.int .i64 y5, .int .i64 y6, .int .i64 y7, .slice a10 ((y8).length) c11]⟩], L22, [⟨b15, 24, [.int .i64 y5, .int .i64 y6, .int .i64 y7, .slice a10 ((y8).length) c11]⟩]]) (fun _ h => h) ?_
    refine WO_end ?_
    cases hm
    exact WK_ret (ret_out (L := L22) (RLc_cell tbok 1 rfl rfl rfl RLc_nil) (seg_sub 2 rfl) ⟨a10, ((y8).length), c11, rfl, hL22⟩)
  · refine WK_block ?_
    refine WK_loop (S := List Int × Int) (G := List Ent) (fun s => fiducialref13_Map_s1 p0_3 p1 s.1 s.2) (fun s g => [(1, .slice a_p1 p1.length c_p1), (2, .pointer (some ⟨b3, 0, none⟩)), (4, .pointer (some ⟨b4, 0, none⟩)), (5, .pointer (some ⟨b15, 0, none⟩)), (6, .int .i64 s.2)]) (fun s g => St w0 m m [[⟨b3, 24, [.int .i64 p0_0, .int .i64 p0_1, .int .i64 p0_2, .slice a_p0_3 p0_3.length c_p0_3]⟩], [⟨b4, 24, [.int .i64 0, .int .i64 0, .int .i64 0, .slice none 0 0]⟩], g, [⟨b15, 24, [.int .i64 y5, .int .i64 y6, .int .i64 y7, .slice a10 ((y8).length) c11]⟩]]) (fun s g => OwnE 3 1 (I1 .i64) (.slice a10 ((y8).length) c11) s.1 g) FUEL (y8, 0) L13 x23 hx24 hL13 ⟨rfl, rfl, rfl, rfl, rfl, trivial⟩ (fun _ h => h) ?_
    rintro ⟨l16, s19⟩ L18 o27 fl28 hm26 hL18 hn29 hd30
    have hm26 : fiducialref13_Map_s1 p0_3 p1 l16 s19 = some o27 := hm26
    unfold fiducialref13_Map_s1 at hm26
    refine WK.sub (e' := [(1, .slice a_p1 p1.length c_p1), (2, .pointer (some ⟨b3, 0, none⟩)), (4, .pointer (some ⟨b4, 0, none⟩)), (5, .pointer (some ⟨b15, 0, none⟩)), (6, .int .i64 s19)]) ⟨rfl, rfl, rfl, rfl, rfl, trivial⟩ (WK.cls (C' := St w0 m m [[⟨b3, 24, [.int .i64 p0_0, .int .i64 p0_1, .int .i64 p0_2, .slice a_p0_3 p0_3.length c_p0_3]⟩], [⟨b4, 24, [.int .i64 0, .int .i64 0, .int .i64 0, .slice none 0 0]⟩], L18, [⟨b15, 24, [.int .i64 y5, .int .i64 y6, .int .i64 y7, .slice a10 ((y8).length) c11]⟩]]) (fun _ h => h) ?_)
    refine WK_seq ?_
    refine WK_seq ?_
    refine WK_region ?_
    refine WO_pure tbok 2 [(1, .slice a_p1 p1.length c_p1), (2, .pointer (some ⟨b3, 0, none⟩)), (4, .pointer (some ⟨b4, 0, none⟩)), (5, .pointer (some ⟨b15, 0, none⟩)), (6, .int .i64 s19), (9, .int .i64 s19), (10, .pointer (some ⟨b3, 3, none⟩))] rfl ⟨rfl, rfl, rfl, rfl, rfl, rfl, rfl, trivial⟩ ?_
    refine WO_loadB tbok 0 rfl rfl rfl rfl (fun _ h => h) rfl rfl ?_
    refine WO_pure tbok 2 [(1, .slice a_p1 p1.length c_p1), (2, .pointer (some ⟨b3, 0, none⟩)), (4, .pointer (some ⟨b4, 0, none⟩)), (5, .pointer (some ⟨b15, 0, none⟩)), (6, .int .i64 s19), (13, .bool (decide (s19 < (p0_3.length : Int))))] rfl ⟨rfl, rfl, rfl, rfl, rfl, rfl, trivial⟩ ?_
    refine WO_end ?_
    refine WK_cond (b := decide (s19 < (p0_3.length : Int))) rfl (fun hb32 => ?_) (fun hb32 => ?_)
    · have hm26 := ifT hb32 hm26
      refine WK_skip ?_
      refine WK_seq ?_
      refine WK_block ?_
      refine WK_draw 12 [0, 1, 2, 3, 4, 5, 6, 7, 8, 9, 10, 11] follows_ok (by kernel_rfl) St_closed ?_
      refine WO_pure tbok 1 [(1, .slice a_p1 p1.length c_p1), (2, .pointer (some ⟨b3, 0, none⟩)), (4, .pointer (some ⟨b4, 0, none⟩)), (5, .pointer (some ⟨b15, 0, none⟩)), (6, .int .i64 s19), (16, .pointer (some ⟨b15, 3, none⟩))] rfl ⟨rfl, rfl, rfl, rfl, rfl, rfl, trivial⟩ ?_
      refine WO_loadB tbok 3 rfl rfl rfl rfl (fun _ h => h) rfl rfl ?_
      refine WO_pure tbok 3 [(1, .slice a_p1 p1.length c_p1), (2, .pointer (some ⟨b3, 0, none⟩)), (4, .pointer (some ⟨b4, 0, none⟩)), (5, .pointer (some ⟨b15, 0, none⟩)), (6, .int .i64 s19), (17, .slice a10 ((y8).length) c11), (18, .int .i64 s19), (19, .slice a_p1 p1.length c_p1), (20, .pointer (some ⟨b3, 3, none⟩))] rfl ⟨rfl, rfl, rfl, rfl, rfl, rfl, rfl, rfl, rfl, trivial⟩ ?_
      refine WO_loadB tbok 0 rfl rfl rfl rfl (fun _ h => h) rfl rfl ?_
      refine WO_pure tbok 1 [(1, .slice a_p1 p1.length c_p1), (2, .pointer (some ⟨b3, 0, none⟩)), (4, .pointer (some ⟨b4, 0, none⟩)), (5, .pointer (some ⟨b15, 0, none⟩)), (6, .int .i64 s19), (17, .slice a10 ((y8).length) c11), (18, .int .i64 s19), (19, .slice a_p1 p1.length c_p1), (21, .slice a_p0_3 p0_3.length c_p0_3), (22, .int .i64 s19)] rfl ⟨rfl, rfl, rfl, rfl, rfl, rfl, rfl, rfl, rfl, rfl, trivial⟩ ?_
      obtain ⟨v33, hy34, hm26⟩ := bind_some hm26
      obtain ⟨hc35, hy34⟩ := ix_some hy34
      refine WO_index tbok rfl rfl rfl rfl rfl rfl rfl rfl (SlR.addr h_p0_3) hc35 ?_
      refine WO_loadE tbok rfl rfl rfl rfl (fun _ h => St.sat h) h_p0_3 hy34 rfl ?_
      obtain ⟨v36, hy37, hm26⟩ := bind_some hm26
      obtain ⟨hc38, hy37⟩ := ix_some hy37
      refine WO_index tbok rfl rfl rfl rfl rfl rfl rfl rfl (SlR.addr h_p1) hc38 ?_
      refine WO_loadE tbok rfl rfl rfl rfl (fun _ h => St.sat h) h_p1 hy37 rfl ?_
      obtain ⟨hc39, hm26⟩ := chk_some hm26
      refine WO_index tbok rfl rfl rfl rfl rfl rfl rfl rfl (OwnE.addr hL18) (by simpa using hc39) ?_
      refine WO_tail ?_
      refine WO_storeO (E := (I1 .i64)) tbok (fun _ => rfl) 2 v36 rfl rfl rfl rfl rfl hL18 rfl (by simpa using idx_lt hc39) rfl rfl rfl rfl (fun L40 hL40 => ?_)
      refine WO.cls (C' := St w0 m m [[⟨b3, 24, [.int .i64 p0_0, .int .i64 p0_1, .int .i64 p0_2, .slice a_p0_3 p0_3.length c_p0_3]⟩], [⟨b4, 24, [.int .i64 0, .int .i64 0, .int .i64 0, .slice none 0 0]⟩], L40, [⟨b15, 24, [.int .i64 y5, .int .i64 y6, .int .i64 y7, .slice a10 ((y8).length) c11]⟩]]) (fun _ h => h) ?_
      refine WO_end ?_
      refine WK_blk ?_
      refine WK_region ?_
      refine WO_pure tbok 3 [(1, .slice a_p1 p1.length c_p1), (2, .pointer (some ⟨b3, 0, none⟩)), (4, .pointer (some ⟨b4, 0, none⟩)), (5, .pointer (some ⟨b15, 0, none⟩)), (6, .int .i64 (w64 (s19 + 1)))] rfl ⟨rfl, rfl, rfl, rfl, rfl, trivial⟩ ?_
      refine WO_end ?_
      cases hm26
      refine WK.sub ?_ (WK.cls (fun _ h => h) (hn29 _ L40 rfl hL40))
      exact ⟨rfl, rfl, rfl, rfl, rfl, trivial⟩
    · have hm26 := ifF hb32 hm26
      refine WK_exit rfl ?_
      cases hm26
      refine WK.sub ?_ (WK.cls (fun _ h => h) (hk25 (l16, L18) ⟨(hd30 _ rfl), hL18⟩))
      exact ⟨rfl, rfl, trivial⟩
theorem fiduciallaw13_RasterMaps_walk {m : Mu} {p0_0 : Int} {p0_1 : Int} {p0_2 : Int} {p0_3 : List Int} {p1 : List Int} {a_p0_3 : Option Addr} {q_p0_3 c_p0_3 : Nat} {a_p1 : Option Addr} {q_p1 c_p1 : Nat} (h_p0_3 : SlR (FE (I1 .i64)) 1 m (.slice a_p0_3 q_p0_3 c_p0_3) p0_3) (h_p1 : SlR (FE (I1 .i64)) 1 m (.slice a_p1 q_p1 c_p1) p1) {r : Bool} (hm : fiduciallaw13_RasterMaps p0_0 p0_1 p0_2 p0_3 p1 = some r) :
    Go.E.Spec Try.prog 6 [.agg #[.int .i64 p0_0, .int .i64 p0_1, .int .i64 p0_2, .slice a_p0_3 q_p0_3 c_p0_3], .slice a_p1 q_p1 c_p1] m (fun v _ _ => v = .bool r) := by
  refine Spec_enter Try.func6 rfl rfl rfl (fun w0 => ?_)
  refine WK.sub (e' := [(0, .agg #[.int .i64 p0_0, .int .i64 p0_1, .int .i64 p0_2, .slice a_p0_3 q_p0_3 c_p0_3]), (1, .slice a_p1 q_p1 c_p1)]) ⟨rfl, rfl, trivial⟩ ?_
  obtain rfl := SlR.qlen h_p0_3
  obtain rfl := SlR.qlen h_p1
  refine WK.sub (e' := [(0, .agg #[.int .i64 p0_0, .int .i64 p0_1, .int .i64 p0_2, .slice a_p0_3 p0_3.length c_p0_3]), (1, .slice a_p1 p1.length c_p1)]) ⟨rfl, rfl, trivial⟩ ?_
  unfold fiduciallaw13_RasterMaps at hm
  refine WK_seq ?_
  refine WK_region ?_
  refine WO_box [.int .i64 p0_0, .int .i64 p0_1, .int .i64 p0_2, .slice a_p0_3 p0_3.length c_p0_3] rfl rfl trivial rfl rfl rfl (fun b3 => ?_)
  refine WO.cls (C' := St w0 m m [[⟨b3, 24, [.int .i64 p0_0, .int .i64 p0_1, .int .i64 p0_2, .slice a_p0_3 p0_3.length c_p0_3]⟩]]) (fun _ h => h) ?_
  refine WO_pure tbok 1 [(1, .slice a_p1 p1.length c_p1), (2, .pointer (some ⟨b3, 0, none⟩)), (4, .bool false)] rfl ⟨rfl, rfl, rfl, trivial⟩ ?_
  refine WO_end ?_
  refine WK_seq ?_
  refine WK_seq ?_
  refine WK_region ?_
  obtain ⟨y4, hc5, hm⟩ := bind_some hm
  refine WO_call0 (.bool y4) rfl rfl trivial rfl rfl rfl rfl St_closed ⟨11, #[], #[], rfl, callable_11, fun w hw => ⟨_, hw.sat, fiduciallaw13_known_walk hc5⟩⟩ ?_
  refine WO_pure tbok 1 [(1, .slice a_p1 p1.length c_p1), (2, .pointer (some ⟨b3, 0, none⟩)), (4, .bool false), (9, .bool (!y4))] rfl ⟨rfl, rfl, rfl, rfl, trivial⟩ ?_
  refine WO_end ?_
  refine WK_cond (b := !y4) rfl (fun hb6 => ?_) (fun hb6 => ?_)
  · have hm := ifT hb6 hm
    refine WK_seq ?_
    refine WK_region ?_
    refine WO_pure tbok 1 [(1, .slice a_p1 p1.length c_p1), (2, .pointer (some ⟨b3, 0, none⟩)), (4, .bool false)] rfl ⟨rfl, rfl, rfl, trivial⟩ ?_
    refine WO_end ?_
    cases hm
    exact WK_ret (ret_out (L := []) (RLc_tmp rfl RLc_nil) (List.nil_sublist _) rfl)
  · have hm := ifF hb6 hm
    refine WK_skip ?_
    refine WK_seq ?_
    refine WK_seq ?_
    obtain ⟨s7, hx8, hm⟩ := bind_some hm
    refine WK_meet [(1, .slice a_p1 p1.length c_p1), (2, .pointer (some ⟨b3, 0, none⟩)), (4, .bool false), (18, .bool s7)] (St w0 m m [[⟨b3, 24, [.int .i64 p0_0, .int .i64 p0_1, .int .i64 p0_2, .slice a_p0_3 p0_3.length c_p0_3]⟩]]) ?_ (fun hk9 => ?_)
    · refine WK_cond (b := s7) rfl (fun hb10 => ?_) (fun hb10 => ?_)
      · have hm := ifT hb10 hm
        refine WK_seq ?_
        refine WK_region ?_
        refine WO_pure tbok 1 [(1, .slice a_p1 p1.length c_p1), (2, .pointer (some ⟨b3, 0, none⟩)), (4, .bool true)] rfl ⟨rfl, rfl, rfl, trivial⟩ ?_
        refine WO_end ?_
        cases hm
        exact WK_ret (ret_out (L := []) (RLc_tmp rfl RLc_nil) (List.nil_sublist _) rfl)
      · have hm := ifF hb10 hm
        refine WK_skip ?_
        refine WK_seq ?_
        refine WK_region ?_
        refine WO_loadB tbok 0 rfl rfl rfl rfl (fun _ h => h) rfl rfl ?_
        refine WO_pure tbok 1 [(1, .slice a_p1 p1.length c_p1), (2, .pointer (some ⟨b3, 0, none⟩)), (4, .bool false), (20, .agg #[.int .i64 p0_0, .int .i64 p0_1, .int .i64 p0_2, .slice a_p0_3 p0_3.length c_p0_3]), (21, .slice a_p1 p1.length c_p1)] rfl ⟨rfl, rfl, rfl, rfl, rfl, trivial⟩ ?_
        obtain ⟨⟨y11, y12, y13, y14, y15⟩, hc16, hm⟩ := bind_some hm
        refine WO_call1 (raster_Map_Q (y11, y12, y13, y14, y15)) rfl rfl trivial rfl rfl rfl rfl ⟨28, #[], #[], rfl, callable_28, fun w hw => ⟨_, hw.sat, raster_Map_walk h_p0_3 h_p1 hc16⟩⟩ (fun v21 L20 hq => ?_)
        obtain ⟨a17, qa17, c18, rfl, hL20⟩ := hq
        obtain rfl := OwnE.qlen hL20
        refine WO.cls (C' := St w0 m m [[⟨b3, 24, [.int .i64 p0_0, .int .i64 p0_1, .int .i64 p0_2, .slice a_p0_3 p0_3.length c_p0_3]⟩], L20]) (fun _ h => h) ?_
        refine WO_pure tbok 3 [(1, .slice a_p1 p1.length c_p1), (2, .pointer (some ⟨b3, 0, none⟩)), (4, .bool false), (23, .agg #[.int .i64 y11, .int .i64 y12, .int .i64 y13, .slice a17 ((y14).length) c18]), (24, .int .i64 y15)] rfl ⟨rfl, rfl, rfl, rfl, rfl, trivial⟩ ?_
        refine WO_alloc tbok [.int .i64 0, .int .i64 0, .int .i64 0, .slice none 0 0] rfl rfl trivial rfl rfl rfl rfl (fun b22 => ?_)
        refine WO.cls (C' := St w0 m m [[⟨b3, 24, [.int .i64 p0_0, .int .i64 p0_1, .int .i64 p0_2, .slice a_p0_3 p0_3.length c_p0_3]⟩], L20, [⟨b22, 24, [.int .i64 0, .int .i64 0, .int .i64 0, .slice none 0 0]⟩]]) (fun _ h => h) ?_
        refine WO_storeB tbok 2 [.int .i64 y11, .int .i64 y12, .int .i64 y13, .slice a17 ((y14).length) c18] rfl rfl rfl rfl rfl rfl rfl ?_
        refine WO.cls (C' := St w0 m m [[⟨b3, 24, [.int .i64 p0_0, .int .i64 p0_1, .int .i64 p0_2, .slice a_p0_3 p0_3.length c_p0_3]⟩], L20, [⟨b22, 24, [.int .i64 y11, .int .i64 y12, .int .i64 y13, .slice a17 ((y14).length) c18]⟩]]) (fun _ h => h) ?_
        refine WO_pure tbok 1 [(1, .slice a_p1 p1.length c_p1), (2, .pointer (some ⟨b3, 0, none⟩)), (4, .bool false), (5, .pointer (some ⟨b22, 0, none⟩)), (6, .int .i64 y15)] rfl ⟨rfl, rfl, rfl, rfl, rfl, trivial⟩ ?_
        refine WO_end ?_
        refine WK_seq ?_
        refine WK_region ?_
        refine WO_loadB tbok 0 rfl rfl rfl rfl (fun _ h => h) rfl rfl ?_
        obtain ⟨y23, hc24, hm⟩ := bind_some hm
        refine WO_call0 (.int .i64 y23) rfl rfl trivial rfl rfl rfl rfl St_closed ⟨15, #[], #[], rfl, callable_15, fun w hw => ⟨_, hw.sat, fiducialref13_Check_walk h_p0_3 hc24⟩⟩ ?_
        refine WO_pure tbok 1 [(1, .slice a_p1 p1.length c_p1), (2, .pointer (some ⟨b3, 0, none⟩)), (4, .bool false), (5, .pointer (some ⟨b22, 0, none⟩)), (6, .int .i64 y15), (7, .int .i64 y23)] rfl ⟨rfl, rfl, rfl, rfl, rfl, rfl, trivial⟩ ?_
        refine WO_end ?_
        refine WK_seq ?_
        refine WK_seq ?_
        obtain ⟨s25, hx26, hm⟩ := bind_some hm
        refine WK_meet [(1, .slice a_p1 p1.length c_p1), (2, .pointer (some ⟨b3, 0, none⟩)), (4, .bool false), (5, .pointer (some ⟨b22, 0, none⟩)), (6, .int .i64 y15), (7, .int .i64 y23), (36, .bool s25)] (St w0 m m [[⟨b3, 24, [.int .i64 p0_0, .int .i64 p0_1, .int .i64 p0_2, .slice a_p0_3 p0_3.length c_p0_3]⟩], L20, [⟨b22, 24, [.int .i64 y11, .int .i64 y12, .int .i64 y13, .slice a17 ((y14).length) c18]⟩]]) ?_ (fun hk27 => ?_)
        · obtain ⟨s28, hx29, hm⟩ := bind_some hm
          refine WK_meet [(1, .slice a_p1 p1.length c_p1), (2, .pointer (some ⟨b3, 0, none⟩)), (4, .bool false), (5, .pointer (some ⟨b22, 0, none⟩)), (6, .int .i64 y15), (7, .int .i64 s28)] (St w0 m m [[⟨b3, 24, [.int .i64 p0_0, .int .i64 p0_1, .int .i64 p0_2, .slice a_p0_3 p0_3.length c_p0_3]⟩], L20, [⟨b22, 24, [.int .i64 y11, .int .i64 y12, .int .i64 y13, .slice a17 ((y14).length) c18]⟩]]) ?_ (fun hk30 => ?_)
          · refine WK_seq ?_
            refine WK_seq ?_
            obtain ⟨s31, hx32, hm⟩ := bind_some hm
            refine WK_meet [(1, .slice a_p1 p1.length c_p1), (2, .pointer (some ⟨b3, 0, none⟩)), (4, .bool false), (5, .pointer (some ⟨b22, 0, none⟩)), (6, .int .i64 y15), (7, .int .i64 s28), (43, .bool s31)] (St w0 m m [[⟨b3, 24, [.int .i64 p0_0, .int .i64 p0_1, .int .i64 p0_2, .slice a_p0_3 p0_3.length c_p0_3]⟩], L20, [⟨b22, 24, [.int .i64 y11, .int .i64 y12, .int .i64 y13, .slice a17 ((y14).length) c18]⟩]]) ?_ (fun hk33 => ?_)
            · obtain ⟨s34, hx35, hm⟩ := bind_some hm
              refine WK_meet [(1, .slice a_p1 p1.length c_p1), (2, .pointer (some ⟨b3, 0, none⟩)), (4, .bool false), (5, .pointer (some ⟨b22, 0, none⟩)), (6, .int .i64 y15), (7, .int .i64 s34)] (St w0 m m [[⟨b3, 24, [.int .i64 p0_0, .int .i64 p0_1, .int .i64 p0_2, .slice a_p0_3 p0_3.length c_p0_3]⟩], L20, [⟨b22, 24, [.int .i64 y11, .int .i64 y12, .int .i64 y13, .slice a17 ((y14).length) c18]⟩]]) ?_ (fun hk36 => ?_)
              · refine WK_seq ?_
                refine WK_seq ?_
                refine WK_region ?_
                refine WO_pure tbok 2 [(1, .slice a_p1 p1.length c_p1), (2, .pointer (some ⟨b3, 0, none⟩)), (4, .bool false), (5, .pointer (some ⟨b22, 0, none⟩)), (6, .int .i64 y15), (7, .int .i64 s34), (45, .bool (s34 != 0))] rfl ⟨rfl, rfl, rfl, rfl, rfl, rfl, rfl, trivial⟩ ?_
                refine WO_end ?_
                refine WK_cond (b := s34 != 0) rfl (fun hb37 => ?_) (fun hb37 => ?_)
                · have hm := ifT hb37 hm
                  refine WK_seq ?_
                  refine WK_region ?_
                  refine WO_pure tbok 4 [(1, .slice a_p1 p1.length c_p1), (2, .pointer (some ⟨b3, 0, none⟩)), (4, .bool false), (5, .pointer (some ⟨b22, 0, none⟩)), (6, .int .i64 y15), (49, .bool (y15 == s34))] rfl ⟨rfl, rfl, rfl, rfl, rfl, rfl, trivial⟩ ?_
                  refine WO_split (d := 49) (b := y15 == s34) rfl (fun hb38 => ?_) (fun hb38 => ?_)
                  · have hm := ifT hb38 hm
                    refine WO_loadB tbok 2 rfl rfl rfl rfl (fun _ h => h) rfl rfl ?_
                    obtain ⟨y39, hc40, hm⟩ := bind_some hm
                    refine WO_call0 (.bool y39) rfl rfl trivial rfl rfl rfl rfl St_closed ⟨16, #[], #[], rfl, callable_16, fun w hw => ⟨_, hw.satV, fiduciallaw13_empty_walk (OwnE.rd (E := (I1 .i64)) (k := 1) (fun _ => rfl) hL20 (fun _ hx => hw.memV (i := 1) rfl hx)) hc40⟩⟩ ?_
                    refine WO_pure tbok 2 [(1, .slice a_p1 p1.length c_p1), (2, .pointer (some ⟨b3, 0, none⟩)), (4, .bool y39), (5, .pointer (some ⟨b22, 0, none⟩)), (6, .int .i64 y15)] rfl ⟨rfl, rfl, rfl, rfl, rfl, trivial⟩ ?_
                    refine WO_end ?_
                    cases hm
                    exact WK_ret (ret_out (L := []) (RLc_tmp rfl RLc_nil) (List.nil_sublist _) rfl)
                  · have hm := ifF hb38 hm
                    refine WO_pure tbok 1 [(1, .slice a_p1 p1.length c_p1), (2, .pointer (some ⟨b3, 0, none⟩)), (4, .bool false), (5, .pointer (some ⟨b22, 0, none⟩)), (6, .int .i64 y15), (49, .bool false)] rfl ⟨rfl, rfl, rfl, rfl, rfl, rfl, trivial⟩ ?_
                    refine WO_skip rfl rfl ?_
                    refine WO_pure tbok 2 [(1, .slice a_p1 p1.length c_p1), (2, .pointer (some ⟨b3, 0, none⟩)), (4, .bool false), (5, .pointer (some ⟨b22, 0, none⟩)), (6, .int .i64 y15)] rfl ⟨rfl, rfl, rfl, rfl, rfl, trivial⟩ ?_
                    refine WO_end ?_
                    cases hm
                    exact WK_ret (ret_out (L := []) (RLc_tmp rfl RLc_nil) (List.nil_sublist _) rfl)
                · have hm := ifF hb37 hm
                  refine WK_skip ?_
                  refine WK_seq ?_
                  refine WK_draw 10 [0, 1, 2, 3, 4, 5, 6, 7, 8, 9] follows_ok (by kernel_rfl) St_closed ?_
                  refine WO_pure tbok 3 [(1, .slice a_p1 p1.length c_p1), (2, .pointer (some ⟨b3, 0, none⟩)), (4, .bool false), (5, .pointer (some ⟨b22, 0, none⟩)), (55, .bool (y15 == 0))] rfl ⟨rfl, rfl, rfl, rfl, rfl, trivial⟩ ?_
                  refine WO_split (d := 55) (b := y15 == 0) rfl (fun hb41 => ?_) (fun hb41 => ?_)
                  · have hm := ifT hb41 hm
                    refine WO_loadB tbok 2 rfl rfl rfl rfl (fun _ h => h) rfl rfl ?_
                    refine WO_loadB tbok 0 rfl rfl rfl rfl (fun _ h => h) rfl rfl ?_
                    refine WO_pure tbok 1 [(4, .bool false), (55, .bool true), (56, .agg #[.int .i64 y11, .int .i64 y12, .int .i64 y13, .slice a17 ((y14).length) c18]), (57, .agg #[.int .i64 p0_0, .int .i64 p0_1, .int .i64 p0_2, .slice a_p0_3 p0_3.length c_p0_3]), (58, .slice a_p1 p1.length c_p1)] rfl ⟨rfl, rfl, rfl, rfl, rfl, trivial⟩ ?_
                    obtain ⟨⟨y42, y43, y44, y45⟩, hc46, hm⟩ := bind_some hm
                    refine WO_call1 (fiducialref13_Map_Q (y42, y43, y44, y45)) rfl rfl St_closed rfl rfl rfl rfl ⟨31, #[], #[], rfl, callable_31, fun w hw => ⟨_, hw.sat, fiducialref13_Map_walk h_p0_3 h_p1 hc46⟩⟩ (fun v51 L50 hq => ?_)
                    obtain ⟨a47, qa47, c48, rfl, hL50⟩ := hq
                    obtain rfl := OwnE.qlen hL50
                    refine WO.cls (C' := St w0 m m [[⟨b3, 24, [.int .i64 p0_0, .int .i64 p0_1, .int .i64 p0_2, .slice a_p0_3 p0_3.length c_p0_3]⟩], L20, [⟨b22, 24, [.int .i64 y11, .int .i64 y12, .int .i64 y13, .slice a17 ((y14).length) c18]⟩], L50]) (fun _ h => h) ?_
                    obtain ⟨y52, hc53, hm⟩ := bind_some hm
                    refine WO_call0 (.bool y52) rfl rfl St_closed rfl rfl rfl rfl St_closed ⟨17, #[], #[], rfl, callable_17, fun w hw => ⟨_, hw.satV, fiducialref13_Equal_walk (OwnE.rd (E := (I1 .i64)) (k := 1) (fun _ => rfl) hL20 (fun _ hx => hw.memV (i := 1) rfl hx)) (OwnE.rd (E := (I1 .i64)) (k := 1) (fun _ => rfl) hL50 (fun _ hx => hw.memV (i := 3) rfl hx)) hc53⟩⟩ ?_
                    refine WO_pure tbok 2 [(4, .bool y52)] rfl ⟨rfl, trivial⟩ ?_
                    refine WO_tail ?_
                    refine WO_end ?_
                    cases hm
                    exact WK_ret (ret_out (L := []) (RLc_tmp rfl RLc_nil) (List.nil_sublist _) rfl)
                  · have hm := ifF hb41 hm
                    refine WO_pure tbok 3 [(4, .bool false), (55, .bool false)] rfl ⟨rfl, rfl, trivial⟩ ?_
                    refine WO_skip rfl rfl ?_
                    refine WO_skip rfl rfl ?_
                    refine WO_pure tbok 2 [(4, .bool false)] rfl ⟨rfl, trivial⟩ ?_
                    refine WO_tail ?_
                    refine WO_end ?_
                    cases hm
                    exact WK_ret (ret_out (L := []) (RLc_tmp rfl RLc_nil) (List.nil_sublist _) rfl)
              · refine WK_cond (b := s31) rfl (fun hb54 => ?_) (fun hb54 => ?_)
                · have hx35 := ifT hb54 hx35
                  refine WK_region ?_
                  refine WO_pure tbok 1 [(1, .slice a_p1 p1.length c_p1), (2, .pointer (some ⟨b3, 0, none⟩)), (4, .bool false), (5, .pointer (some ⟨b22, 0, none⟩)), (6, .int .i64 y15), (7, .int .i64 2)] rfl ⟨rfl, rfl, rfl, rfl, rfl, rfl, trivial⟩ ?_
                  refine WO_end ?_
                  cases hx35
                  refine WK.sub ?_ (WK.cls (fun _ h => h) hk36)
                  exact ⟨rfl, rfl, rfl, rfl, rfl, rfl, trivial⟩
                · have hx35 := ifF hb54 hx35
                  refine WK_skip ?_
                  cases hx35
                  refine WK.sub ?_ (WK.cls (fun _ h => h) hk36)
                  exact ⟨rfl, rfl, rfl, rfl, rfl, rfl, trivial⟩
            · refine WK_region ?_
              refine WO_pure tbok 3 [(1, .slice a_p1 p1.length c_p1), (2, .pointer (some ⟨b3, 0, none⟩)), (4, .bool false), (5, .pointer (some ⟨b22, 0, none⟩)), (6, .int .i64 y15), (7, .int .i64 s28), (39, .bool (s28 == 0))] rfl ⟨rfl, rfl, rfl, rfl, rfl, rfl, rfl, trivial⟩ ?_
              refine WO_split (d := 39) (b := s28 == 0) rfl (fun hb55 => ?_) (fun hb55 => ?_)
              · have hx32 := ifT hb55 hx32
                refine WO_pure tbok 2 [(1, .slice a_p1 p1.length c_p1), (2, .pointer (some ⟨b3, 0, none⟩)), (4, .bool false), (5, .pointer (some ⟨b22, 0, none⟩)), (6, .int .i64 y15), (7, .int .i64 s28), (39, .bool true), (40, .slice a_p1 p1.length c_p1), (41, .func (.func 30) #[] #[.pointer (some ⟨b3, 0, none⟩)])] rfl ⟨rfl, rfl, rfl, rfl, rfl, rfl, rfl, rfl, rfl, trivial⟩ ?_
                obtain ⟨y57, hc58, hx32⟩ := bind_some hx32
                refine WO_call0 (.bool y57) rfl rfl trivial rfl rfl rfl rfl St_closed ⟨29, #[], #[], rfl, callable_29, fun w hw => ⟨_, hw.satV, slices_ContainsFunc_sint_walk (h_p1.mono (mono_FE _) hw.leV) (fun z56 _ h => specV_cap callable_30 (fiduciallaw13_RasterMaps_c1_walk (hw.memV (i := 0) rfl (List.mem_singleton.2 rfl)) (h_p0_3.mono (mono_FE _) hw.leV) h)) hc58⟩⟩ ?_
                refine WO_pure tbok 1 [(1, .slice a_p1 p1.length c_p1), (2, .pointer (some ⟨b3, 0, none⟩)), (4, .bool false), (5, .pointer (some ⟨b22, 0, none⟩)), (6, .int .i64 y15), (7, .int .i64 s28), (43, .bool y57)] rfl ⟨rfl, rfl, rfl, rfl, rfl, rfl, rfl, trivial⟩ ?_
                refine WO_end ?_
                cases hx32
                refine WK.sub ?_ (WK.cls (fun _ h => h) hk33)
                exact ⟨rfl, rfl, rfl, rfl, rfl, rfl, rfl, trivial⟩
              · have hx32 := ifF hb55 hx32
                refine WO_pure tbok 2 [(1, .slice a_p1 p1.length c_p1), (2, .pointer (some ⟨b3, 0, none⟩)), (4, .bool false), (5, .pointer (some ⟨b22, 0, none⟩)), (6, .int .i64 y15), (7, .int .i64 s28), (39, .bool false)] rfl ⟨rfl, rfl, rfl, rfl, rfl, rfl, rfl, trivial⟩ ?_
                refine WO_skip rfl rfl ?_
                refine WO_pure tbok 1 [(1, .slice a_p1 p1.length c_p1), (2, .pointer (some ⟨b3, 0, none⟩)), (4, .bool false), (5, .pointer (some ⟨b22, 0, none⟩)), (6, .int .i64 y15), (7, .int .i64 s28), (43, .bool false)] rfl ⟨rfl, rfl, rfl, rfl, rfl, rfl, rfl, trivial⟩ ?_
                refine WO_end ?_
                cases hx32
                refine WK.sub ?_ (WK.cls (fun _ h => h) hk33)
                exact ⟨rfl, rfl, rfl, rfl, rfl, rfl, rfl, trivial⟩
          · refine WK_cond (b := s25) rfl (fun hb59 => ?_) (fun hb59 => ?_)
            · have hx29 := ifT hb59 hx29
              refine WK_region ?_
              refine WO_pure tbok 1 [(1, .slice a_p1 p1.length c_p1), (2, .pointer (some ⟨b3, 0, none⟩)), (4, .bool false), (5, .pointer (some ⟨b22, 0, none⟩)), (6, .int .i64 y15), (7, .int .i64 4)] rfl ⟨rfl, rfl, rfl, rfl, rfl, rfl, trivial⟩ ?_
              refine WO_end ?_
              cases hx29
              refine WK.sub ?_ (WK.cls (fun _ h => h) hk30)
              exact ⟨rfl, rfl, rfl, rfl, rfl, rfl, trivial⟩
            · have hx29 := ifF hb59 hx29
              refine WK_skip ?_
              cases hx29
              refine WK.sub ?_ (WK.cls (fun _ h => h) hk30)
              exact ⟨rfl, rfl, rfl, rfl, rfl, rfl, trivial⟩
        · refine WK_region ?_
          refine WO_pure tbok 3 [(1, .slice a_p1 p1.length c_p1), (2, .pointer (some ⟨b3, 0, none⟩)), (4, .bool false), (5, .pointer (some ⟨b22, 0, none⟩)), (6, .int .i64 y15), (7, .int .i64 y23), (29, .bool (y23 == 0))] rfl ⟨rfl, rfl, rfl, rfl, rfl, rfl, rfl, trivial⟩ ?_
          refine WO_split (d := 29) (b := y23 == 0) rfl (fun hb60 => ?_) (fun hb60 => ?_)
          · have hx26 := ifT hb60 hx26
            refine WO_pure tbok 3 [(1, .slice a_p1 p1.length c_p1), (2, .pointer (some ⟨b3, 0, none⟩)), (4, .bool false), (5, .pointer (some ⟨b22, 0, none⟩)), (6, .int .i64 y15), (7, .int .i64 y23), (29, .bool true), (31, .int .i64 (p1.length : Int)), (32, .pointer (some ⟨b3, 2, none⟩))] rfl ⟨rfl, rfl, rfl, rfl, rfl, rfl, rfl, rfl, rfl, trivial⟩ ?_
            refine WO_loadB tbok 0 rfl rfl rfl rfl (fun _ h => h) rfl rfl ?_
            refine WO_pure tbok 3 [(1, .slice a_p1 p1.length c_p1), (2, .pointer (some ⟨b3, 0, none⟩)), (4, .bool false), (5, .pointer (some ⟨b22, 0, none⟩)), (6, .int .i64 y15), (7, .int .i64 y23), (36, .bool ((p1.length : Int) != (w64 (p0_2 + 1))))] rfl ⟨rfl, rfl, rfl, rfl, rfl, rfl, rfl, trivial⟩ ?_
            refine WO_end ?_
            cases hx26
            refine WK.sub ?_ (WK.cls (fun _ h => h) hk27)
            exact ⟨rfl, rfl, rfl, rfl, rfl, rfl, rfl, trivial⟩
          · have hx26 := ifF hb60 hx26
            refine WO_pure tbok 7 [(1, .slice a_p1 p1.length c_p1), (2, .pointer (some ⟨b3, 0, none⟩)), (4, .bool false), (5, .pointer (some ⟨b22, 0, none⟩)), (6, .int .i64 y15), (7, .int .i64 y23), (36, .bool false)] rfl ⟨rfl, rfl, rfl, rfl, rfl, rfl, rfl, trivial⟩ ?_
            refine WO_end ?_
            cases hx26
            refine WK.sub ?_ (WK.cls (fun _ h => h) hk27)
            exact ⟨rfl, rfl, rfl, rfl, rfl, rfl, rfl, trivial⟩
    · refine WK_region ?_
      refine WO_loadB tbok 0 rfl rfl rfl rfl (fun _ h => h) rfl rfl ?_
      refine WO_bsliceX (E := V4) (El := El24) tbok (fun _ => rfl) (by decide) [.agg #[.int .i64 p0_0, .int .i64 p0_1, .int .i64 p0_2, .slice a_p0_3 p0_3.length c_p0_3]] [(.int .i64 p0_0, .int .i64 p0_1, .int .i64 p0_2, .slice a_p0_3 p0_3.length c_p0_3)] ([(p0_0, p0_1, p0_2, p0_3)] : List (Int × Int × Int × List Int)) rfl rfl trivial rfl rfl rfl rfl rfl rfl rfl rfl rfl rfl rfl rfl ⟨⟨_, _, _, rfl, h_p0_3⟩, trivial⟩ (fun b61 hb61 => ?_)
      refine WO.cls (C' := St w0 m m [[⟨b3, 24, [.int .i64 p0_0, .int .i64 p0_1, .int .i64 p0_2, .slice a_p0_3 p0_3.length c_p0_3]⟩], [⟨b61, 24, [.int .i64 p0_0, .int .i64 p0_1, .int .i64 p0_2, .slice a_p0_3 p0_3.length c_p0_3]⟩]]) (fun _ h => h) ?_
      obtain ⟨y63, hc64, hx8⟩ := bind_some hx8
      refine WO_call0 (.bool y63) rfl rfl trivial rfl rfl rfl rfl St_closed ⟨12, #[], #[], rfl, callable_12, fun w hw => ⟨_, hw.satV, fiduciallaw13_few_walk (OwnX.rd (E := V4) (k := 4) (fun _ => rfl) hb61 mono_El24 hw.leV (fun _ hx => hw.memV (i := 1) rfl hx)) hc64⟩⟩ ?_
      refine WO_pure tbok 2 [(1, .slice a_p1 p1.length c_p1), (2, .pointer (some ⟨b3, 0, none⟩)), (4, .bool false), (14, .bool (!y63))] rfl ⟨rfl, rfl, rfl, rfl, trivial⟩ ?_
      refine WO_split (d := 14) (b := !y63) rfl (fun hb65 => ?_) (fun hb65 => ?_)
      · have hx8 := ifT hb65 hx8
        refine WO_pure tbok 4 [(1, .slice a_p1 p1.length c_p1), (2, .pointer (some ⟨b3, 0, none⟩)), (4, .bool false), (18, .bool true)] rfl ⟨rfl, rfl, rfl, rfl, trivial⟩ ?_
        refine WO_end ?_
        cases hx8
        refine WK.sub ?_ (WK.cls (fun _ h => St.take 1 h) hk9)
        exact ⟨rfl, rfl, rfl, rfl, trivial⟩
      · have hx8 := ifF hb65 hx8
        refine WO_pure tbok 4 [(1, .slice a_p1 p1.length c_p1), (2, .pointer (some ⟨b3, 0, none⟩)), (4, .bool false), (18, .bool (decide (600 < (p1.length : Int))))] rfl ⟨rfl, rfl, rfl, rfl, trivial⟩ ?_
        refine WO_end ?_
        cases hx8
        refine WK.sub ?_ (WK.cls (fun _ h => St.take 1 h) hk9)
        exact ⟨rfl, rfl, rfl, rfl, trivial⟩
theorem raster_Rescale_c1_walk {m : Mu} {p0 : Int} {p1 : Int} {q0_0 : Int} {q0_1 : Int} {q0_2 : Int} {q0_3 : List Int} {q1_0 : Int} {a_q0_3 : Option Addr} {q_q0_3 c_q0_3 : Nat} {b_q0 : Nat} {b_q1 : Nat} (hb_q0 : m b_q0 = some (Ent.obj ⟨b_q0, 24, [.int .i64 q0_0, .int .i64 q0_1, .int .i64 q0_2, .slice a_q0_3 q_q0_3 c_q0_3]⟩)) (h_q0_3 : SlR (FE (I1 .i64)) 1 m (.slice a_q0_3 q_q0_3 c_q0_3) q0_3) (hb_q1 : m b_q1 = some (Ent.obj ⟨b_q1, 3, [.int .i64 q1_0]⟩)) {r : Int} (hm : raster_Rescale_c1 p0 p1 q0_0 q0_1 q0_2 q0_3 q1_0 = some r) :
    Go.E.Spec Try.prog 58 [.int .i64 p0, .int .i64 p1, .pointer (some ⟨b_q0, 0, none⟩), .pointer (some ⟨b_q1, 0, none⟩)] m (fun v _ _ => v = .int .i64 r) := by
  refine Spec_enter Try.func58 rfl rfl rfl (fun w0 => ?_)
  refine WK.sub (e' := [(0, .int .i64 p0), (1, .int .i64 p1), (2, .pointer (some ⟨b_q0, 0, none⟩)), (3, .pointer (some ⟨b_q1, 0, none⟩))]) ⟨rfl, rfl, rfl, rfl, trivial⟩ ?_
  obtain rfl := SlR.qlen h_q0_3
  refine WK.sub (e' := [(0, .int .i64 p0), (1, .int .i64 p1), (2, .pointer (some ⟨b_q0, 0, none⟩)), (3, .pointer (some ⟨b_q1, 0, none⟩))]) ⟨rfl, rfl, rfl, rfl, trivial⟩ ?_
  unfold raster_Rescale_c1 at hm
  refine WK_seq ?_
  refine WK_region ?_
  refine WO_pure tbok 1 [(0, .int .i64 p0), (1, .int .i64 p1), (2, .pointer (some ⟨b_q0, 0, none⟩)), (3, .pointer (some ⟨b_q1, 0, none⟩)), (6, .int .i64 0)] rfl ⟨rfl, rfl, rfl, rfl, rfl, trivial⟩ ?_
  refine WO_end ?_
  refine WK_seq ?_
  refine WK_draw 15 [0, 1, 2, 5, 7, 8, 10, 11, 12, 3, 4, 6, 9, 13, 14] follows_ok (by kernel_rfl) St_closed ?_
  refine WO_loadM tbok rfl rfl rfl rfl (fun _ h => St.sat h) hb_q0 rfl ?_
  refine WO_pure tbok 2 [(2, .pointer (some ⟨b_q0, 0, none⟩)), (3, .pointer (some ⟨b_q1, 0, none⟩)), (6, .int .i64 0), (7, .agg #[.int .i64 q0_0, .int .i64 q0_1, .int .i64 q0_2, .slice a_q0_3 q0_3.length c_q0_3]), (8, .int .i64 p0), (9, .int .i64 p1)] rfl ⟨rfl, rfl, rfl, rfl, rfl, rfl, trivial⟩ ?_
  refine WO_loadM tbok rfl rfl rfl rfl (fun _ h => St.sat h) hb_q1 rfl ?_
  refine WO_pure tbok 1 [(2, .pointer (some ⟨b_q0, 0, none⟩)), (6, .int .i64 0), (7, .agg #[.int .i64 q0_0, .int .i64 q0_1, .int .i64 q0_2, .slice a_q0_3 q0_3.length c_q0_3]), (8, .int .i64 p0), (9, .int .i64 p1), (12, .int .i64 q1_0), (14, .pointer (some ⟨b_q0, 2, none⟩))] rfl ⟨rfl, rfl, rfl, rfl, rfl, rfl, rfl, trivial⟩ ?_
  refine WO_loadM tbok rfl rfl rfl rfl (fun _ h => St.sat h) hb_q0 rfl ?_
  refine WO_pure tbok 1 [(6, .int .i64 0), (7, .agg #[.int .i64 q0_0, .int .i64 q0_1, .int .i64 q0_2, .slice a_q0_3 q0_3.length c_q0_3]), (8, .int .i64 p0), (9, .int .i64 p1), (12, .int .i64 q1_0), (15, .int .i64 q0_2), (17, .pointer (some ⟨b_q0, 2, none⟩))] rfl ⟨rfl, rfl, rfl, rfl, rfl, rfl, rfl, trivial⟩ ?_
  refine WO_loadM tbok rfl rfl rfl rfl (fun _ h => St.sat h) hb_q0 rfl ?_
  refine WO_pure tbok 1 [(6, .int .i64 0), (7, .agg #[.int .i64 q0_0, .int .i64 q0_1, .int .i64 q0_2, .slice a_q0_3 q0_3.length c_q0_3]), (8, .int .i64 p0), (9, .int .i64 p1), (12, .int .i64 q1_0), (15, .int .i64 q0_2), (19, .int .i64 (w64 (2 * q0_2)))] rfl ⟨rfl, rfl, rfl, rfl, rfl, rfl, rfl, trivial⟩ ?_
  obtain ⟨y2, hc3, hm⟩ := bind_some hm
  refine WO_call0 (.int .i64 y2) rfl rfl St_closed rfl rfl rfl rfl St_closed ⟨50, #[], #[], rfl, callable_50, fun w hw => ⟨_, hw.sat, raster_at_walk h_q0_3 hc3⟩⟩ ?_
  refine WO_pure tbok 3 [(6, .int .i64 0), (16, .int .i64 (w64 ((w64 ((w64 (2 * y2)) * q1_0)) + q0_2))), (19, .int .i64 (w64 (2 * q0_2)))] rfl ⟨rfl, rfl, rfl, trivial⟩ ?_
  obtain ⟨hc4, hm⟩ := chk_some hm
  refine WO_quo rfl rfl rfl rfl rfl hc4 ?_
  refine WO_pure tbok 1 [(6, .int .i64 (w64 (Int.tdiv (w64 ((w64 ((w64 (2 * y2)) * q1_0)) + q0_2)) (w64 (2 * q0_2)))))] rfl ⟨rfl, trivial⟩ ?_
  refine WO_tail ?_
  refine WO_end ?_
  cases hm
  exact WK_ret (ret_out (L := []) (RLc_tmp rfl RLc_nil) (List.nil_sublist _) rfl)
def raster_Rescale_Q (r : Int × Int × Int × List Int × Int) : Value → List Ent → Prop := fun v L => ∃ (a0 : Option Addr) (q0 c0 : Nat), v = .tuple #[.agg #[.int .i64 r.1, .int .i64 r.2.1, .int .i64 r.2.2.1, .slice a0 q0 c0], .int .i64 r.2.2.2.2] ∧ OwnE 3 1 (I1 .i64) (.slice a0 q0 c0) r.2.2.2.1 L
theorem raster_Rescale_walk {m : Mu} {p0_0 : Int} {p0_1 : Int} {p0_2 : Int} {p0_3 : List Int} {p1 : Int} {a_p0_3 : Option Addr} {q_p0_3 c_p0_3 : Nat} (h_p0_3 : SlR (FE (I1 .i64)) 1 m (.slice a_p0_3 q_p0_3 c_p0_3) p0_3) {r : Int × Int × Int × List Int × Int} (hm : raster_Rescale p0_0 p0_1 p0_2 p0_3 p1 = some r) :
    Go.E.Spec Try.prog 33 [.agg #[.int .i64 p0_0, .int .i64 p0_1, .int .i64 p0_2, .slice a_p0_3 q_p0_3 c_p0_3], .int .i64 p1] m (fun v _ L => raster_Rescale_Q r v L) := by
  refine Spec_enter Try.func33 rfl rfl rfl (fun w0 => ?_)
  refine WK.sub (e' := [(0, .agg #[.int .i64 p0_0, .int .i64 p0_1, .int .i64 p0_2, .slice a_p0_3 q_p0_3 c_p0_3]), (1, .int .i64 p1)]) ⟨rfl, rfl, trivial⟩ ?_
  obtain rfl := SlR.qlen h_p0_3
  refine WK.sub (e' := [(0, .agg #[.int .i64 p0_0, .int .i64 p0_1, .int .i64 p0_2, .slice a_p0_3 p0_3.length c_p0_3]), (1, .int .i64 p1)]) ⟨rfl, rfl, trivial⟩ ?_
  unfold raster_Rescale at hm
  refine WK_seq ?_
  refine WK_region ?_
  refine WO_box [.int .i64 p0_0, .int .i64 p0_1, .int .i64 p0_2, .slice a_p0_3 p0_3.length c_p0_3] rfl rfl trivial rfl rfl rfl (fun b2 => ?_)
  refine WO.cls (C' := St w0 m m [[⟨b2, 24, [.int .i64 p0_0, .int .i64 p0_1, .int .i64 p0_2, .slice a_p0_3 p0_3.length c_p0_3]⟩]]) (fun _ h => h) ?_
  refine WO_box [.int .i64 p1] rfl rfl trivial rfl rfl rfl (fun b3 => ?_)
  refine WO.cls (C' := St w0 m m [[⟨b2, 24, [.int .i64 p0_0, .int .i64 p0_1, .int .i64 p0_2, .slice a_p0_3 p0_3.length c_p0_3]⟩], [⟨b3, 3, [.int .i64 p1]⟩]]) (fun _ h => h) ?_
  refine WO_alloc tbok [.int .i64 0, .int .i64 0, .int .i64 0, .slice none 0 0] rfl rfl trivial rfl rfl rfl rfl (fun b4 => ?_)
  refine WO.cls (C' := St w0 m m [[⟨b2, 24, [.int .i64 p0_0, .int .i64 p0_1, .int .i64 p0_2, .slice a_p0_3 p0_3.length c_p0_3]⟩], [⟨b3, 3, [.int .i64 p1]⟩], [⟨b4, 24, [.int .i64 0, .int .i64 0, .int .i64 0, .slice none 0 0]⟩]]) (fun _ h => h) ?_
  refine WO_pure tbok 1 [(2, .pointer (some ⟨b2, 0, none⟩)), (3, .pointer (some ⟨b3, 0, none⟩)), (4, .pointer (some ⟨b4, 0, none⟩)), (5, .int .i64 0)] rfl ⟨rfl, rfl, rfl, rfl, trivial⟩ ?_
  refine WO_end ?_
  refine WK_seq ?_
  refine WK_seq ?_
  refine WK_region ?_
  refine WO_loadB tbok 0 rfl rfl rfl rfl (fun _ h => h) rfl rfl ?_
  obtain ⟨y5, hc6, hm⟩ := bind_some hm
  refine WO_call0 (.int .i64 y5) rfl rfl trivial rfl rfl rfl rfl St_closed ⟨20, #[], #[], rfl, callable_20, fun w hw => ⟨_, hw.sat, raster_Check_walk h_p0_3 hc6⟩⟩ ?_
  refine WO_pure tbok 1 [(2, .pointer (some ⟨b2, 0, none⟩)), (3, .pointer (some ⟨b3, 0, none⟩)), (4, .pointer (some ⟨b4, 0, none⟩)), (5, .int .i64 0), (6, .int .i64 y5)] rfl ⟨rfl, rfl, rfl, rfl, rfl, trivial⟩ ?_
  refine WO_end ?_
  refine WK_seq ?_
  refine WK_region ?_
  refine WO_pure tbok 2 [(2, .pointer (some ⟨b2, 0, none⟩)), (3, .pointer (some ⟨b3, 0, none⟩)), (4, .pointer (some ⟨b4, 0, none⟩)), (5, .int .i64 0), (6, .int .i64 y5), (10, .bool (y5 != 0))] rfl ⟨rfl, rfl, rfl, rfl, rfl, rfl, trivial⟩ ?_
  refine WO_end ?_
  refine WK_cond (b := y5 != 0) rfl (fun hb7 => ?_) (fun hb7 => ?_)
  · have hm := ifT hb7 hm
    refine WK_seq ?_
    refine WK_region ?_
    refine WO_pure tbok 2 [(2, .pointer (some ⟨b2, 0, none⟩)), (3, .pointer (some ⟨b3, 0, none⟩)), (4, .pointer (some ⟨b4, 0, none⟩)), (5, .int .i64 0), (11, .agg #[.int .i64 0, .int .i64 0, .int .i64 0, .slice none 0 0]), (12, .int .i64 y5)] rfl ⟨rfl, rfl, rfl, rfl, rfl, rfl, trivial⟩ ?_
    refine WO_storeB tbok 2 [.int .i64 0, .int .i64 0, .int .i64 0, .slice none 0 0] rfl rfl rfl rfl rfl rfl rfl ?_
    refine WO.cls (C' := St w0 m m [[⟨b2, 24, [.int .i64 p0_0, .int .i64 p0_1, .int .i64 p0_2, .slice a_p0_3 p0_3.length c_p0_3]⟩], [⟨b3, 3, [.int .i64 p1]⟩], [⟨b4, 24, [.int .i64 0, .int .i64 0, .int .i64 0, .slice none 0 0]⟩]]) (fun _ h => h) ?_
    refine WO_pure tbok 1 [(2, .pointer (some ⟨b2, 0, none⟩)), (3, .pointer (some ⟨b3, 0, none⟩)), (4, .pointer (some ⟨b4, 0, none⟩)), (5, .int .i64 y5)] rfl ⟨rfl, rfl, rfl, rfl, trivial⟩ ?_
    refine WO_end ?_
    cases hm
    exact WK_ret (ret_out (L := []) (RLc_cell tbok 2 rfl rfl rfl (RLc_tmp rfl RLc_nil)) (List.nil_sublist _) ⟨none, 0, 0, rfl, (OwnE.nil none)⟩)
  · have hm := ifF hb7 hm
    refine WK_skip ?_
    refine WK_seq ?_
    refine WK_seq ?_
    obtain ⟨s8, hx9, hm⟩ := bind_some hm
    refine WK_meet [(2, .pointer (some ⟨b2, 0, none⟩)), (3, .pointer (some ⟨b3, 0, none⟩)), (4, .pointer (some ⟨b4, 0, none⟩)), (5, .int .i64 0), (18, .bool s8)] (St w0 m m [[⟨b2, 24, [.int .i64 p0_0, .int .i64 p0_1, .int .i64 p0_2, .slice a_p0_3 p0_3.length c_p0_3]⟩], [⟨b3, 3, [.int .i64 p1]⟩], [⟨b4, 24, [.int .i64 0, .int .i64 0, .int .i64 0, .slice none 0 0]⟩]]) ?_ (fun hk10 => ?_)
    · refine WK_cond (b := s8) rfl (fun hb11 => ?_) (fun hb11 => ?_)
      · have hm := ifT hb11 hm
        refine WK_seq ?_
        refine WK_region ?_
        refine WO_pure tbok 1 [(2, .pointer (some ⟨b2, 0, none⟩)), (3, .pointer (some ⟨b3, 0, none⟩)), (4, .pointer (some ⟨b4, 0, none⟩)), (5, .int .i64 0), (19, .agg #[.int .i64 0, .int .i64 0, .int .i64 0, .slice none 0 0])] rfl ⟨rfl, rfl, rfl, rfl, rfl, trivial⟩ ?_
        refine WO_storeB tbok 2 [.int .i64 0, .int .i64 0, .int .i64 0, .slice none 0 0] rfl rfl rfl rfl rfl rfl rfl ?_
        refine WO.cls (C' := St w0 m m [[⟨b2, 24, [.int .i64 p0_0, .int .i64 p0_1, .int .i64 p0_2, .slice a_p0_3 p0_3.length c_p0_3]⟩], [⟨b3, 3, [.int .i64 p1]⟩], [⟨b4, 24, [.int .i64 0, .int .i64 0, .int .i64 0, .slice none 0 0]⟩]]) (fun _ h => h) ?_
        refine WO_pure tbok 1 [(2, .pointer (some ⟨b2, 0, none⟩)), (3, .pointer (some ⟨b3, 0, none⟩)), (4, .pointer (some ⟨b4, 0, none⟩)), (5, .int .i64 2)] rfl ⟨rfl, rfl, rfl, rfl, trivial⟩ ?_
        refine WO_end ?_
        cases hm
        exact WK_ret (ret_out (L := []) (RLc_cell tbok 2 rfl rfl rfl (RLc_tmp rfl RLc_nil)) (List.nil_sublist _) ⟨none, 0, 0, rfl, (OwnE.nil none)⟩)
      · have hm := ifF hb11 hm
        refine WK_skip ?_
        refine WK_seq ?_
        refine WK_region ?_
        refine WO_pure tbok 1 [(2, .pointer (some ⟨b2, 0, none⟩)), (3, .pointer (some ⟨b3, 0, none⟩)), (4, .pointer (some ⟨b4, 0, none⟩)), (5, .int .i64 0), (20, .pointer (some ⟨b2, 0, none⟩))] rfl ⟨rfl, rfl, rfl, rfl, rfl, trivial⟩ ?_
        refine WO_loadB tbok 0 rfl rfl rfl rfl (fun _ h => h) rfl rfl ?_
        refine WO_pure tbok 1 [(2, .pointer (some ⟨b2, 0, none⟩)), (3, .pointer (some ⟨b3, 0, none⟩)), (4, .pointer (some ⟨b4, 0, none⟩)), (5, .int .i64 0), (21, .int .i64 p0_0), (22, .pointer (some ⟨b2, 1, none⟩))] rfl ⟨rfl, rfl, rfl, rfl, rfl, rfl, trivial⟩ ?_
        refine WO_loadB tbok 0 rfl rfl rfl rfl (fun _ h => h) rfl rfl ?_
        refine WO_loadB tbok 1 rfl rfl rfl rfl (fun _ h => h) rfl rfl ?_
        refine WO_pure tbok 1 [(4, .pointer (some ⟨b4, 0, none⟩)), (5, .int .i64 0), (21, .int .i64 p0_0), (23, .int .i64 p0_1), (24, .int .i64 p1), (25, .func (.func 58) #[] #[.pointer (some ⟨b2, 0, none⟩), .pointer (some ⟨b3, 0, none⟩)])] rfl ⟨rfl, rfl, rfl, rfl, rfl, rfl, trivial⟩ ?_
        obtain ⟨⟨y14, y15, y16, y17⟩, hc18, hm⟩ := bind_some hm
        refine WO_call1 (raster_made_Q (y14, y15, y16, y17)) rfl rfl trivial rfl rfl rfl rfl ⟨48, #[], #[], rfl, callable_48, fun w hw => ⟨_, hw.satV, raster_made_walk (fun z12 z13 _ h => specV_cap callable_58 (raster_Rescale_c1_walk (hw.memV (i := 0) rfl (List.mem_singleton.2 rfl)) (h_p0_3.mono (mono_FE _) hw.leV) (hw.memV (i := 1) rfl (List.mem_singleton.2 rfl)) h)) hc18⟩⟩ (fun v23 L22 hq => ?_)
        obtain ⟨a19, qa19, c20, rfl, hL22⟩ := hq
        obtain rfl := OwnE.qlen hL22
        refine WO.cls (C' := St w0 m m [[⟨b2, 24, [.int .i64 p0_0, .int .i64 p0_1, .int .i64 p0_2, .slice a_p0_3 p0_3.length c_p0_3]⟩], [⟨b3, 3, [.int .i64 p1]⟩], [⟨b4, 24, [.int .i64 0, .int .i64 0, .int .i64 0, .slice none 0 0]⟩], L22]) (fun _ h => h) ?_
        refine WO_storeB tbok 2 [.int .i64 y14, .int .i64 y15, .int .i64 y16, .slice a19 ((y17).length) c20] rfl rfl rfl rfl rfl rfl rfl ?_
        refine WO.cls (C' := St w0 m m [[⟨b2, 24, [.int .i64 p0_0, .int .i64 p0_1, .int .i64 p0_2, .slice a_p0_3 p0_3.length c_p0_3]⟩], [⟨b3, 3, [.int .i64 p1]⟩], [⟨b4, 24, [.int .i64 y14, .int .i64 y15, .int .i64 y16, .slice a19 ((y17).length) c20]⟩], L22]) (fun _ h => h) ?_
        refine WO_pure tbok 1 [(4, .pointer (some ⟨b4, 0, none⟩)), (5, .int .i64 0)] rfl ⟨rfl, rfl, trivial⟩ ?_
        refine WO_end ?_
        cases hm
        exact WK_ret (ret_out (L := L22) (RLc_cell tbok 2 rfl rfl rfl (RLc_tmp rfl RLc_nil)) (seg_sub 3 rfl) ⟨a19, ((y17).length), c20, rfl, hL22⟩)
    · refine WK_region ?_
      refine WO_loadB tbok 1 rfl rfl rfl rfl (fun _ h => h) rfl rfl ?_
      refine WO_pure tbok 2 [(2, .pointer (some ⟨b2, 0, none⟩)), (3, .pointer (some ⟨b3, 0, none⟩)), (4, .pointer (some ⟨b4, 0, none⟩)), (5, .int .i64 0), (15, .bool (decide (p1 < 1)))] rfl ⟨rfl, rfl, rfl, rfl, rfl, trivial⟩ ?_
      refine WO_split (d := 15) (b := decide (p1 < 1)) rfl (fun hb24 => ?_) (fun hb24 => ?_)
      · have hx9 := ifT hb24 hx9
        refine WO_pure tbok 3 [(2, .pointer (some ⟨b2, 0, none⟩)), (3, .pointer (some ⟨b3, 0, none⟩)), (4, .pointer (some ⟨b4, 0, none⟩)), (5, .int .i64 0), (18, .bool true)] rfl ⟨rfl, rfl, rfl, rfl, rfl, trivial⟩ ?_
        refine WO_end ?_
        cases hx9
        refine WK.sub ?_ (WK.cls (fun _ h => h) hk10)
        exact ⟨rfl, rfl, rfl, rfl, rfl, trivial⟩
      · have hx9 := ifF hb24 hx9
        refine WO_loadB tbok 1 rfl rfl rfl rfl (fun _ h => h) rfl rfl ?_
        refine WO_pure tbok 2 [(2, .pointer (some ⟨b2, 0, none⟩)), (3, .pointer (some ⟨b3, 0, none⟩)), (4, .pointer (some ⟨b4, 0, none⟩)), (5, .int .i64 0), (18, .bool (decide (65535 < p1)))] rfl ⟨rfl, rfl, rfl, rfl, rfl, trivial⟩ ?_
        refine WO_end ?_
        cases hx9
        refine WK.sub ?_ (WK.cls (fun _ h => h) hk10)
        exact ⟨rfl, rfl, rfl, rfl, rfl, trivial⟩
def fiducialref13_Rescale_Q (r : Int × Int × Int × List Int) : Value → List Ent → Prop := fun v L => ∃ (a0 : Option Addr) (q0 c0 : Nat), v = .agg #[.int .i64 r.1, .int .i64 r.2.1, .int .i64 r.2.2.1, .slice a0 q0 c0] ∧ OwnE 3 1 (I1 .i64) (.slice a0 q0 c0) r.2.2.2 L
theorem fiducialref13_Rescale_walk {m : Mu} {p0_0 : Int} {p0_1 : Int} {p0_2 : Int} {p0_3 : List Int} {p1 : Int} {a_p0_3 : Option Addr} {q_p0_3 c_p0_3 : Nat} (h_p0_3 : SlR (FE (I1 .i64)) 1 m (.slice a_p0_3 q_p0_3 c_p0_3) p0_3) {r : Int × Int × Int × List Int} (hm : fiducialref13_Rescale p0_0 p0_1 p0_2 p0_3 p1 = some r) :
    Go.E.Spec Try.prog 34 [.agg #[.int .i64 p0_0, .int .i64 p0_1, .int .i64 p0_2, .slice a_p0_3 q_p0_3 c_p0_3], .int .i64 p1] m (fun v _ L => fiducialref13_Rescale_Q r v L) := by
  refine Spec_enter Try.func34 rfl rfl rfl (fun w0 => ?_)
  refine WK.sub (e' := [(0, .agg #[.int .i64 p0_0, .int .i64 p0_1, .int .i64 p0_2, .slice a_p0_3 q_p0_3 c_p0_3]), (1, .int .i64 p1)]) ⟨rfl, rfl, trivial⟩ ?_
  obtain rfl := SlR.qlen h_p0_3
  refine WK.sub (e' := [(0, .agg #[.int .i64 p0_0, .int .i64 p0_1, .int .i64 p0_2, .slice a_p0_3 p0_3.length c_p0_3]), (1, .int .i64 p1)]) ⟨rfl, rfl, trivial⟩ ?_
  unfold fiducialref13_Rescale at hm
  refine WK_seq ?_
  refine WK_region ?_
  refine WO_box [.int .i64 p0_0, .int .i64 p0_1, .int .i64 p0_2, .slice a_p0_3 p0_3.length c_p0_3] rfl rfl trivial rfl rfl rfl (fun b2 => ?_)
  refine WO.cls (C' := St w0 m m [[⟨b2, 24, [.int .i64 p0_0, .int .i64 p0_1, .int .i64 p0_2, .slice a_p0_3 p0_3.length c_p0_3]⟩]]) (fun _ h => h) ?_
  refine WO_alloc tbok [.int .i64 0, .int .i64 0, .int .i64 0, .slice none 0 0] rfl rfl trivial rfl rfl rfl rfl (fun b3 => ?_)
  refine WO.cls (C' := St w0 m m [[⟨b2, 24, [.int .i64 p0_0, .int .i64 p0_1, .int .i64 p0_2, .slice a_p0_3 p0_3.length c_p0_3]⟩], [⟨b3, 24, [.int .i64 0, .int .i64 0, .int .i64 0, .slice none 0 0]⟩]]) (fun _ h => h) ?_
  refine WO_end ?_
  refine WK_seq ?_
  refine WK_region ?_
  refine WO_loadB tbok 0 rfl rfl rfl rfl (fun _ h => h) rfl rfl ?_
  obtain ⟨⟨y4, y5, y6, y7⟩, hc8, hm⟩ := bind_some hm
  refine WO_call1 (fiducialref13_Copy_Q (y4, y5, y6, y7)) rfl rfl trivial rfl rfl rfl rfl ⟨22, #[], #[], rfl, callable_22, fun w hw => ⟨_, hw.sat, fiducialref13_Copy_walk h_p0_3 hc8⟩⟩ (fun v13 L12 hq => ?_)
  obtain ⟨a9, qa9, c10, rfl, hL12⟩ := hq
  obtain rfl := OwnE.qlen hL12
  refine WO.cls (C' := St w0 m m [[⟨b2, 24, [.int .i64 p0_0, .int .i64 p0_1, .int .i64 p0_2, .slice a_p0_3 p0_3.length c_p0_3]⟩], [⟨b3, 24, [.int .i64 0, .int .i64 0, .int .i64 0, .slice none 0 0]⟩], L12]) (fun _ h => h) ?_
  refine WO_alloc tbok [.int .i64 0, .int .i64 0, .int .i64 0, .slice none 0 0] rfl rfl trivial rfl rfl rfl rfl (fun b14 => ?_)
  refine WO.cls (C' := St w0 m m [[⟨b2, 24, [.int .i64 p0_0, .int .i64 p0_1, .int .i64 p0_2, .slice a_p0_3 p0_3.length c_p0_3]⟩], [⟨b3, 24, [.int .i64 0, .int .i64 0, .int .i64 0, .slice none 0 0]⟩], L12, [⟨b14, 24, [.int .i64 0, .int .i64 0, .int .i64 0, .slice none 0 0]⟩]]) (fun _ h => h) ?_
  refine WO_storeB tbok 3 [.int .i64 y4, .int .i64 y5, .int .i64 y6, .slice a9 ((y7).length) c10] rfl rfl rfl rfl rfl rfl rfl ?_
  refine WO.cls (C' := St w0 m m [[⟨b2, 24, [.int .i64 p0_0, .int .i64 p0_1, .int .i64 p0_2, .slice a_p0_3 p0_3.length c_p0_3]⟩], [⟨b3, 24, [.int .i64 0, .int .i64 0, .int .i64 0, .slice none 0 0]⟩], L12, [⟨b14, 24, [.int .i64 y4, .int .i64 y5, .int .i64 y6, .slice a9 ((y7).length) c10]⟩]]) (fun _ h => h) ?_
  refine WO_end ?_
  refine WK_seq ?_
  refine WK_region ?_
  refine WO_pure tbok 2 [(1, .int .i64 p1), (2, .pointer (some ⟨b2, 0, none⟩)), (4, .pointer (some ⟨b3, 0, none⟩)), (5, .pointer (some ⟨b14, 0, none⟩)), (9, .int .i64 p1), (10, .pointer (some ⟨b14, 2, none⟩))] rfl ⟨rfl, rfl, rfl, rfl, rfl, rfl, trivial⟩ ?_
  refine WO_storeB tbok 3 [.int .i64 y4, .int .i64 y5, .int .i64 p1, .slice a9 ((y7).length) c10] rfl rfl rfl rfl rfl rfl rfl ?_
  refine WO.cls (C' := St w0 m m [[⟨b2, 24, [.int .i64 p0_0, .int .i64 p0_1, .int .i64 p0_2, .slice a_p0_3 p0_3.length c_p0_3]⟩], [⟨b3, 24, [.int .i64 0, .int .i64 0, .int .i64 0, .slice none 0 0]⟩], L12, [⟨b14, 24, [.int .i64 y4, .int .i64 y5, .int .i64 p1, .slice a9 ((y7).length) c10]⟩]]) (fun _ h => h) ?_
  refine WO_end ?_
  refine WK_seq ?_
  refine WK_seq ?_
  refine WK_region ?_
  refine WO_pure tbok 1 [(1, .int .i64 p1), (2, .pointer (some ⟨b2, 0, none⟩)), (4, .pointer (some ⟨b3, 0, none⟩)), (5, .pointer (some ⟨b14, 0, none⟩)), (6, .int .i64 0)] rfl ⟨rfl, rfl, rfl, rfl, rfl, trivial⟩ ?_
  refine WO_end ?_
  obtain ⟨x22, hx23, hm⟩ := bind_some hm
  refine WK_join (β := (List Int) × (List Ent)) (fun p => p.1 = x22 ∧ OwnE 3 1 (I1 .i64) (.slice a9 ((y7).length) c10) p.1 p.2) (fun p => [(4, .pointer (some ⟨b3, 0, none⟩)), (5, .pointer (some ⟨b14, 0, none⟩))]) (fun p => St w0 m m [[⟨b2, 24, [.int .i64 p0_0, .int .i64 p0_1, .int .i64 p0_2, .slice a_p0_3 p0_3.length c_p0_3]⟩], [⟨b3, 24, [.int .i64 0, .int .i64 0, .int .i64 0, .slice none 0 0]⟩], p.2, [⟨b14, 24, [.int .i64 y4, .int .i64 y5, .int .i64 p1, .slice a9 ((y7).length) c10]⟩]]) ?_ (fun hk24 => ?_)
  · rintro ⟨l19, L21⟩ ⟨hq30, hL21⟩
    subst hq30
    refine WK.sub (e' := [(4, .pointer (some ⟨b3, 0, none⟩)), (5, .pointer (some ⟨b14, 0, none⟩))]) ⟨rfl, rfl, trivial⟩ (WK.cls (C' := St w0 m m [[⟨b2, 24, [.int .i64 p0_0, .int .i64 p0_1, .int .i64 p0_2, .slice a_p0_3 p0_3.length c_p0_3]⟩], [⟨b3, 24, [.int .i64 0, .int .i64 0, .int .i64 0, .slice none 0 0]⟩], L21, [⟨b14, 24, [.int .i64 y4, .int .i64 y5, .int .i64 p1, .slice a9 ((y7).length) c10]⟩]]) (fun _ h => h) ?_)
    refine WK_seq ?_
    refine WK_region ?_
    refine WO_loadB tbok 3 rfl rfl rfl rfl (fun _ h => h) rfl rfl ?_
    refine WO_storeB tbok 1 [.int .i64 y4, .int .i64 y5, .int .i64 p1, .slice a9 ((y7).length) c10] rfl rfl rfl rfl rfl rfl rfl ?_
    refine WO.cls (C' := St w0 m m [[⟨b2, 24, [.int .i64 p0_0, .int .i64 p0_1, .int .i64 p0_2, .slice a_p0_3 p0_3.length c_p0_3]⟩], [⟨b3, 24, [.int .i64 y4, .int .i64 y5, .int .i64 p1, .slice a9 ((y7).length) c10]⟩], L21, [⟨b14, 24, [.int .i64 y4, .int .i64 y5, .int .i64 p1, .slice a9 ((y7).length) c10]⟩]]) (fun _ h => h) ?_
    refine WO_end ?_
    cases hm
    exact WK_ret (ret_out (L := L21) (RLc_cell tbok 1 rfl rfl rfl RLc_nil) (seg_sub 2 rfl) ⟨a9, ((y7).length), c10, rfl, hL21⟩)
  · refine WK_block ?_
    refine WK_loop (S := List Int × Int) (G := List Ent) (fun s => fiducialref13_Rescale_s1 p0_2 p0_3 p1 s.1 s.2) (fun s g => [(1, .int .i64 p1), (2, .pointer (some ⟨b2, 0, none⟩)), (4, .pointer (some ⟨b3, 0, none⟩)), (5, .pointer (some ⟨b14, 0, none⟩)), (6, .int .i64 s.2)]) (fun s g => St w0 m m [[⟨b2, 24, [.int .i64 p0_0, .int .i64 p0_1, .int .i64 p0_2, .slice a_p0_3 p0_3.length c_p0_3]⟩], [⟨b3, 24, [.int .i64 0, .int .i64 0, .int .i64 0, .slice none 0 0]⟩], g, [⟨b14, 24, [.int .i64 y4, .int .i64 y5, .int .i64 p1, .slice a9 ((y7).length) c10]⟩]]) (fun s g => OwnE 3 1 (I1 .i64) (.slice a9 ((y7).length) c10) s.1 g) FUEL (y7, 0) L12 x22 hx23 hL12 ⟨rfl, rfl, rfl, rfl, rfl, trivial⟩ (fun _ h => h) ?_
    rintro ⟨l15, s18⟩ L17 o26 fl27 hm25 hL17 hn28 hd29
    have hm25 : fiducialref13_Rescale_s1 p0_2 p0_3 p1 l15 s18 = some o26 := hm25
    unfold fiducialref13_Rescale_s1 at hm25
    refine WK.sub (e' := [(1, .int .i64 p1), (2, .pointer (some ⟨b2, 0, none⟩)), (4, .pointer (some ⟨b3, 0, none⟩)), (5, .pointer (some ⟨b14, 0, none⟩)), (6, .int .i64 s18)]) ⟨rfl, rfl, rfl, rfl, rfl, trivial⟩ (WK.cls (C' := St w0 m m [[⟨b2, 24, [.int .i64 p0_0, .int .i64 p0_1, .int .i64 p0_2, .slice a_p0_3 p0_3.length c_p0_3]⟩], [⟨b3, 24, [.int .i64 0, .int .i64 0, .int .i64 0, .slice none 0 0]⟩], L17, [⟨b14, 24, [.int .i64 y4, .int .i64 y5, .int .i64 p1, .slice a9 ((y7).length) c10]⟩]]) (fun _ h => h) ?_)
    refine WK_seq ?_
    refine WK_seq ?_
    refine WK_region ?_
    refine WO_pure tbok 2 [(1, .int .i64 p1), (2, .pointer (some ⟨b2, 0, none⟩)), (4, .pointer (some ⟨b3, 0, none⟩)), (5, .pointer (some ⟨b14, 0, none⟩)), (6, .int .i64 s18), (11, .int .i64 s18), (12, .pointer (some ⟨b2, 3, none⟩))] rfl ⟨rfl, rfl, rfl, rfl, rfl, rfl, rfl, trivial⟩ ?_
    refine WO_loadB tbok 0 rfl rfl rfl rfl (fun _ h => h) rfl rfl ?_
    refine WO_pure tbok 2 [(1, .int .i64 p1), (2, .pointer (some ⟨b2, 0, none⟩)), (4, .pointer (some ⟨b3, 0, none⟩)), (5, .pointer (some ⟨b14, 0, none⟩)), (6, .int .i64 s18), (15, .bool (decide (s18 < (p0_3.length : Int))))] rfl ⟨rfl, rfl, rfl, rfl, rfl, rfl, trivial⟩ ?_
    refine WO_end ?_
    refine WK_cond (b := decide (s18 < (p0_3.length : Int))) rfl (fun hb31 => ?_) (fun hb31 => ?_)
    · have hm25 := ifT hb31 hm25
      refine WK_skip ?_
      refine WK_seq ?_
      refine WK_block ?_
      refine WK_draw 19 [0, 1, 2, 3, 4, 5, 6, 7, 8, 9, 10, 11, 12, 13, 14, 15, 16, 17, 18] follows_ok (by kernel_rfl) St_closed ?_
      refine WO_pure tbok 1 [(1, .int .i64 p1), (2, .pointer (some ⟨b2, 0, none⟩)), (4, .pointer (some ⟨b3, 0, none⟩)), (5, .pointer (some ⟨b14, 0, none⟩)), (6, .int .i64 s18), (18, .pointer (some ⟨b14, 3, none⟩))] rfl ⟨rfl, rfl, rfl, rfl, rfl, rfl, trivial⟩ ?_
      refine WO_loadB tbok 3 rfl rfl rfl rfl (fun _ h => h) rfl rfl ?_
      refine WO_pure tbok 2 [(1, .int .i64 p1), (2, .pointer (some ⟨b2, 0, none⟩)), (4, .pointer (some ⟨b3, 0, none⟩)), (5, .pointer (some ⟨b14, 0, none⟩)), (6, .int .i64 s18), (19, .slice a9 ((y7).length) c10), (20, .int .i64 s18), (21, .pointer (some ⟨b2, 3, none⟩))] rfl ⟨rfl, rfl, rfl, rfl, rfl, rfl, rfl, rfl, trivial⟩ ?_
      refine WO_loadB tbok 0 rfl rfl rfl rfl (fun _ h => h) rfl rfl ?_
      refine WO_pure tbok 1 [(1, .int .i64 p1), (2, .pointer (some ⟨b2, 0, none⟩)), (4, .pointer (some ⟨b3, 0, none⟩)), (5, .pointer (some ⟨b14, 0, none⟩)), (6, .int .i64 s18), (19, .slice a9 ((y7).length) c10), (20, .int .i64 s18), (22, .slice a_p0_3 p0_3.length c_p0_3), (23, .int .i64 s18)] rfl ⟨rfl, rfl, rfl, rfl, rfl, rfl, rfl, rfl, rfl, trivial⟩ ?_
      obtain ⟨v32, hy33, hm25⟩ := bind_some hm25
      obtain ⟨hc34, hy33⟩ := ix_some hy33
      refine WO_index tbok rfl rfl rfl rfl rfl rfl rfl rfl (SlR.addr h_p0_3) hc34 ?_
      refine WO_loadE tbok rfl rfl rfl rfl (fun _ h => St.sat h) h_p0_3 hy33 rfl ?_
      refine WO_pure tbok 4 [(1, .int .i64 p1), (2, .pointer (some ⟨b2, 0, none⟩)), (4, .pointer (some ⟨b3, 0, none⟩)), (5, .pointer (some ⟨b14, 0, none⟩)), (6, .int .i64 s18), (19, .slice a9 ((y7).length) c10), (20, .int .i64 s18), (28, .int .i64 (w64 ((w64 (2 * v32)) * p1))), (29, .pointer (some ⟨b2, 2, none⟩))] rfl ⟨rfl, rfl, rfl, rfl, rfl, rfl, rfl, rfl, rfl, trivial⟩ ?_
      refine WO_loadB tbok 0 rfl rfl rfl rfl (fun _ h => h) rfl rfl ?_
      refine WO_pure tbok 2 [(1, .int .i64 p1), (2, .pointer (some ⟨b2, 0, none⟩)), (4, .pointer (some ⟨b3, 0, none⟩)), (5, .pointer (some ⟨b14, 0, none⟩)), (6, .int .i64 s18), (19, .slice a9 ((y7).length) c10), (20, .int .i64 s18), (31, .int .i64 (w64 ((w64 ((w64 (2 * v32)) * p1)) + p0_2))), (32, .pointer (some ⟨b2, 2, none⟩))] rfl ⟨rfl, rfl, rfl, rfl, rfl, rfl, rfl, rfl, rfl, trivial⟩ ?_
      refine WO_loadB tbok 0 rfl rfl rfl rfl (fun _ h => h) rfl rfl ?_
      refine WO_pure tbok 1 [(1, .int .i64 p1), (2, .pointer (some ⟨b2, 0, none⟩)), (4, .pointer (some ⟨b3, 0, none⟩)), (5, .pointer (some ⟨b14, 0, none⟩)), (6, .int .i64 s18), (19, .slice a9 ((y7).length) c10), (20, .int .i64 s18), (31, .int .i64 (w64 ((w64 ((w64 (2 * v32)) * p1)) + p0_2))), (34, .int .i64 (w64 (2 * p0_2)))] rfl ⟨rfl, rfl, rfl, rfl, rfl, rfl, rfl, rfl, rfl, trivial⟩ ?_
      obtain ⟨hc35, hm25⟩ := chk_some hm25
      refine WO_quo rfl rfl rfl rfl rfl hc35 ?_
      obtain ⟨hc36, hm25⟩ := chk_some hm25
      refine WO_index tbok rfl rfl rfl rfl rfl rfl rfl rfl (OwnE.addr hL17) (by simpa using hc36) ?_
      refine WO_tail ?_
      refine WO_storeO (E := (I1 .i64)) tbok (fun _ => rfl) 2 (w64 (Int.tdiv (w64 ((w64 ((w64 (2 * v32)) * p1)) + p0_2)) (w64 (2 * p0_2)))) rfl rfl rfl rfl rfl hL17 rfl (by simpa using idx_lt hc36) rfl rfl rfl rfl (fun L37 hL37 => ?_)
      refine WO.cls (C' := St w0 m m [[⟨b2, 24, [.int .i64 p0_0, .int .i64 p0_1, .int .i64 p0_2, .slice a_p0_3 p0_3.length c_p0_3]⟩], [⟨b3, 24, [.int .i64 0, .int .i64 0, .int .i64 0, .slice none 0 0]⟩], L37, [⟨b14, 24, [.int .i64 y4, .int .i64 y5, .int .i64 p1, .slice a9 ((y7).length) c10]⟩]]) (fun _ h => h) ?_
      refine WO_end ?_
      refine WK_blk ?_
      refine WK_region ?_
      refine WO_pure tbok 3 [(1, .int .i64 p1), (2, .pointer (some ⟨b2, 0, none⟩)), (4, .pointer (some ⟨b3, 0, none⟩)), (5, .pointer (some ⟨b14, 0, none⟩)), (6, .int .i64 (w64 (s18 + 1)))] rfl ⟨rfl, rfl, rfl, rfl, rfl, trivial⟩ ?_
      refine WO_end ?_
      cases hm25
      refine WK.sub ?_ (WK.cls (fun _ h => h) (hn28 _ L37 rfl hL37))
      exact ⟨rfl, rfl, rfl, rfl, rfl, trivial⟩
    · have hm25 := ifF hb31 hm25
      refine WK_exit rfl ?_
      cases hm25
      refine WK.sub ?_ (WK.cls (fun _ h => h) (hk24 (l15, L17) ⟨(hd29 _ rfl), hL17⟩))
      exact ⟨rfl, rfl, trivial⟩
theorem fiducialref13_Sum_walk {m : Mu} {p0_0 : Int} {p0_1 : Int} {p0_2 : Int} {p0_3 : List Int} {p1 : Int} {p2 : Int} {p3 : Int} {p4 : Int} {a_p0_3 : Option Addr} {q_p0_3 c_p0_3 : Nat} (h_p0_3 : SlR (FE (I1 .i64)) 1 m (.slice a_p0_3 q_p0_3 c_p0_3) p0_3) {r : Int} (hm : fiducialref13_Sum p0_0 p0_1 p0_2 p0_3 p1 p2 p3 p4 = some r) :
    Go.E.Spec Try.prog 35 [.agg #[.int .i64 p0_0, .int .i64 p0_1, .int .i64 p0_2, .slice a_p0_3 q_p0_3 c_p0_3], .int .i64 p1, .int .i64 p2, .int .i64 p3, .int .i64 p4] m (fun v _ _ => v = .int .i64 r) := by
  refine Spec_enter Try.func35 rfl rfl rfl (fun w0 => ?_)
  refine WK.sub (e' := [(0, .agg #[.int .i64 p0_0, .int .i64 p0_1, .int .i64 p0_2, .slice a_p0_3 q_p0_3 c_p0_3]), (1, .int .i64 p1), (2, .int .i64 p2), (3, .int .i64 p3), (4, .int .i64 p4)]) ⟨rfl, rfl, rfl, rfl, rfl, trivial⟩ ?_
  obtain rfl := SlR.qlen h_p0_3
  refine WK.sub (e' := [(0, .agg #[.int .i64 p0_0, .int .i64 p0_1, .int .i64 p0_2, .slice a_p0_3 p0_3.length c_p0_3]), (1, .int .i64 p1), (2, .int .i64 p2), (3, .int .i64 p3), (4, .int .i64 p4)]) ⟨rfl, rfl, rfl, rfl, rfl, trivial⟩ ?_
  unfold fiducialref13_Sum at hm
  refine WK_seq ?_
  refine WK_region ?_
  refine WO_box [.int .i64 p0_0, .int .i64 p0_1, .int .i64 p0_2, .slice a_p0_3 p0_3.length c_p0_3] rfl rfl trivial rfl rfl rfl (fun b2 => ?_)
  refine WO.cls (C' := St w0 m m [[⟨b2, 24, [.int .i64 p0_0, .int .i64 p0_1, .int .i64 p0_2, .slice a_p0_3 p0_3.length c_p0_3]⟩]]) (fun _ h => h) ?_
  refine WO_pure tbok 1 [(1, .int .i64 p1), (2, .int .i64 p2), (3, .int .i64 p3), (4, .int .i64 p4), (5, .pointer (some ⟨b2, 0, none⟩)), (10, .int .i64 0)] rfl ⟨rfl, rfl, rfl, rfl, rfl, rfl, trivial⟩ ?_
  refine WO_end ?_
  refine WK_seq ?_
  refine WK_region ?_
  refine WO_pure tbok 1 [(1, .int .i64 p1), (2, .int .i64 p2), (3, .int .i64 p3), (4, .int .i64 p4), (5, .pointer (some ⟨b2, 0, none⟩)), (10, .int .i64 0), (11, .int .i64 0)] rfl ⟨rfl, rfl, rfl, rfl, rfl, rfl, rfl, trivial⟩ ?_
  refine WO_end ?_
  refine WK_seq ?_
  refine WK_seq ?_
  refine WK_region ?_
  refine WO_pure tbok 2 [(1, .int .i64 p1), (2, .int .i64 p2), (3, .int .i64 p3), (4, .int .i64 p4), (5, .pointer (some ⟨b2, 0, none⟩)), (10, .int .i64 0), (11, .int .i64 0), (12, .int .i64 p2)] rfl ⟨rfl, rfl, rfl, rfl, rfl, rfl, rfl, rfl, trivial⟩ ?_
  refine WO_end ?_
  obtain ⟨x6, hx7, hm⟩ := bind_some hm
  refine WK_join (β := Int × Unit) (fun p => p.1 = x6) (fun p => [(10, .int .i64 0), (11, .int .i64 p.1)]) (fun p => St w0 m m [[⟨b2, 24, [.int .i64 p0_0, .int .i64 p0_1, .int .i64 p0_2, .slice a_p0_3 p0_3.length c_p0_3]⟩]]) ?_ (fun hk8 => ?_)
  · rintro ⟨s5, ⟨⟩⟩ hq14
    subst hq14
    refine WK.sub (e' := [(10, .int .i64 0), (11, .int .i64 s5)]) ⟨rfl, rfl, trivial⟩ (WK.cls (C' := St w0 m m [[⟨b2, 24, [.int .i64 p0_0, .int .i64 p0_1, .int .i64 p0_2, .slice a_p0_3 p0_3.length c_p0_3]⟩]]) (fun _ h => h) ?_)
    refine WK_seq ?_
    refine WK_region ?_
    refine WO_pure tbok 2 [(10, .int .i64 s5)] rfl ⟨rfl, trivial⟩ ?_
    refine WO_end ?_
    cases hm
    exact WK_ret (ret_out (L := []) (RLc_tmp rfl RLc_nil) (List.nil_sublist _) rfl)
  · refine WK_block ?_
    refine WK_loop (S := Int × Int) (G := Unit) (fun s => fiducialref13_Sum_s1 p0_0 p0_1 p0_2 p0_3 p1 p2 p3 p4 s.1 s.2) (fun s g => [(1, .int .i64 p1), (2, .int .i64 p2), (3, .int .i64 p3), (4, .int .i64 p4), (5, .pointer (some ⟨b2, 0, none⟩)), (10, .int .i64 0), (11, .int .i64 s.1), (12, .int .i64 s.2)]) (fun s g => St w0 m m [[⟨b2, 24, [.int .i64 p0_0, .int .i64 p0_1, .int .i64 p0_2, .slice a_p0_3 p0_3.length c_p0_3]⟩]]) (fun s g => True) FUEL (0, p2) () x6 hx7 trivial ⟨rfl, rfl, rfl, rfl, rfl, rfl, rfl, rfl, trivial⟩ (fun _ h => h) ?_
    rintro ⟨s3, s4⟩ ⟨⟩ o10 fl11 hm9 - hn12 hd13
    have hm9 : fiducialref13_Sum_s1 p0_0 p0_1 p0_2 p0_3 p1 p2 p3 p4 s3 s4 = some o10 := hm9
    unfold fiducialref13_Sum_s1 at hm9
    refine WK.sub (e' := [(1, .int .i64 p1), (2, .int .i64 p2), (3, .int .i64 p3), (4, .int .i64 p4), (5, .pointer (some ⟨b2, 0, none⟩)), (10, .int .i64 0), (11, .int .i64 s3), (12, .int .i64 s4)]) ⟨rfl, rfl, rfl, rfl, rfl, rfl, rfl, rfl, trivial⟩ (WK.cls (C' := St w0 m m [[⟨b2, 24, [.int .i64 p0_0, .int .i64 p0_1, .int .i64 p0_2, .slice a_p0_3 p0_3.length c_p0_3]⟩]]) (fun _ h => h) ?_)
    refine WK_seq ?_
    refine WK_seq ?_
    refine WK_region ?_
    refine WO_pure tbok 5 [(1, .int .i64 p1), (2, .int .i64 p2), (3, .int .i64 p3), (4, .int .i64 p4), (5, .pointer (some ⟨b2, 0, none⟩)), (10, .int .i64 0), (11, .int .i64 s3), (12, .int .i64 s4), (19, .bool (decide (s4 < (w64 (p2 + p4)))))] rfl ⟨rfl, rfl, rfl, rfl, rfl, rfl, rfl, rfl, rfl, trivial⟩ ?_
    refine WO_end ?_
    refine WK_cond (b := decide (s4 < (w64 (p2 + p4)))) rfl (fun hb15 => ?_) (fun hb15 => ?_)
    · have hm9 := ifT hb15 hm9
      refine WK_skip ?_
      refine WK_seq ?_
      refine WK_block ?_
      refine WK_seq ?_
      refine WK_region ?_
      refine WO_pure tbok 2 [(1, .int .i64 p1), (2, .int .i64 p2), (3, .int .i64 p3), (4, .int .i64 p4), (5, .pointer (some ⟨b2, 0, none⟩)), (10, .int .i64 0), (11, .int .i64 s3), (12, .int .i64 s4), (13, .int .i64 p1)] rfl ⟨rfl, rfl, rfl, rfl, rfl, rfl, rfl, rfl, rfl, trivial⟩ ?_
      refine WO_end ?_
      obtain ⟨x19, hx20, hm9⟩ := bind_some hm9
      refine WK_join (β := Int × Unit) (fun p => p.1 = x19) (fun p => [(1, .int .i64 p1), (2, .int .i64 p2), (3, .int .i64 p3), (4, .int .i64 p4), (5, .pointer (some ⟨b2, 0, none⟩)), (10, .int .i64 0), (11, .int .i64 p.1), (12, .int .i64 s4)]) (fun p => St w0 m m [[⟨b2, 24, [.int .i64 p0_0, .int .i64 p0_1, .int .i64 p0_2, .slice a_p0_3 p0_3.length c_p0_3]⟩]]) ?_ (fun hk21 => ?_)
      · rintro ⟨s18, ⟨⟩⟩ hq27
        subst hq27
        refine WK.sub (e' := [(1, .int .i64 p1), (2, .int .i64 p2), (3, .int .i64 p3), (4, .int .i64 p4), (5, .pointer (some ⟨b2, 0, none⟩)), (10, .int .i64 0), (11, .int .i64 s18), (12, .int .i64 s4)]) ⟨rfl, rfl, rfl, rfl, rfl, rfl, rfl, rfl, trivial⟩ (WK.cls (C' := St w0 m m [[⟨b2, 24, [.int .i64 p0_0, .int .i64 p0_1, .int .i64 p0_2, .slice a_p0_3 p0_3.length c_p0_3]⟩]]) (fun _ h => h) ?_)
        refine WK_blk ?_
        refine WK_region ?_
        refine WO_pure tbok 3 [(1, .int .i64 p1), (2, .int .i64 p2), (3, .int .i64 p3), (4, .int .i64 p4), (5, .pointer (some ⟨b2, 0, none⟩)), (10, .int .i64 0), (11, .int .i64 s18), (12, .int .i64 (w64 (s4 + 1)))] rfl ⟨rfl, rfl, rfl, rfl, rfl, rfl, rfl, rfl, trivial⟩ ?_
        refine WO_end ?_
        cases hm9
        refine WK.sub ?_ (WK.cls (fun _ h => h) (hn12 _ () rfl trivial))
        exact ⟨rfl, rfl, rfl, rfl, rfl, rfl, rfl, rfl, trivial⟩
      · refine WK_block ?_
        refine WK_loop (S := Int × Int) (G := Unit) (fun s => fiducialref13_Sum_s2 p0_0 p0_1 p0_2 p0_3 p1 p3 s4 s.1 s.2) (fun s g => [(1, .int .i64 p1), (2, .int .i64 p2), (3, .int .i64 p3), (4, .int .i64 p4), (5, .pointer (some ⟨b2, 0, none⟩)), (10, .int .i64 0), (11, .int .i64 s.1), (12, .int .i64 s4), (13, .int .i64 s.2)]) (fun s g => St w0 m m [[⟨b2, 24, [.int .i64 p0_0, .int .i64 p0_1, .int .i64 p0_2, .slice a_p0_3 p0_3.length c_p0_3]⟩]]) (fun s g => True) FUEL (s3, p1) () x19 hx20 trivial ⟨rfl, rfl, rfl, rfl, rfl, rfl, rfl, rfl, rfl, trivial⟩ (fun _ h => h) ?_
        rintro ⟨s16, s17⟩ ⟨⟩ o23 fl24 hm22 - hn25 hd26
        have hm22 : fiducialref13_Sum_s2 p0_0 p0_1 p0_2 p0_3 p1 p3 s4 s16 s17 = some o23 := hm22
        unfold fiducialref13_Sum_s2 at hm22
        refine WK.sub (e' := [(1, .int .i64 p1), (2, .int .i64 p2), (3, .int .i64 p3), (4, .int .i64 p4), (5, .pointer (some ⟨b2, 0, none⟩)), (10, .int .i64 0), (11, .int .i64 s16), (12, .int .i64 s4), (13, .int .i64 s17)]) ⟨rfl, rfl, rfl, rfl, rfl, rfl, rfl, rfl, rfl, trivial⟩ (WK.cls (C' := St w0 m m [[⟨b2, 24, [.int .i64 p0_0, .int .i64 p0_1, .int .i64 p0_2, .slice a_p0_3 p0_3.length c_p0_3]⟩]]) (fun _ h => h) ?_)
        refine WK_seq ?_
        refine WK_seq ?_
        refine WK_region ?_
        refine WO_pure tbok 5 [(1, .int .i64 p1), (2, .int .i64 p2), (3, .int .i64 p3), (4, .int .i64 p4), (5, .pointer (some ⟨b2, 0, none⟩)), (10, .int .i64 0), (11, .int .i64 s16), (12, .int .i64 s4), (13, .int .i64 s17), (27, .bool (decide (s17 < (w64 (p1 + p3)))))] rfl ⟨rfl, rfl, rfl, rfl, rfl, rfl, rfl, rfl, rfl, rfl, trivial⟩ ?_
        refine WO_end ?_
        refine WK_cond (b := decide (s17 < (w64 (p1 + p3)))) rfl (fun hb28 => ?_) (fun hb28 => ?_)
        · have hm22 := ifT hb28 hm22
          refine WK_skip ?_
          refine WK_seq ?_
          refine WK_block ?_
          refine WK_region ?_
          refine WO_pure tbok 1 [(1, .int .i64 p1), (2, .int .i64 p2), (3, .int .i64 p3), (4, .int .i64 p4), (5, .pointer (some ⟨b2, 0, none⟩)), (10, .int .i64 0), (11, .int .i64 s16), (12, .int .i64 s4), (13, .int .i64 s17), (30, .int .i64 s16)] rfl ⟨rfl, rfl, rfl, rfl, rfl, rfl, rfl, rfl, rfl, rfl, trivial⟩ ?_
          refine WO_loadB tbok 0 rfl rfl rfl rfl (fun _ h => h) rfl rfl ?_
          refine WO_pure tbok 2 [(1, .int .i64 p1), (2, .int .i64 p2), (3, .int .i64 p3), (4, .int .i64 p4), (5, .pointer (some ⟨b2, 0, none⟩)), (10, .int .i64 0), (11, .int .i64 s16), (12, .int .i64 s4), (13, .int .i64 s17), (30, .int .i64 s16), (31, .agg #[.int .i64 p0_0, .int .i64 p0_1, .int .i64 p0_2, .slice a_p0_3 p0_3.length c_p0_3]), (32, .int .i64 s17), (33, .int .i64 s4)] rfl ⟨rfl, rfl, rfl, rfl, rfl, rfl, rfl, rfl, rfl, rfl, rfl, rfl, rfl, trivial⟩ ?_
          obtain ⟨y29, hc30, hm22⟩ := bind_some hm22
          refine WO_call0 (.int .i64 y29) rfl rfl trivial rfl rfl rfl rfl St_closed ⟨44, #[], #[], rfl, callable_44, fun w hw => ⟨_, hw.sat, fiducialref13_At_walk h_p0_3 hc30⟩⟩ ?_
          refine WO_pure tbok 2 [(1, .int .i64 p1), (2, .int .i64 p2), (3, .int .i64 p3), (4, .int .i64 p4), (5, .pointer (some ⟨b2, 0, none⟩)), (10, .int .i64 0), (11, .int .i64 (w64 (s16 + y29))), (12, .int .i64 s4), (13, .int .i64 s17)] rfl ⟨rfl, rfl, rfl, rfl, rfl, rfl, rfl, rfl, rfl, trivial⟩ ?_
          refine WO_end ?_
          refine WK_blk ?_
          refine WK_region ?_
          refine WO_pure tbok 3 [(1, .int .i64 p1), (2, .int .i64 p2), (3, .int .i64 p3), (4, .int .i64 p4), (5, .pointer (some ⟨b2, 0, none⟩)), (10, .int .i64 0), (11, .int .i64 (w64 (s16 + y29))), (12, .int .i64 s4), (13, .int .i64 (w64 (s17 + 1)))] rfl ⟨rfl, rfl, rfl, rfl, rfl, rfl, rfl, rfl, rfl, trivial⟩ ?_
          refine WO_end ?_
          cases hm22
          refine WK.sub ?_ (WK.cls (fun _ h => h) (hn25 _ () rfl trivial))
          exact ⟨rfl, rfl, rfl, rfl, rfl, rfl, rfl, rfl, rfl, trivial⟩
        · have hm22 := ifF hb28 hm22
          refine WK_exit rfl ?_
          cases hm22
          refine WK.sub ?_ (WK.cls (fun _ h => h) (hk21 (s16, ()) (hd26 _ rfl)))
          exact ⟨rfl, rfl, rfl, rfl, rfl, rfl, rfl, rfl, trivial⟩
    · have hm9 := ifF hb15 hm9
      refine WK_exit rfl ?_
      cases hm9
      refine WK.sub ?_ (WK.cls (fun _ h => h) (hk8 (s3, ()) (hd13 _ rfl)))
      exact ⟨rfl, rfl, trivial⟩
theorem slices_IndexFunc_ssint_walk {m : Mu} {p0 : List (List Int)} {p1 : List Int → Option Bool} {a_p0 : Option Addr} {q_p0 c_p0 : Nat} {p1v : Value} (h_p0 : SlR (RowE (FE (I1 .i64)) 1) 1 m (.slice a_p0 q_p0 c_p0) p0) (hp1 : ∀ (au1 : Option Addr) (qu1 cu1 : Nat) (u1 : List Int), SlR (FE (I1 .i64)) 1 m (.slice au1 qu1 cu1) u1 → ∀ (r : Bool), p1 u1 = some r → SpecV Try.prog p1v [.slice au1 qu1 cu1] m (fun v _ _ => v = .bool r)) {r : Int} (hm : slices_IndexFunc_ssint p0 p1 = some r) :
    Go.E.Spec Try.prog 66 [.slice a_p0 q_p0 c_p0, p1v] m (fun v _ _ => v = .int .i64 r) := by
  refine Spec_enter Try.func66 rfl rfl rfl (fun w0 => ?_)
  refine WK.sub (e' := [(0, .slice a_p0 q_p0 c_p0), (1, p1v)]) ⟨rfl, rfl, trivial⟩ ?_
  obtain rfl := SlR.qlen h_p0
  refine WK.sub (e' := [(0, .slice a_p0 p0.length c_p0), (1, p1v)]) ⟨rfl, rfl, trivial⟩ ?_
  unfold slices_IndexFunc_ssint at hm
  refine WK_seq ?_
  refine WK_region ?_
  refine WO_pure tbok 1 [(0, .slice a_p0 p0.length c_p0), (1, p1v), (4, .int .i64 0)] rfl ⟨rfl, rfl, rfl, trivial⟩ ?_
  refine WO_end ?_
  refine WK_seq ?_
  refine WK_seq ?_
  refine WK_region ?_
  refine WO_pure tbok 3 [(0, .slice a_p0 p0.length c_p0), (1, p1v), (4, .int .i64 0), (7, .int .i64 (p0.length : Int)), (8, .int .i64 0)] rfl ⟨rfl, rfl, rfl, rfl, rfl, trivial⟩ ?_
  refine WO_end ?_
  obtain ⟨x3, hx4, hm⟩ := bind_some hm
  refine WK_join (β := Unit × Unit) (fun p => Sum.inr p.1 = x3) (fun p => [(4, .int .i64 0)]) (fun p => St w0 m m []) ?_ (fun hk5 => ?_)
  · rintro ⟨⟨⟩, ⟨⟩⟩ hq11
    subst hq11
    refine WK.sub (e' := [(4, .int .i64 0)]) ⟨rfl, trivial⟩ (WK.cls (C' := St w0 m m []) (fun _ h => h) ?_)
    refine WK_seq ?_
    refine WK_region ?_
    refine WO_pure tbok 1 [(4, .int .i64 (-1))] rfl ⟨rfl, trivial⟩ ?_
    refine WO_end ?_
    cases hm
    exact WK_ret (ret_out (L := []) (RLc_tmp rfl RLc_nil) (List.nil_sublist _) rfl)
  · refine WK_block ?_
    refine WK_loop (S := Int) (G := Unit) (fun s => slices_IndexFunc_ssint_s1 p0 p1 s) (fun s g => [(0, .slice a_p0 p0.length c_p0), (1, p1v), (4, .int .i64 0), (7, .int .i64 (p0.length : Int)), (8, .int .i64 s)]) (fun s g => St w0 m m []) (fun s g => True) FUEL 0 () x3 hx4 trivial ⟨rfl, rfl, rfl, rfl, rfl, trivial⟩ (fun _ h => h) ?_
    rintro s2 ⟨⟩ o7 fl8 hm6 - hn9 hd10
    have hm6 : slices_IndexFunc_ssint_s1 p0 p1 s2 = some o7 := hm6
    unfold slices_IndexFunc_ssint_s1 at hm6
    refine WK.sub (e' := [(0, .slice a_p0 p0.length c_p0), (1, p1v), (4, .int .i64 0), (7, .int .i64 (p0.length : Int)), (8, .int .i64 s2)]) ⟨rfl, rfl, rfl, rfl, rfl, trivial⟩ (WK.cls (C' := St w0 m m []) (fun _ h => h) ?_)
    refine WK_seq ?_
    refine WK_region ?_
    refine WO_pure tbok 1 [(0, .slice a_p0 p0.length c_p0), (1, p1v), (4, .int .i64 0), (7, .int .i64 (p0.length : Int)), (8, .int .i64 s2), (9, .bool (decide (s2 < (p0.length : Int))))] rfl ⟨rfl, rfl, rfl, rfl, rfl, rfl, trivial⟩ ?_
    refine WO_end ?_
    refine WK_seq ?_
    refine WK_cond (b := decide (s2 < (p0.length : Int))) rfl (fun hb12 => ?_) (fun hb12 => ?_)
    · have hm6 := ifT hb12 hm6
      refine WK_skip ?_
      refine WK_seq ?_
      refine WK_block ?_
      refine WK_seq ?_
      refine WK_region ?_
      refine WO_pure tbok 2 [(0, .slice a_p0 p0.length c_p0), (1, p1v), (4, .int .i64 0), (5, .int .i64 s2), (7, .int .i64 (p0.length : Int)), (8, .int .i64 s2)] rfl ⟨rfl, rfl, rfl, rfl, rfl, rfl, trivial⟩ ?_
      refine WO_end ?_
      refine WK_seq ?_
      refine WK_region ?_
      refine WO_pure tbok 3 [(0, .slice a_p0 p0.length c_p0), (1, p1v), (4, .int .i64 0), (5, .int .i64 s2), (7, .int .i64 (p0.length : Int)), (8, .int .i64 s2), (11, p1v), (12, .slice a_p0 p0.length c_p0), (13, .int .i64 s2)] rfl ⟨rfl, rfl, rfl, rfl, rfl, rfl, rfl, rfl, rfl, trivial⟩ ?_
      obtain ⟨v13, hy14, hm6⟩ := bind_some hm6
      obtain ⟨hc15, hy14⟩ := ix_some hy14
      refine WO_index tbok rfl rfl rfl rfl rfl rfl rfl rfl (SlR.addr h_p0) hc15 ?_
      refine WO_loadR tbok rfl rfl rfl rfl (fun _ h => St.sat h) h_p0 hy14 rfl rfl (fun a16 c17 h18 => ?_)
      obtain ⟨y20, hc21, hm6⟩ := bind_some hm6
      obtain ⟨f0, first0, cap0, hf0, hcal0, hsp0⟩ := hp1 _ _ _ v13 h18 _ hc21
      refine WO_call0 (.bool y20) rfl rfl trivial rfl rfl rfl rfl St_closed ⟨f0, first0, cap0, hf0, hcal0, fun w hw => ⟨m, hw.sat, hsp0⟩⟩ ?_
      refine WO_end ?_
      refine WK_cond (b := y20) rfl (fun hb22 => ?_) (fun hb22 => ?_)
      · have hm6 := ifT hb22 hm6
        refine WK_seq ?_
        refine WK_region ?_
        refine WO_pure tbok 2 [(0, .slice a_p0 p0.length c_p0), (1, p1v), (4, .int .i64 s2), (7, .int .i64 (p0.length : Int)), (8, .int .i64 s2)] rfl ⟨rfl, rfl, rfl, rfl, rfl, trivial⟩ ?_
        refine WO_end ?_
        cases hm6
        have hq := hd10 _ rfl
        subst hq
        have hm : some _ = some _ := hm
        cases hm
        exact WK_ret (ret_out (L := []) (RLc_tmp rfl RLc_nil) (List.nil_sublist _) rfl)
      · have hm6 := ifF hb22 hm6
        refine WK_skip ?_
        refine WK_blk ?_
        refine WK_region ?_
        refine WO_pure tbok 2 [(0, .slice a_p0 p0.length c_p0), (1, p1v), (4, .int .i64 0), (7, .int .i64 (p0.length : Int)), (8, .int .i64 (w64 (s2 + 1)))] rfl ⟨rfl, rfl, rfl, rfl, rfl, trivial⟩ ?_
        refine WO_end ?_
        cases hm6
        refine WK.sub ?_ (WK.cls (fun _ h => h) (hn9 _ () rfl trivial))
        exact ⟨rfl, rfl, rfl, rfl, rfl, trivial⟩
    · have hm6 := ifF hb12 hm6
      refine WK_exit rfl ?_
      cases hm6
      refine WK.sub ?_ (WK.cls (fun _ h => h) (hk5 ((), ()) (hd10 _ rfl)))
      exact ⟨rfl, trivial⟩
theorem slices_ContainsFunc_ssint_walk {m : Mu} {p0 : List (List Int)} {p1 : List Int → Option Bool} {a_p0 : Option Addr} {q_p0 c_p0 : Nat} {p1v : Value} (h_p0 : SlR (RowE (FE (I1 .i64)) 1) 1 m (.slice a_p0 q_p0 c_p0) p0) (hp1 : ∀ (au1 : Option Addr) (qu1 cu1 : Nat) (u1 : List Int), SlR (FE (I1 .i64)) 1 m (.slice au1 qu1 cu1) u1 → ∀ (r : Bool), p1 u1 = some r → SpecV Try.prog p1v [.slice au1 qu1 cu1] m (fun v _ _ => v = .bool r)) {r : Bool} (hm : slices_ContainsFunc_ssint p0 p1 = some r) :
    Go.E.Spec Try.prog 59 [.slice a_p0 q_p0 c_p0, p1v] m (fun v _ _ => v = .bool r) := by
  refine Spec_enter Try.func59 rfl rfl rfl (fun w0 => ?_)
  refine WK.sub (e' := [(0, .slice a_p0 q_p0 c_p0), (1, p1v)]) ⟨rfl, rfl, trivial⟩ ?_
  obtain rfl := SlR.qlen h_p0
  refine WK.sub (e' := [(0, .slice a_p0 p0.length c_p0), (1, p1v)]) ⟨rfl, rfl, trivial⟩ ?_
  unfold slices_ContainsFunc_ssint at hm
  refine WK_seq ?_
  refine WK_region ?_
  refine WO_pure tbok 1 [(0, .slice a_p0 p0.length c_p0), (1, p1v), (4, .bool false)] rfl ⟨rfl, rfl, rfl, trivial⟩ ?_
  refine WO_end ?_
  refine WK_seq ?_
  refine WK_region ?_
  refine WO_pure tbok 2 [(4, .bool false), (5, .slice a_p0 p0.length c_p0), (6, p1v)] rfl ⟨rfl, rfl, rfl, trivial⟩ ?_
  obtain ⟨y2, hc3, hm⟩ := bind_some hm
  refine WO_call0 (.int .i64 y2) rfl rfl trivial rfl rfl rfl rfl St_closed ⟨66, #[], #[], rfl, callable_66, fun w hw => ⟨_, hw.sat, slices_IndexFunc_ssint_walk h_p0 hp1 hc3⟩⟩ ?_
  refine WO_pure tbok 2 [(4, .bool (decide (0 ≤ y2)))] rfl ⟨rfl, trivial⟩ ?_
  refine WO_end ?_
  cases hm
  exact WK_ret (ret_out (L := []) (RLc_tmp rfl RLc_nil) (List.nil_sublist _) rfl)
theorem raster_Sum_c1_walk {m : Mu} {p0 : List Int} {q0_0 : List (List Int)} {a_p0 : Option Addr} {q_p0 c_p0 : Nat} {a_q0_0 : Option Addr} {q_q0_0 c_q0_0 : Nat} {b_q0 : Nat} (h_p0 : SlR (FE (I1 .i64)) 1 m (.slice a_p0 q_p0 c_p0) p0) (hb_q0 : m b_q0 = some (Ent.obj ⟨b_q0, 49, [.slice a_q0_0 q_q0_0 c_q0_0]⟩)) (h_q0_0 : SlR (RowE (FE (I1 .i64)) 1) 1 m (.slice a_q0_0 q_q0_0 c_q0_0) q0_0) {r : Bool} (hm : raster_Sum_c1 p0 q0_0 = some r) :
    Go.E.Spec Try.prog 60 [.slice a_p0 q_p0 c_p0, .pointer (some ⟨b_q0, 0, none⟩)] m (fun v _ _ => v = .bool r) := by
  refine Spec_enter Try.func60 rfl rfl rfl (fun w0 => ?_)
  refine WK.sub (e' := [(0, .slice a_p0 q_p0 c_p0), (1, .pointer (some ⟨b_q0, 0, none⟩))]) ⟨rfl, rfl, trivial⟩ ?_
  obtain rfl := SlR.qlen h_p0
  obtain rfl := SlR.qlen h_q0_0
  refine WK.sub (e' := [(0, .slice a_p0 p0.length c_p0), (1, .pointer (some ⟨b_q0, 0, none⟩))]) ⟨rfl, rfl, trivial⟩ ?_
  unfold raster_Sum_c1 at hm
  refine WK_seq ?_
  refine WK_region ?_
  refine WO_pure tbok 1 [(0, .slice a_p0 p0.length c_p0), (1, .pointer (some ⟨b_q0, 0, none⟩)), (3, .bool false)] rfl ⟨rfl, rfl, rfl, trivial⟩ ?_
  refine WO_end ?_
  refine WK_seq ?_
  refine WK_region ?_
  refine WO_pure tbok 2 [(1, .pointer (some ⟨b_q0, 0, none⟩)), (3, .bool false), (5, .int .i64 (p0.length : Int))] rfl ⟨rfl, rfl, rfl, trivial⟩ ?_
  refine WO_loadM tbok rfl rfl rfl rfl (fun _ h => St.sat h) hb_q0 rfl ?_
  obtain ⟨v3, hy4, hm⟩ := bind_some hm
  obtain ⟨hc5, hy4⟩ := ix_some hy4
  refine WO_index tbok rfl rfl rfl rfl rfl rfl rfl rfl (SlR.addr h_q0_0) hc5 ?_
  refine WO_loadR tbok rfl rfl rfl rfl (fun _ h => St.sat h) h_q0_0 hy4 rfl rfl (fun a6 c7 h8 => ?_)
  refine WO_pure tbok 3 [(3, .bool ((p0.length : Int) != ((v3).length : Int)))] rfl ⟨rfl, trivial⟩ ?_
  refine WO_end ?_
  cases hm
  exact WK_ret (ret_out (L := []) (RLc_tmp rfl RLc_nil) (List.nil_sublist _) rfl)
theorem raster_Sum_walk {m : Mu} {p0 : List (List Int)} {p1 : Int} {p2 : Int} {p3 : Int} {p4 : Int} {a_p0 : Option Addr} {q_p0 c_p0 : Nat} (h_p0 : SlR (RowE (FE (I1 .i64)) 1) 1 m (.slice a_p0 q_p0 c_p0) p0) {r : Int × Int} (hm : raster_Sum p0 p1 p2 p3 p4 = some r) :
    Go.E.Spec Try.prog 36 [.slice a_p0 q_p0 c_p0, .int .i64 p1, .int .i64 p2, .int .i64 p3, .int .i64 p4] m (fun v _ _ => v = .tuple #[.int .i64 r.1, .int .i64 r.2]) := by
  refine Spec_enter Try.func36 rfl rfl rfl (fun w0 => ?_)
  refine WK.sub (e' := [(0, .slice a_p0 q_p0 c_p0), (1, .int .i64 p1), (2, .int .i64 p2), (3, .int .i64 p3), (4, .int .i64 p4)]) ⟨rfl, rfl, rfl, rfl, rfl, trivial⟩ ?_
  obtain rfl := SlR.qlen h_p0
  refine WK.sub (e' := [(0, .slice a_p0 p0.length c_p0), (1, .int .i64 p1), (2, .int .i64 p2), (3, .int .i64 p3), (4, .int .i64 p4)]) ⟨rfl, rfl, rfl, rfl, rfl, trivial⟩ ?_
  unfold raster_Sum at hm
  refine WK_seq ?_
  refine WK_region ?_
  refine WO_box [.slice a_p0 p0.length c_p0] rfl rfl trivial rfl rfl rfl (fun b2 => ?_)
  refine WO.cls (C' := St w0 m m [[⟨b2, 49, [.slice a_p0 p0.length c_p0]⟩]]) (fun _ h => h) ?_
  refine WO_pure tbok 2 [(1, .int .i64 p1), (2, .int .i64 p2), (3, .int .i64 p3), (4, .int .i64 p4), (5, .pointer (some ⟨b2, 0, none⟩)), (10, .int .i64 0), (11, .int .i64 0)] rfl ⟨rfl, rfl, rfl, rfl, rfl, rfl, rfl, trivial⟩ ?_
  refine WO_end ?_
  refine WK_seq ?_
  refine WK_seq ?_
  obtain ⟨s3, hx4, hm⟩ := bind_some hm
  refine WK_meet [(1, .int .i64 p1), (2, .int .i64 p2), (3, .int .i64 p3), (4, .int .i64 p4), (5, .pointer (some ⟨b2, 0, none⟩)), (10, .int .i64 0), (11, .int .i64 0), (28, .bool s3)] (St w0 m m [[⟨b2, 49, [.slice a_p0 p0.length c_p0]⟩]]) ?_ (fun hk5 => ?_)
  · refine WK_cond (b := s3) rfl (fun hb6 => ?_) (fun hb6 => ?_)
    · have hm := ifT hb6 hm
      refine WK_seq ?_
      refine WK_region ?_
      refine WO_pure tbok 2 [(1, .int .i64 p1), (2, .int .i64 p2), (3, .int .i64 p3), (4, .int .i64 p4), (5, .pointer (some ⟨b2, 0, none⟩)), (10, .int .i64 0), (11, .int .i64 1)] rfl ⟨rfl, rfl, rfl, rfl, rfl, rfl, rfl, trivial⟩ ?_
      refine WO_end ?_
      cases hm
      exact WK_ret (ret_out (L := []) (RLc_tmp rfl (RLc_tmp rfl RLc_nil)) (List.nil_sublist _) rfl)
    · have hm := ifF hb6 hm
      refine WK_skip ?_
      refine WK_seq ?_
      refine WK_draw 10 [0, 1, 2, 3, 4, 5, 6, 7, 8, 9] follows_ok (by kernel_rfl) St_closed ?_
      refine WO_loadB tbok 0 rfl rfl rfl rfl (fun _ h => h) rfl rfl ?_
      obtain ⟨v7, hy8, hm⟩ := bind_some hm
      obtain ⟨hc9, hy8⟩ := ix_some hy8
      refine WO_index tbok rfl rfl rfl rfl rfl rfl rfl rfl (SlR.addr h_p0) hc9 ?_
      refine WO_loadR tbok rfl rfl rfl rfl (fun _ h => St.sat h) h_p0 hy8 rfl rfl (fun a10 c11 h12 => ?_)
      refine WO_pure tbok 2 [(1, .int .i64 p1), (2, .int .i64 p2), (3, .int .i64 p3), (4, .int .i64 p4), (5, .pointer (some ⟨b2, 0, none⟩)), (10, .int .i64 0), (11, .int .i64 0), (33, .int .i64 (w64 (((v7).length : Int) - 1)))] rfl ⟨rfl, rfl, rfl, rfl, rfl, rfl, rfl, rfl, trivial⟩ ?_
      refine WO_loadB tbok 0 rfl rfl rfl rfl (fun _ h => h) rfl rfl ?_
      refine WO_pure tbok 4 [(1, .int .i64 p1), (2, .int .i64 p2), (3, .int .i64 p3), (4, .int .i64 p4), (5, .pointer (some ⟨b2, 0, none⟩)), (10, .int .i64 0), (11, .int .i64 0), (12, .int .i64 (w64 (((v7).length : Int) - 1))), (13, .int .i64 (w64 ((p0.length : Int) - 1)))] rfl ⟨rfl, rfl, rfl, rfl, rfl, rfl, rfl, rfl, rfl, trivial⟩ ?_
      refine WO_tail ?_
      refine WO_end ?_
      refine WK_seq ?_
      refine WK_seq ?_
      obtain ⟨s14, hx15, hm⟩ := bind_some hm
      refine WK_meet [(1, .int .i64 p1), (2, .int .i64 p2), (3, .int .i64 p3), (4, .int .i64 p4), (5, .pointer (some ⟨b2, 0, none⟩)), (10, .int .i64 0), (11, .int .i64 0), (66, .bool s14)] (St w0 m m [[⟨b2, 49, [.slice a_p0 p0.length c_p0]⟩]]) ?_ (fun hk16 => ?_)
      · refine WK_cond (b := s14) rfl (fun hb17 => ?_) (fun hb17 => ?_)
        · have hm := ifT hb17 hm
          refine WK_seq ?_
          refine WK_region ?_
          refine WO_pure tbok 2 [(1, .int .i64 p1), (2, .int .i64 p2), (3, .int .i64 p3), (4, .int .i64 p4), (5, .pointer (some ⟨b2, 0, none⟩)), (10, .int .i64 0), (11, .int .i64 2)] rfl ⟨rfl, rfl, rfl, rfl, rfl, rfl, rfl, trivial⟩ ?_
          refine WO_end ?_
          cases hm
          exact WK_ret (ret_out (L := []) (RLc_tmp rfl (RLc_tmp rfl RLc_nil)) (List.nil_sublist _) rfl)
        · have hm := ifF hb17 hm
          refine WK_skip ?_
          refine WK_seq ?_
          refine WK_draw 41 [0, 1, 2, 3, 4, 5, 6, 7, 8, 9, 10, 11, 12, 13, 14, 15, 16, 17, 18, 19, 20, 21, 22, 23, 24, 25, 26, 27, 28, 29, 30, 31, 32, 33, 34, 35, 36, 37, 38, 39, 40] follows_ok (by kernel_rfl) St_closed ?_
          refine WO_loadB tbok 0 rfl rfl rfl rfl (fun _ h => h) rfl rfl ?_
          refine WO_pure tbok 3 [(1, .int .i64 p1), (2, .int .i64 p2), (3, .int .i64 p3), (4, .int .i64 p4), (5, .pointer (some ⟨b2, 0, none⟩)), (10, .int .i64 0), (11, .int .i64 0), (67, .slice a_p0 p0.length c_p0), (70, .int .i64 (w64 (p2 + p4)))] rfl ⟨rfl, rfl, rfl, rfl, rfl, rfl, rfl, rfl, rfl, trivial⟩ ?_
          obtain ⟨v18, hy19, hm⟩ := bind_some hm
          obtain ⟨hc20, hy19⟩ := ix_some hy19
          refine WO_index tbok rfl rfl rfl rfl rfl rfl rfl rfl (SlR.addr h_p0) hc20 ?_
          refine WO_loadR tbok rfl rfl rfl rfl (fun _ h => St.sat h) h_p0 hy19 rfl rfl (fun a21 c22 h23 => ?_)
          refine WO_pure tbok 3 [(1, .int .i64 p1), (2, .int .i64 p2), (3, .int .i64 p3), (4, .int .i64 p4), (5, .pointer (some ⟨b2, 0, none⟩)), (10, .int .i64 0), (11, .int .i64 0), (72, .slice a21 ((v18).length) c22), (75, .int .i64 (w64 (p1 + p3)))] rfl ⟨rfl, rfl, rfl, rfl, rfl, rfl, rfl, rfl, rfl, trivial⟩ ?_
          obtain ⟨v25, hy26, hm⟩ := bind_some hm
          obtain ⟨hc27, hy26⟩ := ix_some hy26
          refine WO_index tbok rfl rfl rfl rfl rfl rfl rfl rfl (SlR.addr h23) hc27 ?_
          refine WO_loadE tbok rfl rfl rfl rfl (fun _ h => St.sat h) h23 hy26 rfl ?_
          refine WO_loadB tbok 0 rfl rfl rfl rfl (fun _ h => h) rfl rfl ?_
          refine WO_pure tbok 1 [(1, .int .i64 p1), (2, .int .i64 p2), (3, .int .i64 p3), (4, .int .i64 p4), (5, .pointer (some ⟨b2, 0, none⟩)), (10, .int .i64 0), (11, .int .i64 0), (77, .int .i64 v25), (78, .slice a_p0 p0.length c_p0), (79, .int .i64 p2)] rfl ⟨rfl, rfl, rfl, rfl, rfl, rfl, rfl, rfl, rfl, rfl, trivial⟩ ?_
          obtain ⟨v28, hy29, hm⟩ := bind_some hm
          obtain ⟨hc30, hy29⟩ := ix_some hy29
          refine WO_index tbok rfl rfl rfl rfl rfl rfl rfl rfl (SlR.addr h_p0) hc30 ?_
          refine WO_loadR tbok rfl rfl rfl rfl (fun _ h => St.sat h) h_p0 hy29 rfl rfl (fun a31 c32 h33 => ?_)
          refine WO_pure tbok 3 [(1, .int .i64 p1), (2, .int .i64 p2), (4, .int .i64 p4), (5, .pointer (some ⟨b2, 0, none⟩)), (10, .int .i64 0), (11, .int .i64 0), (77, .int .i64 v25), (81, .slice a31 ((v28).length) c32), (84, .int .i64 (w64 (p1 + p3)))] rfl ⟨rfl, rfl, rfl, rfl, rfl, rfl, rfl, rfl, rfl, trivial⟩ ?_
          obtain ⟨v35, hy36, hm⟩ := bind_some hm
          obtain ⟨hc37, hy36⟩ := ix_some hy36
          refine WO_index tbok rfl rfl rfl rfl rfl rfl rfl rfl (SlR.addr h33) hc37 ?_
          refine WO_loadE tbok rfl rfl rfl rfl (fun _ h => St.sat h) h33 hy36 rfl ?_
          refine WO_pure tbok 1 [(1, .int .i64 p1), (2, .int .i64 p2), (4, .int .i64 p4), (5, .pointer (some ⟨b2, 0, none⟩)), (10, .int .i64 0), (11, .int .i64 0), (87, .int .i64 (w64 (v25 - v35)))] rfl ⟨rfl, rfl, rfl, rfl, rfl, rfl, rfl, trivial⟩ ?_
          refine WO_loadB tbok 0 rfl rfl rfl rfl (fun _ h => h) rfl rfl ?_
          refine WO_pure tbok 3 [(1, .int .i64 p1), (2, .int .i64 p2), (5, .pointer (some ⟨b2, 0, none⟩)), (10, .int .i64 0), (11, .int .i64 0), (87, .int .i64 (w64 (v25 - v35))), (88, .slice a_p0 p0.length c_p0), (91, .int .i64 (w64 (p2 + p4)))] rfl ⟨rfl, rfl, rfl, rfl, rfl, rfl, rfl, rfl, trivial⟩ ?_
          obtain ⟨v38, hy39, hm⟩ := bind_some hm
          obtain ⟨hc40, hy39⟩ := ix_some hy39
          refine WO_index tbok rfl rfl rfl rfl rfl rfl rfl rfl (SlR.addr h_p0) hc40 ?_
          refine WO_loadR tbok rfl rfl rfl rfl (fun _ h => St.sat h) h_p0 hy39 rfl rfl (fun a41 c42 h43 => ?_)
          refine WO_pure tbok 1 [(1, .int .i64 p1), (2, .int .i64 p2), (5, .pointer (some ⟨b2, 0, none⟩)), (10, .int .i64 0), (11, .int .i64 0), (87, .int .i64 (w64 (v25 - v35))), (93, .slice a41 ((v38).length) c42), (94, .int .i64 p1)] rfl ⟨rfl, rfl, rfl, rfl, rfl, rfl, rfl, rfl, trivial⟩ ?_
          obtain ⟨v45, hy46, hm⟩ := bind_some hm
          obtain ⟨hc47, hy46⟩ := ix_some hy46
          refine WO_index tbok rfl rfl rfl rfl rfl rfl rfl rfl (SlR.addr h43) hc47 ?_
          refine WO_loadE tbok rfl rfl rfl rfl (fun _ h => St.sat h) h43 hy46 rfl ?_
          refine WO_pure tbok 1 [(1, .int .i64 p1), (2, .int .i64 p2), (5, .pointer (some ⟨b2, 0, none⟩)), (10, .int .i64 0), (11, .int .i64 0), (97, .int .i64 (w64 ((w64 (v25 - v35)) - v45)))] rfl ⟨rfl, rfl, rfl, rfl, rfl, rfl, trivial⟩ ?_
          refine WO_loadB tbok 0 rfl rfl rfl rfl (fun _ h => h) rfl rfl ?_
          refine WO_pure tbok 1 [(1, .int .i64 p1), (10, .int .i64 0), (11, .int .i64 0), (97, .int .i64 (w64 ((w64 (v25 - v35)) - v45))), (98, .slice a_p0 p0.length c_p0), (99, .int .i64 p2)] rfl ⟨rfl, rfl, rfl, rfl, rfl, rfl, trivial⟩ ?_
          obtain ⟨v48, hy49, hm⟩ := bind_some hm
          obtain ⟨hc50, hy49⟩ := ix_some hy49
          refine WO_index tbok rfl rfl rfl rfl rfl rfl rfl rfl (SlR.addr h_p0) hc50 ?_
          refine WO_loadR tbok rfl rfl rfl rfl (fun _ h => St.sat h) h_p0 hy49 rfl rfl (fun a51 c52 h53 => ?_)
          refine WO_pure tbok 1 [(10, .int .i64 0), (11, .int .i64 0), (97, .int .i64 (w64 ((w64 (v25 - v35)) - v45))), (101, .slice a51 ((v48).length) c52), (102, .int .i64 p1)] rfl ⟨rfl, rfl, rfl, rfl, rfl, trivial⟩ ?_
          obtain ⟨v55, hy56, hm⟩ := bind_some hm
          obtain ⟨hc57, hy56⟩ := ix_some hy56
          refine WO_index tbok rfl rfl rfl rfl rfl rfl rfl rfl (SlR.addr h53) hc57 ?_
          refine WO_loadE tbok rfl rfl rfl rfl (fun _ h => St.sat h) h53 hy56 rfl ?_
          refine WO_pure tbok 3 [(10, .int .i64 (w64 ((w64 ((w64 (v25 - v35)) - v45)) + v55))), (11, .int .i64 0)] rfl ⟨rfl, rfl, trivial⟩ ?_
          refine WO_tail ?_
          refine WO_end ?_
          cases hm
          exact WK_ret (ret_out (L := []) (RLc_tmp rfl (RLc_tmp rfl RLc_nil)) (List.nil_sublist _) rfl)
      · refine WK_region ?_
        refine WO_pure tbok 7 [(1, .int .i64 p1), (2, .int .i64 p2), (3, .int .i64 p3), (4, .int .i64 p4), (5, .pointer (some ⟨b2, 0, none⟩)), (10, .int .i64 0), (11, .int .i64 0), (12, .int .i64 (w64 (((v7).length : Int) - 1))), (13, .int .i64 (w64 ((p0.length : Int) - 1))), (43, .bool (decide ((if p4 < (if p3 < (if p2 < p1 then p2 else p1) then p3 else (if p2 < p1 then p2 else p1)) then p4 else (if p3 < (if p2 < p1 then p2 else p1) then p3 else (if p2 < p1 then p2 else p1))) < 0)))] rfl ⟨rfl, rfl, rfl, rfl, rfl, rfl, rfl, rfl, rfl, rfl, trivial⟩ ?_
        refine WO_split (d := 43) (b := decide ((if p4 < (if p3 < (if p2 < p1 then p2 else p1) then p3 else (if p2 < p1 then p2 else p1)) then p4 else (if p3 < (if p2 < p1 then p2 else p1) then p3 else (if p2 < p1 then p2 else p1))) < 0)) rfl (fun hb58 => ?_) (fun hb58 => ?_)
        · have hx15 := ifT hb58 hx15
          refine WO_pure tbok 23 [(1, .int .i64 p1), (2, .int .i64 p2), (3, .int .i64 p3), (4, .int .i64 p4), (5, .pointer (some ⟨b2, 0, none⟩)), (10, .int .i64 0), (11, .int .i64 0), (66, .bool true)] rfl ⟨rfl, rfl, rfl, rfl, rfl, rfl, rfl, rfl, trivial⟩ ?_
          refine WO_end ?_
          cases hx15
          refine WK.sub ?_ (WK.cls (fun _ h => h) hk16)
          exact ⟨rfl, rfl, rfl, rfl, rfl, rfl, rfl, rfl, trivial⟩
        · have hx15 := ifF hb58 hx15
          refine WO_pure tbok 5 [(1, .int .i64 p1), (2, .int .i64 p2), (3, .int .i64 p3), (4, .int .i64 p4), (5, .pointer (some ⟨b2, 0, none⟩)), (10, .int .i64 0), (11, .int .i64 0), (12, .int .i64 (w64 (((v7).length : Int) - 1))), (13, .int .i64 (w64 ((p0.length : Int) - 1))), (48, .bool (decide ((w64 (((v7).length : Int) - 1)) < p1)))] rfl ⟨rfl, rfl, rfl, rfl, rfl, rfl, rfl, rfl, rfl, rfl, trivial⟩ ?_
          refine WO_split (d := 48) (b := decide ((w64 (((v7).length : Int) - 1)) < p1)) rfl (fun hb59 => ?_) (fun hb59 => ?_)
          · have hx15 := ifT hb59 hx15
            refine WO_pure tbok 18 [(1, .int .i64 p1), (2, .int .i64 p2), (3, .int .i64 p3), (4, .int .i64 p4), (5, .pointer (some ⟨b2, 0, none⟩)), (10, .int .i64 0), (11, .int .i64 0), (66, .bool true)] rfl ⟨rfl, rfl, rfl, rfl, rfl, rfl, rfl, rfl, trivial⟩ ?_
            refine WO_end ?_
            cases hx15
            refine WK.sub ?_ (WK.cls (fun _ h => h) hk16)
            exact ⟨rfl, rfl, rfl, rfl, rfl, rfl, rfl, rfl, trivial⟩
          · have hx15 := ifF hb59 hx15
            refine WO_pure tbok 5 [(1, .int .i64 p1), (2, .int .i64 p2), (3, .int .i64 p3), (4, .int .i64 p4), (5, .pointer (some ⟨b2, 0, none⟩)), (10, .int .i64 0), (11, .int .i64 0), (12, .int .i64 (w64 (((v7).length : Int) - 1))), (13, .int .i64 (w64 ((p0.length : Int) - 1))), (53, .bool (decide ((w64 ((p0.length : Int) - 1)) < p2)))] rfl ⟨rfl, rfl, rfl, rfl, rfl, rfl, rfl, rfl, rfl, rfl, trivial⟩ ?_
            refine WO_split (d := 53) (b := decide ((w64 ((p0.length : Int) - 1)) < p2)) rfl (fun hb60 => ?_) (fun hb60 => ?_)
            · have hx15 := ifT hb60 hx15
              refine WO_pure tbok 13 [(1, .int .i64 p1), (2, .int .i64 p2), (3, .int .i64 p3), (4, .int .i64 p4), (5, .pointer (some ⟨b2, 0, none⟩)), (10, .int .i64 0), (11, .int .i64 0), (66, .bool true)] rfl ⟨rfl, rfl, rfl, rfl, rfl, rfl, rfl, rfl, trivial⟩ ?_
              refine WO_end ?_
              cases hx15
              refine WK.sub ?_ (WK.cls (fun _ h => h) hk16)
              exact ⟨rfl, rfl, rfl, rfl, rfl, rfl, rfl, rfl, trivial⟩
            · have hx15 := ifF hb60 hx15
              refine WO_pure tbok 7 [(1, .int .i64 p1), (2, .int .i64 p2), (3, .int .i64 p3), (4, .int .i64 p4), (5, .pointer (some ⟨b2, 0, none⟩)), (10, .int .i64 0), (11, .int .i64 0), (13, .int .i64 (w64 ((p0.length : Int) - 1))), (60, .bool (decide ((w64 ((w64 (((v7).length : Int) - 1)) - p1)) < p3)))] rfl ⟨rfl, rfl, rfl, rfl, rfl, rfl, rfl, rfl, rfl, trivial⟩ ?_
              refine WO_split (d := 60) (b := decide ((w64 ((w64 (((v7).length : Int) - 1)) - p1)) < p3)) rfl (fun hb61 => ?_) (fun hb61 => ?_)
              · have hx15 := ifT hb61 hx15
                refine WO_pure tbok 6 [(1, .int .i64 p1), (2, .int .i64 p2), (3, .int .i64 p3), (4, .int .i64 p4), (5, .pointer (some ⟨b2, 0, none⟩)), (10, .int .i64 0), (11, .int .i64 0), (66, .bool true)] rfl ⟨rfl, rfl, rfl, rfl, rfl, rfl, rfl, rfl, trivial⟩ ?_
                refine WO_end ?_
                cases hx15
                refine WK.sub ?_ (WK.cls (fun _ h => h) hk16)
                exact ⟨rfl, rfl, rfl, rfl, rfl, rfl, rfl, rfl, trivial⟩
              · have hx15 := ifF hb61 hx15
                refine WO_pure tbok 6 [(1, .int .i64 p1), (2, .int .i64 p2), (3, .int .i64 p3), (4, .int .i64 p4), (5, .pointer (some ⟨b2, 0, none⟩)), (10, .int .i64 0), (11, .int .i64 0), (66, .bool (decide ((w64 ((w64 ((p0.length : Int) - 1)) - p2)) < p4)))] rfl ⟨rfl, rfl, rfl, rfl, rfl, rfl, rfl, rfl, trivial⟩ ?_
                refine WO_end ?_
                cases hx15
                refine WK.sub ?_ (WK.cls (fun _ h => h) hk16)
                exact ⟨rfl, rfl, rfl, rfl, rfl, rfl, rfl, rfl, trivial⟩
  · refine WK_region ?_
    refine WO_loadB tbok 0 rfl rfl rfl rfl (fun _ h => h) rfl rfl ?_
    refine WO_pure tbok 3 [(1, .int .i64 p1), (2, .int .i64 p2), (3, .int .i64 p3), (4, .int .i64 p4), (5, .pointer (some ⟨b2, 0, none⟩)), (10, .int .i64 0), (11, .int .i64 0), (17, .bool ((p0.length : Int) == 0))] rfl ⟨rfl, rfl, rfl, rfl, rfl, rfl, rfl, rfl, trivial⟩ ?_
    refine WO_split (d := 17) (b := (p0.length : Int) == 0) rfl (fun hb62 => ?_) (fun hb62 => ?_)
    · have hx4 := ifT hb62 hx4
      refine WO_pure tbok 9 [(1, .int .i64 p1), (2, .int .i64 p2), (3, .int .i64 p3), (4, .int .i64 p4), (5, .pointer (some ⟨b2, 0, none⟩)), (10, .int .i64 0), (11, .int .i64 0), (24, .bool true)] rfl ⟨rfl, rfl, rfl, rfl, rfl, rfl, rfl, rfl, trivial⟩ ?_
      refine WO_skip rfl rfl ?_
      refine WO_pure tbok 1 [(1, .int .i64 p1), (2, .int .i64 p2), (3, .int .i64 p3), (4, .int .i64 p4), (5, .pointer (some ⟨b2, 0, none⟩)), (10, .int .i64 0), (11, .int .i64 0), (28, .bool true)] rfl ⟨rfl, rfl, rfl, rfl, rfl, rfl, rfl, rfl, trivial⟩ ?_
      refine WO_end ?_
      cases hx4
      refine WK.sub ?_ (WK.cls (fun _ h => h) hk5)
      exact ⟨rfl, rfl, rfl, rfl, rfl, rfl, rfl, rfl, trivial⟩
    · have hx4 := ifF hb62 hx4
      refine WO_loadB tbok 0 rfl rfl rfl rfl (fun _ h => h) rfl rfl ?_
      obtain ⟨v63, hy64, hx4⟩ := bind_some hx4
      obtain ⟨hc65, hy64⟩ := ix_some hy64
      refine WO_index tbok rfl rfl rfl rfl rfl rfl rfl rfl (SlR.addr h_p0) hc65 ?_
      refine WO_loadR tbok rfl rfl rfl rfl (fun _ h => St.sat h) h_p0 hy64 rfl rfl (fun a66 c67 h68 => ?_)
      refine WO_pure tbok 4 [(1, .int .i64 p1), (2, .int .i64 p2), (3, .int .i64 p3), (4, .int .i64 p4), (5, .pointer (some ⟨b2, 0, none⟩)), (10, .int .i64 0), (11, .int .i64 0), (24, .bool (((v63).length : Int) == 0))] rfl ⟨rfl, rfl, rfl, rfl, rfl, rfl, rfl, rfl, trivial⟩ ?_
      refine WO_split (d := 24) (b := ((v63).length : Int) == 0) rfl (fun hb70 => ?_) (fun hb70 => ?_)
      · have hx4 := ifT hb70 hx4
        refine WO_pure tbok 2 [(1, .int .i64 p1), (2, .int .i64 p2), (3, .int .i64 p3), (4, .int .i64 p4), (5, .pointer (some ⟨b2, 0, none⟩)), (10, .int .i64 0), (11, .int .i64 0), (24, .bool true)] rfl ⟨rfl, rfl, rfl, rfl, rfl, rfl, rfl, rfl, trivial⟩ ?_
        refine WO_skip rfl rfl ?_
        refine WO_pure tbok 1 [(1, .int .i64 p1), (2, .int .i64 p2), (3, .int .i64 p3), (4, .int .i64 p4), (5, .pointer (some ⟨b2, 0, none⟩)), (10, .int .i64 0), (11, .int .i64 0), (28, .bool true)] rfl ⟨rfl, rfl, rfl, rfl, rfl, rfl, rfl, rfl, trivial⟩ ?_
        refine WO_end ?_
        cases hx4
        refine WK.sub ?_ (WK.cls (fun _ h => h) hk5)
        exact ⟨rfl, rfl, rfl, rfl, rfl, rfl, rfl, rfl, trivial⟩
      · have hx4 := ifF hb70 hx4
        refine WO_loadB tbok 0 rfl rfl rfl rfl (fun _ h => h) rfl rfl ?_
        refine WO_pure tbok 1 [(1, .int .i64 p1), (2, .int .i64 p2), (3, .int .i64 p3), (4, .int .i64 p4), (5, .pointer (some ⟨b2, 0, none⟩)), (10, .int .i64 0), (11, .int .i64 0), (24, .bool false), (25, .slice a_p0 p0.length c_p0), (26, .func (.func 60) #[] #[.pointer (some ⟨b2, 0, none⟩)])] rfl ⟨rfl, rfl, rfl, rfl, rfl, rfl, rfl, rfl, rfl, rfl, trivial⟩ ?_
        obtain ⟨y73, hc74, hx4⟩ := bind_some hx4
        refine WO_call0 (.bool y73) rfl rfl trivial rfl rfl rfl rfl St_closed ⟨59, #[], #[], rfl, callable_59, fun w hw => ⟨_, hw.satV, slices_ContainsFunc_ssint_walk (h_p0.mono (mono_RowE (mono_FE _) _) hw.leV) (fun _ _ _ z71 h72 _ h => specV_cap callable_60 (raster_Sum_c1_walk h72 (hw.memV (i := 0) rfl (List.mem_singleton.2 rfl)) (h_p0.mono (mono_RowE (mono_FE _) _) hw.leV) h)) hc74⟩⟩ ?_
        refine WO_pure tbok 1 [(1, .int .i64 p1), (2, .int .i64 p2), (3, .int .i64 p3), (4, .int .i64 p4), (5, .pointer (some ⟨b2, 0, none⟩)), (10, .int .i64 0), (11, .int .i64 0), (28, .bool y73)] rfl ⟨rfl, rfl, rfl, rfl, rfl, rfl, rfl, rfl, trivial⟩ ?_
        refine WO_end ?_
        cases hx4
        refine WK.sub ?_ (WK.cls (fun _ h => h) hk5)
        exact ⟨rfl, rfl, rfl, rfl, rfl, rfl, rfl, rfl, trivial⟩
end Go.Proofs.Ytoflllddpoonbaa
