import Derived.Test.YtbolefkhmfbnlaaTab
import Derived.Test.YtbolefkhmfbnlaaM
import Derived.Test.YtbolefkhmfbnlaaW1
set_option linter.unusedVariables false
set_option maxRecDepth 100000
set_option maxHeartbeats 4000000
namespace Go.Proofs.Ytbolefkhmfbnlaa
open Go.E Go.RowKit
attribute [local irreducible] Go.E.WO Go.E.WK
theorem fiducialtop_bMirrored_walk {m : Mu}    {r : Bool} (hm : fiducialtop_bMirrored = some r) :
    Go.E.Spec Try.prog 11 [] m (fun v _ _ => v = .bool r) := by
  refine Spec_enter Try.func11 rfl rfl rfl (fun w0 => ?_)
  refine WK.sub (e' := []) trivial ?_
  refine WK.sub (e' := []) trivial ?_
  unfold fiducialtop_bMirrored at hm
  refine WK_seq ?_
  refine WK_region ?_
  refine WO_pure tbok 1 [(0, .bool false)] rfl ⟨rfl, trivial⟩ ?_
  refine WO_end ?_
  refine WK_seq ?_
  refine WK_region ?_
  refine WO_bslice (E := (I1 .i64)) tbok (fun _ => rfl) (by decide) [.int .i64 1, .int .i64 2] ([1, 2] : List Int) rfl rfl trivial rfl rfl rfl rfl rfl rfl rfl rfl rfl rfl rfl rfl (fun b1 hb1 => ?_)
  refine WO.cls (C' := St w0 m m [[⟨b1, 3, ([1, 2] : List Int).flatMap (I1 .i64)⟩]]) (fun _ h => h) ?_
  refine WO_pure tbok 1 [(0, .bool false), (8, .agg #[.int .i64 2, .int .i64 1, .int .i64 9, .slice (some ⟨b1, 0, none⟩) 2 2])] rfl ⟨rfl, rfl, trivial⟩ ?_
  refine WO_bslice (E := (I1 .i64)) tbok (fun _ => rfl) (by decide) [.int .i64 3, .int .i64 4] ([3, 4] : List Int) rfl rfl trivial rfl rfl rfl rfl rfl rfl rfl rfl rfl rfl rfl rfl (fun b3 hb3 => ?_)
  refine WO.cls (C' := St w0 m m [[⟨b1, 3, ([1, 2] : List Int).flatMap (I1 .i64)⟩], [⟨b3, 3, ([3, 4] : List Int).flatMap (I1 .i64)⟩]]) (fun _ h => h) ?_
  refine WO_pure tbok 1 [(0, .bool false), (8, .agg #[.int .i64 2, .int .i64 1, .int .i64 9, .slice (some ⟨b1, 0, none⟩) 2 2]), (10, .agg #[.int .i64 2, .int .i64 1, .int .i64 9, .slice (some ⟨b3, 0, none⟩) 2 2])] rfl ⟨rfl, rfl, rfl, trivial⟩ ?_
  refine WO_alloc tbok [.int .i64 0, .int .i64 0, .int .i64 0, .slice none 0 0] rfl rfl trivial rfl rfl rfl rfl (fun b5 => ?_)
  refine WO.cls (C' := St w0 m m [[⟨b1, 3, ([1, 2] : List Int).flatMap (I1 .i64)⟩], [⟨b3, 3, ([3, 4] : List Int).flatMap (I1 .i64)⟩], [⟨b5, 24, [.int .i64 0, .int .i64 0, .int .i64 0, .slice none 0 0]⟩]]) (fun _ h => h) ?_
  refine WO_alloc tbok [.int .i64 0, .int .i64 0, .int .i64 0, .slice none 0 0] rfl rfl trivial rfl rfl rfl rfl (fun b6 => ?_)
  refine WO.cls (C' := St w0 m m [[⟨b1, 3, ([1, 2] : List Int).flatMap (I1 .i64)⟩], [⟨b3, 3, ([3, 4] : List Int).flatMap (I1 .i64)⟩], [⟨b5, 24, [.int .i64 0, .int .i64 0, .int .i64 0, .slice none 0 0]⟩], [⟨b6, 24, [.int .i64 0, .int .i64 0, .int .i64 0, .slice none 0 0]⟩]]) (fun _ h => h) ?_
  refine WO_storeB tbok 2 [.int .i64 2, .int .i64 1, .int .i64 9, .slice (some ⟨b1, 0, none⟩) 2 2] rfl rfl rfl rfl rfl rfl rfl ?_
  refine WO.cls (C' := St w0 m m [[⟨b1, 3, ([1, 2] : List Int).flatMap (I1 .i64)⟩], [⟨b3, 3, ([3, 4] : List Int).flatMap (I1 .i64)⟩], [⟨b5, 24, [.int .i64 2, .int .i64 1, .int .i64 9, .slice (some ⟨b1, 0, none⟩) 2 2]⟩], [⟨b6, 24, [.int .i64 0, .int .i64 0, .int .i64 0, .slice none 0 0]⟩]]) (fun _ h => h) ?_
  refine WO_storeB tbok 3 [.int .i64 2, .int .i64 1, .int .i64 9, .slice (some ⟨b3, 0, none⟩) 2 2] rfl rfl rfl rfl rfl rfl rfl ?_
  refine WO.cls (C' := St w0 m m [[⟨b1, 3, ([1, 2] : List Int).flatMap (I1 .i64)⟩], [⟨b3, 3, ([3, 4] : List Int).flatMap (I1 .i64)⟩], [⟨b5, 24, [.int .i64 2, .int .i64 1, .int .i64 9, .slice (some ⟨b1, 0, none⟩) 2 2]⟩], [⟨b6, 24, [.int .i64 2, .int .i64 1, .int .i64 9, .slice (some ⟨b3, 0, none⟩) 2 2]⟩]]) (fun _ h => h) ?_
  refine WO_end ?_
  refine WK_seq ?_
  refine WK_region ?_
  refine WO_loadB tbok 2 rfl rfl rfl rfl (fun _ h => h) rfl rfl ?_
  refine WO_loadB tbok 3 rfl rfl rfl rfl (fun _ h => h) rfl rfl ?_
  refine WO_bslice (E := (I1 .i64)) tbok (fun _ => rfl) (by decide) [.int .i64 1] ([1] : List Int) rfl rfl trivial rfl rfl rfl rfl rfl rfl rfl rfl rfl rfl rfl rfl (fun b7 hb7 => ?_)
  refine WO.cls (C' := St w0 m m [[⟨b1, 3, ([1, 2] : List Int).flatMap (I1 .i64)⟩], [⟨b3, 3, ([3, 4] : List Int).flatMap (I1 .i64)⟩], [⟨b5, 24, [.int .i64 2, .int .i64 1, .int .i64 9, .slice (some ⟨b1, 0, none⟩) 2 2]⟩], [⟨b6, 24, [.int .i64 2, .int .i64 1, .int .i64 9, .slice (some ⟨b3, 0, none⟩) 2 2]⟩], [⟨b7, 3, ([1] : List Int).flatMap (I1 .i64)⟩]]) (fun _ h => h) ?_
  obtain ⟨⟨y_1, y_2, y_3, y_4, y_5⟩, hc9, hm⟩ := bind_some hm
  refine WO_call1 (seam_Mosaic_Q (y_1, y_2, y_3, y_4, y_5)) rfl rfl trivial rfl rfl rfl rfl ⟨14, #[], #[], rfl, callable_14, fun w hw => ⟨_, hw.satV, seam_Mosaic_walk (OwnE.rd (E := (I1 .i64)) (k := 1) (fun _ => rfl) hb1 (fun _ hx => hw.memV (i := 0) rfl hx)) (OwnE.rd (E := (I1 .i64)) (k := 1) (fun _ => rfl) hb3 (fun _ hx => hw.memV (i := 1) rfl hx)) (OwnE.rd (E := (I1 .i64)) (k := 1) (fun _ => rfl) hb7 (fun _ hx => hw.memV (i := 4) rfl hx)) hc9⟩⟩ (fun v14 L13 hq => ?_)
  obtain ⟨a10, qa10, c11, rfl, hL13⟩ := hq
  obtain rfl := OwnE.qlen hL13
  refine WO.cls (C' := St w0 m m [[⟨b1, 3, ([1, 2] : List Int).flatMap (I1 .i64)⟩], [⟨b3, 3, ([3, 4] : List Int).flatMap (I1 .i64)⟩], [⟨b5, 24, [.int .i64 2, .int .i64 1, .int .i64 9, .slice (some ⟨b1, 0, none⟩) 2 2]⟩], [⟨b6, 24, [.int .i64 2, .int .i64 1, .int .i64 9, .slice (some ⟨b3, 0, none⟩) 2 2]⟩], [⟨b7, 3, ([1] : List Int).flatMap (I1 .i64)⟩], L13]) (fun _ h => h) ?_
  refine WO_pure tbok 3 [(0, .bool false), (1, .pointer (some ⟨b5, 0, none⟩)), (16, .agg #[.int .i64 y_1, .int .i64 y_2, .int .i64 y_3, .slice a10 ((y_4).length) c11]), (17, .int .i64 y_5)] rfl ⟨rfl, rfl, rfl, rfl, trivial⟩ ?_
  refine WO_alloc tbok [.int .i64 0, .int .i64 0, .int .i64 0, .slice none 0 0] rfl rfl trivial rfl rfl rfl rfl (fun b15 => ?_)
  refine WO.cls (C' := St w0 m m [[⟨b1, 3, ([1, 2] : List Int).flatMap (I1 .i64)⟩], [⟨b3, 3, ([3, 4] : List Int).flatMap (I1 .i64)⟩], [⟨b5, 24, [.int .i64 2, .int .i64 1, .int .i64 9, .slice (some ⟨b1, 0, none⟩) 2 2]⟩], [⟨b6, 24, [.int .i64 2, .int .i64 1, .int .i64 9, .slice (some ⟨b3, 0, none⟩) 2 2]⟩], [⟨b7, 3, ([1] : List Int).flatMap (I1 .i64)⟩], L13, [⟨b15, 24, [.int .i64 0, .int .i64 0, .int .i64 0, .slice none 0 0]⟩]]) (fun _ h => h) ?_
  refine WO_storeB tbok 6 [.int .i64 y_1, .int .i64 y_2, .int .i64 y_3, .slice a10 ((y_4).length) c11] rfl rfl rfl rfl rfl rfl rfl ?_
  refine WO.cls (C' := St w0 m m [[⟨b1, 3, ([1, 2] : List Int).flatMap (I1 .i64)⟩], [⟨b3, 3, ([3, 4] : List Int).flatMap (I1 .i64)⟩], [⟨b5, 24, [.int .i64 2, .int .i64 1, .int .i64 9, .slice (some ⟨b1, 0, none⟩) 2 2]⟩], [⟨b6, 24, [.int .i64 2, .int .i64 1, .int .i64 9, .slice (some ⟨b3, 0, none⟩) 2 2]⟩], [⟨b7, 3, ([1] : List Int).flatMap (I1 .i64)⟩], L13, [⟨b15, 24, [.int .i64 y_1, .int .i64 y_2, .int .i64 y_3, .slice a10 ((y_4).length) c11]⟩]]) (fun _ h => h) ?_
  refine WO_pure tbok 1 [(0, .bool false), (1, .pointer (some ⟨b5, 0, none⟩)), (3, .pointer (some ⟨b15, 0, none⟩)), (4, .int .i64 y_5)] rfl ⟨rfl, rfl, rfl, rfl, trivial⟩ ?_
  refine WO_end ?_
  refine WK_seq ?_
  refine WK_region ?_
  refine WO_loadB tbok 2 rfl rfl rfl rfl (fun _ h => h) rfl rfl ?_
  obtain ⟨⟨y_6, y_7, y_8, y_9, y_10⟩, hc16, hm⟩ := bind_some hm
  refine WO_call1 (raster_Mirror_Q (y_6, y_7, y_8, y_9, y_10)) rfl rfl trivial rfl rfl rfl rfl ⟨15, #[], #[], rfl, callable_15, fun w hw => ⟨_, hw.satV, raster_Mirror_walk (OwnE.rd (E := (I1 .i64)) (k := 1) (fun _ => rfl) hb1 (fun _ hx => hw.memV (i := 0) rfl hx)) hc16⟩⟩ (fun v21 L20 hq => ?_)
  obtain ⟨a17, qa17, c18, rfl, hL20⟩ := hq
  obtain rfl := OwnE.qlen hL20
  refine WO.cls (C' := St w0 m m [[⟨b1, 3, ([1, 2] : List Int).flatMap (I1 .i64)⟩], [⟨b3, 3, ([3, 4] : List Int).flatMap (I1 .i64)⟩], [⟨b5, 24, [.int .i64 2, .int .i64 1, .int .i64 9, .slice (some ⟨b1, 0, none⟩) 2 2]⟩], [⟨b6, 24, [.int .i64 2, .int .i64 1, .int .i64 9, .slice (some ⟨b3, 0, none⟩) 2 2]⟩], [⟨b7, 3, ([1] : List Int).flatMap (I1 .i64)⟩], L13, [⟨b15, 24, [.int .i64 y_1, .int .i64 y_2, .int .i64 y_3, .slice a10 ((y_4).length) c11]⟩], L20]) (fun _ h => h) ?_
  refine WO_pure tbok 3 [(0, .bool false), (3, .pointer (some ⟨b15, 0, none⟩)), (4, .int .i64 y_5), (21, .agg #[.int .i64 y_6, .int .i64 y_7, .int .i64 y_8, .slice a17 ((y_9).length) c18]), (22, .int .i64 y_10)] rfl ⟨rfl, rfl, rfl, rfl, rfl, trivial⟩ ?_
  refine WO_alloc tbok [.int .i64 0, .int .i64 0, .int .i64 0, .slice none 0 0] rfl rfl trivial rfl rfl rfl rfl (fun b22 => ?_)
  refine WO.cls (C' := St w0 m m [[⟨b1, 3, ([1, 2] : List Int).flatMap (I1 .i64)⟩], [⟨b3, 3, ([3, 4] : List Int).flatMap (I1 .i64)⟩], [⟨b5, 24, [.int .i64 2, .int .i64 1, .int .i64 9, .slice (some ⟨b1, 0, none⟩) 2 2]⟩], [⟨b6, 24, [.int .i64 2, .int .i64 1, .int .i64 9, .slice (some ⟨b3, 0, none⟩) 2 2]⟩], [⟨b7, 3, ([1] : List Int).flatMap (I1 .i64)⟩], L13, [⟨b15, 24, [.int .i64 y_1, .int .i64 y_2, .int .i64 y_3, .slice a10 ((y_4).length) c11]⟩], L20, [⟨b22, 24, [.int .i64 0, .int .i64 0, .int .i64 0, .slice none 0 0]⟩]]) (fun _ h => h) ?_
  refine WO_storeB tbok 8 [.int .i64 y_6, .int .i64 y_7, .int .i64 y_8, .slice a17 ((y_9).length) c18] rfl rfl rfl rfl rfl rfl rfl ?_
  refine WO.cls (C' := St w0 m m [[⟨b1, 3, ([1, 2] : List Int).flatMap (I1 .i64)⟩], [⟨b3, 3, ([3, 4] : List Int).flatMap (I1 .i64)⟩], [⟨b5, 24, [.int .i64 2, .int .i64 1, .int .i64 9, .slice (some ⟨b1, 0, none⟩) 2 2]⟩], [⟨b6, 24, [.int .i64 2, .int .i64 1, .int .i64 9, .slice (some ⟨b3, 0, none⟩) 2 2]⟩], [⟨b7, 3, ([1] : List Int).flatMap (I1 .i64)⟩], L13, [⟨b15, 24, [.int .i64 y_1, .int .i64 y_2, .int .i64 y_3, .slice a10 ((y_4).length) c11]⟩], L20, [⟨b22, 24, [.int .i64 y_6, .int .i64 y_7, .int .i64 y_8, .slice a17 ((y_9).length) c18]⟩]]) (fun _ h => h) ?_
  refine WO_pure tbok 1 [(0, .bool false), (3, .pointer (some ⟨b15, 0, none⟩)), (4, .int .i64 y_5), (5, .pointer (some ⟨b22, 0, none⟩)), (6, .int .i64 y_10)] rfl ⟨rfl, rfl, rfl, rfl, rfl, trivial⟩ ?_
  refine WO_end ?_
  refine WK_seq ?_
  refine WK_region ?_
  refine WO_pure tbok 5 [(0, .bool false), (3, .pointer (some ⟨b15, 0, none⟩)), (5, .pointer (some ⟨b22, 0, none⟩)), (27, .bool ((w64 (y_5 + y_10)) == 0))] rfl ⟨rfl, rfl, rfl, rfl, trivial⟩ ?_
  refine WO_split (d := 27) (b := (w64 (y_5 + y_10)) == 0) rfl (fun hb23 => ?_) (fun hb23 => ?_)
  · have hm := ifT hb23 hm
    refine WO_pure tbok 1 [(0, .bool false), (5, .pointer (some ⟨b22, 0, none⟩)), (27, .bool true), (28, .pointer (some ⟨b15, 3, none⟩))] rfl ⟨rfl, rfl, rfl, rfl, trivial⟩ ?_
    refine WO_loadB tbok 6 rfl rfl rfl rfl (fun _ h => h) rfl rfl ?_
    refine WO_bslice (E := (I1 .i64)) tbok (fun _ => rfl) (by decide) [.int .i64 1, .int .i64 4] ([1, 4] : List Int) rfl rfl trivial rfl rfl rfl rfl rfl rfl rfl rfl rfl rfl rfl rfl (fun b24 hb24 => ?_)
    refine WO.cls (C' := St w0 m m [[⟨b1, 3, ([1, 2] : List Int).flatMap (I1 .i64)⟩], [⟨b3, 3, ([3, 4] : List Int).flatMap (I1 .i64)⟩], [⟨b5, 24, [.int .i64 2, .int .i64 1, .int .i64 9, .slice (some ⟨b1, 0, none⟩) 2 2]⟩], [⟨b6, 24, [.int .i64 2, .int .i64 1, .int .i64 9, .slice (some ⟨b3, 0, none⟩) 2 2]⟩], [⟨b7, 3, ([1] : List Int).flatMap (I1 .i64)⟩], L13, [⟨b15, 24, [.int .i64 y_1, .int .i64 y_2, .int .i64 y_3, .slice a10 ((y_4).length) c11]⟩], L20, [⟨b22, 24, [.int .i64 y_6, .int .i64 y_7, .int .i64 y_8, .slice a17 ((y_9).length) c18]⟩], [⟨b24, 3, ([1, 4] : List Int).flatMap (I1 .i64)⟩]]) (fun _ h => h) ?_
    obtain ⟨y_11, hc26, hm⟩ := bind_some hm
    refine WO_call0 (.bool y_11) rfl rfl trivial rfl rfl rfl rfl St_closed ⟨34, #[], #[], rfl, callable_34, fun w hw => ⟨_, hw.satV, slices_Equal_sint_walk (OwnE.rd (E := (I1 .i64)) (k := 1) (fun _ => rfl) hL13 (fun _ hx => hw.memV (i := 5) rfl hx)) (OwnE.rd (E := (I1 .i64)) (k := 1) (fun _ => rfl) hb24 (fun _ hx => hw.memV (i := 9) rfl hx)) hc26⟩⟩ ?_
    refine WO_pure tbok 2 [(0, .bool false), (5, .pointer (some ⟨b22, 0, none⟩)), (33, .bool y_11)] rfl ⟨rfl, rfl, rfl, trivial⟩ ?_
    refine WO_split (d := 33) (b := y_11) rfl (fun hb27 => ?_) (fun hb27 => ?_)
    · have hm := ifT hb27 hm
      refine WO_pure tbok 1 [(0, .bool false), (33, .bool true), (34, .pointer (some ⟨b22, 3, none⟩))] rfl ⟨rfl, rfl, rfl, trivial⟩ ?_
      refine WO_loadB tbok 8 rfl rfl rfl rfl (fun _ h => h) rfl rfl ?_
      refine WO_bslice (E := (I1 .i64)) tbok (fun _ => rfl) (by decide) [.int .i64 2, .int .i64 1] ([2, 1] : List Int) rfl rfl trivial rfl rfl rfl rfl rfl rfl rfl rfl rfl rfl rfl rfl (fun b28 hb28 => ?_)
      refine WO.cls (C' := St w0 m m [[⟨b1, 3, ([1, 2] : List Int).flatMap (I1 .i64)⟩], [⟨b3, 3, ([3, 4] : List Int).flatMap (I1 .i64)⟩], [⟨b5, 24, [.int .i64 2, .int .i64 1, .int .i64 9, .slice (some ⟨b1, 0, none⟩) 2 2]⟩], [⟨b6, 24, [.int .i64 2, .int .i64 1, .int .i64 9, .slice (some ⟨b3, 0, none⟩) 2 2]⟩], [⟨b7, 3, ([1] : List Int).flatMap (I1 .i64)⟩], L13, [⟨b15, 24, [.int .i64 y_1, .int .i64 y_2, .int .i64 y_3, .slice a10 ((y_4).length) c11]⟩], L20, [⟨b22, 24, [.int .i64 y_6, .int .i64 y_7, .int .i64 y_8, .slice a17 ((y_9).length) c18]⟩], [⟨b24, 3, ([1, 4] : List Int).flatMap (I1 .i64)⟩], [⟨b28, 3, ([2, 1] : List Int).flatMap (I1 .i64)⟩]]) (fun _ h => h) ?_
      obtain ⟨y_12, hc30, hm⟩ := bind_some hm
      refine WO_call0 (.bool y_12) rfl rfl trivial rfl rfl rfl rfl St_closed ⟨34, #[], #[], rfl, callable_34, fun w hw => ⟨_, hw.satV, slices_Equal_sint_walk (OwnE.rd (E := (I1 .i64)) (k := 1) (fun _ => rfl) hL20 (fun _ hx => hw.memV (i := 7) rfl hx)) (OwnE.rd (E := (I1 .i64)) (k := 1) (fun _ => rfl) hb28 (fun _ hx => hw.memV (i := 10) rfl hx)) hc30⟩⟩ ?_
      refine WO_pure tbok 2 [(0, .bool y_12)] rfl ⟨rfl, trivial⟩ ?_
      refine WO_end ?_
      cases hm
      exact WK_ret (ret_out (L := []) (RLc_tmp rfl RLc_nil) (List.nil_sublist _) rfl)
    · have hm := ifF hb27 hm
      refine WO_pure tbok 2 [(0, .bool false), (33, .bool false)] rfl ⟨rfl, rfl, trivial⟩ ?_
      refine WO_skip rfl rfl ?_
      refine WO_skip rfl rfl ?_
      refine WO_pure tbok 2 [(0, .bool false)] rfl ⟨rfl, trivial⟩ ?_
      refine WO_end ?_
      cases hm
      exact WK_ret (ret_out (L := []) (RLc_tmp rfl RLc_nil) (List.nil_sublist _) rfl)
  · have hm := ifF hb23 hm
    refine WO_pure tbok 2 [(0, .bool false), (5, .pointer (some ⟨b22, 0, none⟩)), (27, .bool false)] rfl ⟨rfl, rfl, rfl, trivial⟩ ?_
    refine WO_skip rfl rfl ?_
    refine WO_skip rfl rfl ?_
    refine WO_pure tbok 4 [(0, .bool false), (33, .bool false)] rfl ⟨rfl, rfl, trivial⟩ ?_
    refine WO_skip rfl rfl ?_
    refine WO_skip rfl rfl ?_
    refine WO_pure tbok 2 [(0, .bool false)] rfl ⟨rfl, trivial⟩ ?_
    refine WO_end ?_
    cases hm
    exact WK_ret (ret_out (L := []) (RLc_tmp rfl RLc_nil) (List.nil_sublist _) rfl)
theorem fiducialref13_Check_walk {m : Mu} {p0_0 : Int} {p0_1 : Int} {p0_2 : Int} {p0_3 : List Int} {a_p0_3 : Option Addr} {q_p0_3 c_p0_3 : Nat} (h_p0_3 : SlR (FE (I1 .i64)) 1 m (.slice a_p0_3 q_p0_3 c_p0_3) p0_3) {r : Int} (hm : fiducialref13_Check p0_0 p0_1 p0_2 p0_3 = some r) :
    Go.E.Spec Try.prog 7 [.agg #[.int .i64 p0_0, .int .i64 p0_1, .int .i64 p0_2, .slice a_p0_3 q_p0_3 c_p0_3]] m (fun v _ _ => v = .int .i64 r) := by
  refine Spec_enter Try.func7 rfl rfl rfl (fun w0 => ?_)
  refine WK.sub (e' := [(0, .agg #[.int .i64 p0_0, .int .i64 p0_1, .int .i64 p0_2, .slice a_p0_3 q_p0_3 c_p0_3])]) ⟨rfl, trivial⟩ ?_
  obtain rfl := SlR.qlen h_p0_3
  refine WK.sub (e' := [(0, .agg #[.int .i64 p0_0, .int .i64 p0_1, .int .i64 p0_2, .slice a_p0_3 p0_3.length c_p0_3])]) ⟨rfl, trivial⟩ ?_
  unfold fiducialref13_Check at hm
  refine WK_seq ?_
  refine WK_region ?_
  refine WO_box [.int .i64 p0_0, .int .i64 p0_1, .int .i64 p0_2, .slice a_p0_3 p0_3.length c_p0_3] rfl rfl trivial rfl rfl rfl (fun b2 => ?_)
  refine WO.cls (C' := St w0 m m [[⟨b2, 24, [.int .i64 p0_0, .int .i64 p0_1, .int .i64 p0_2, .slice a_p0_3 p0_3.length c_p0_3]⟩]]) (fun _ h => h) ?_
  refine WO_pure tbok 1 [(1, .pointer (some ⟨b2, 0, none⟩)), (2, .int .i64 0)] rfl ⟨rfl, rfl, trivial⟩ ?_
  refine WO_end ?_
  refine WK_seq ?_
  refine WK_seq ?_
  obtain ⟨s_1, hx3, hm⟩ := bind_some hm
  refine WK_meet [(1, .pointer (some ⟨b2, 0, none⟩)), (2, .int .i64 0), (42, .bool s_1)] (St w0 m m [[⟨b2, 24, [.int .i64 p0_0, .int .i64 p0_1, .int .i64 p0_2, .slice a_p0_3 p0_3.length c_p0_3]⟩]]) ?_ (fun hk4 => ?_)
  · refine WK_cond (b := s_1) rfl (fun hb5 => ?_) (fun hb5 => ?_)
    · have hm := ifT hb5 hm
      refine WK_seq ?_
      refine WK_region ?_
      refine WO_pure tbok 1 [(1, .pointer (some ⟨b2, 0, none⟩)), (2, .int .i64 1)] rfl ⟨rfl, rfl, trivial⟩ ?_
      refine WO_end ?_
      cases hm
      exact WK_ret (ret_out (L := []) (RLc_tmp rfl RLc_nil) (List.nil_sublist _) rfl)
    · have hm := ifF hb5 hm
      refine WK_skip ?_
      refine WK_seq ?_
      refine WK_seq ?_
      refine WK_region ?_
      refine WO_pure tbok 1 [(1, .pointer (some ⟨b2, 0, none⟩)), (2, .int .i64 0), (3, .int .i64 0)] rfl ⟨rfl, rfl, rfl, trivial⟩ ?_
      refine WO_end ?_
      obtain ⟨x6, hx7, hm⟩ := bind_some hm
      refine WK_join (β := Unit × Unit) (fun p => Sum.inr p.1 = x6) (fun p => [(2, .int .i64 0)]) (fun p => St w0 m m [[⟨b2, 24, [.int .i64 p0_0, .int .i64 p0_1, .int .i64 p0_2, .slice a_p0_3 p0_3.length c_p0_3]⟩]]) ?_ (fun hk8 => ?_)
      · rintro ⟨⟨⟩, ⟨⟩⟩ hq14
        subst hq14
        refine WK.sub (e' := [(2, .int .i64 0)]) ⟨rfl, trivial⟩ (WK.cls (C' := St w0 m m [[⟨b2, 24, [.int .i64 p0_0, .int .i64 p0_1, .int .i64 p0_2, .slice a_p0_3 p0_3.length c_p0_3]⟩]]) (fun _ h => h) ?_)
        refine WK_seq ?_
        refine WK_region ?_
        refine WO_pure tbok 1 [(2, .int .i64 0)] rfl ⟨rfl, trivial⟩ ?_
        refine WO_end ?_
        cases hm
        exact WK_ret (ret_out (L := []) (RLc_tmp rfl RLc_nil) (List.nil_sublist _) rfl)
      · refine WK_block ?_
        refine WK_loop (S := Int) (G := Unit) (fun s => fiducialref13_Check_s1 p0_2 p0_3 s) (fun s g => [(1, .pointer (some ⟨b2, 0, none⟩)), (2, .int .i64 0), (3, .int .i64 s)]) (fun s g => St w0 m m [[⟨b2, 24, [.int .i64 p0_0, .int .i64 p0_1, .int .i64 p0_2, .slice a_p0_3 p0_3.length c_p0_3]⟩]]) (fun s g => True) FUEL 0 () x6 hx7 trivial ⟨rfl, rfl, rfl, trivial⟩ (fun _ h => h) ?_
        rintro s_2 ⟨⟩ o10 fl11 hm9 - hn12 hd13
        have hm9 : fiducialref13_Check_s1 p0_2 p0_3 s_2 = some o10 := hm9
        unfold fiducialref13_Check_s1 at hm9
        refine WK.sub (e' := [(1, .pointer (some ⟨b2, 0, none⟩)), (2, .int .i64 0), (3, .int .i64 s_2)]) ⟨rfl, rfl, rfl, trivial⟩ (WK.cls (C' := St w0 m m [[⟨b2, 24, [.int .i64 p0_0, .int .i64 p0_1, .int .i64 p0_2, .slice a_p0_3 p0_3.length c_p0_3]⟩]]) (fun _ h => h) ?_)
        refine WK_seq ?_
        refine WK_seq ?_
        refine WK_region ?_
        refine WO_pure tbok 2 [(1, .pointer (some ⟨b2, 0, none⟩)), (2, .int .i64 0), (3, .int .i64 s_2), (43, .int .i64 s_2), (44, .pointer (some ⟨b2, 3, none⟩))] rfl ⟨rfl, rfl, rfl, rfl, rfl, trivial⟩ ?_
        refine WO_loadB tbok 0 rfl rfl rfl rfl (fun _ h => h) rfl rfl ?_
        refine WO_pure tbok 2 [(1, .pointer (some ⟨b2, 0, none⟩)), (2, .int .i64 0), (3, .int .i64 s_2), (47, .bool (decide (s_2 < (p0_3.length : Int))))] rfl ⟨rfl, rfl, rfl, rfl, trivial⟩ ?_
        refine WO_end ?_
        refine WK_cond (b := decide (s_2 < (p0_3.length : Int))) rfl (fun hb15 => ?_) (fun hb15 => ?_)
        · have hm9 := ifT hb15 hm9
          refine WK_skip ?_
          refine WK_seq ?_
          refine WK_block ?_
          refine WK_seq ?_
          obtain ⟨s_3, hx16, hm9⟩ := bind_some hm9
          refine WK_meet [(1, .pointer (some ⟨b2, 0, none⟩)), (2, .int .i64 0), (3, .int .i64 s_2), (65, .bool s_3)] (St w0 m m [[⟨b2, 24, [.int .i64 p0_0, .int .i64 p0_1, .int .i64 p0_2, .slice a_p0_3 p0_3.length c_p0_3]⟩]]) ?_ (fun hk17 => ?_)
          · refine WK_cond (b := s_3) rfl (fun hb18 => ?_) (fun hb18 => ?_)
            · have hm9 := ifT hb18 hm9
              refine WK_seq ?_
              refine WK_region ?_
              refine WO_pure tbok 1 [(1, .pointer (some ⟨b2, 0, none⟩)), (2, .int .i64 1), (3, .int .i64 s_2)] rfl ⟨rfl, rfl, rfl, trivial⟩ ?_
              refine WO_end ?_
              cases hm9
              have hq := hd13 _ rfl
              subst hq
              have hm : some _ = some _ := hm
              cases hm
              exact WK_ret (ret_out (L := []) (RLc_tmp rfl RLc_nil) (List.nil_sublist _) rfl)
            · have hm9 := ifF hb18 hm9
              refine WK_skip ?_
              refine WK_blk ?_
              refine WK_region ?_
              refine WO_pure tbok 3 [(1, .pointer (some ⟨b2, 0, none⟩)), (2, .int .i64 0), (3, .int .i64 (w64 (s_2 + 1)))] rfl ⟨rfl, rfl, rfl, trivial⟩ ?_
              refine WO_end ?_
              cases hm9
              refine WK.sub ?_ (WK.cls (fun _ h => h) (hn12 _ () rfl trivial))
              exact ⟨rfl, rfl, rfl, trivial⟩
          · refine WK_draw 16 [0, 1, 2, 3, 4, 5, 6, 7, 8, 9, 10, 11, 12, 13, 14, 15] follows_ok (by kernel_rfl) St_closed ?_
            refine WO_pure tbok 1 [(1, .pointer (some ⟨b2, 0, none⟩)), (2, .int .i64 0), (3, .int .i64 s_2), (50, .pointer (some ⟨b2, 3, none⟩))] rfl ⟨rfl, rfl, rfl, rfl, trivial⟩ ?_
            refine WO_loadB tbok 0 rfl rfl rfl rfl (fun _ h => h) rfl rfl ?_
            refine WO_pure tbok 1 [(1, .pointer (some ⟨b2, 0, none⟩)), (2, .int .i64 0), (3, .int .i64 s_2), (51, .slice a_p0_3 p0_3.length c_p0_3), (52, .int .i64 s_2)] rfl ⟨rfl, rfl, rfl, rfl, rfl, trivial⟩ ?_
            obtain ⟨v_4, hy19, hx16⟩ := bind_some hx16
            obtain ⟨hc20, hy19⟩ := ix_some hy19
            refine WO_index tbok rfl rfl rfl rfl rfl rfl rfl rfl (SlR.addr h_p0_3) hc20 ?_
            refine WO_loadE tbok rfl rfl rfl rfl (fun _ h => St.sat h) h_p0_3 hy19 rfl ?_
            refine WO_pure tbok 2 [(1, .pointer (some ⟨b2, 0, none⟩)), (2, .int .i64 0), (3, .int .i64 s_2), (56, .bool (decide (v_4 < 0)))] rfl ⟨rfl, rfl, rfl, rfl, trivial⟩ ?_
            refine WO_split (d := 56) (b := decide (v_4 < 0)) rfl (fun hb21 => ?_) (fun hb21 => ?_)
            · have hx16 := ifT hb21 hx16
              refine WO_pure tbok 9 [(1, .pointer (some ⟨b2, 0, none⟩)), (2, .int .i64 0), (3, .int .i64 s_2), (65, .bool true)] rfl ⟨rfl, rfl, rfl, rfl, trivial⟩ ?_
              refine WO_tail ?_
              refine WO_end ?_
              cases hx16
              refine WK.sub ?_ (WK.cls (fun _ h => h) hk17)
              exact ⟨rfl, rfl, rfl, rfl, trivial⟩
            · have hx16 := ifF hb21 hx16
              refine WO_pure tbok 1 [(1, .pointer (some ⟨b2, 0, none⟩)), (2, .int .i64 0), (3, .int .i64 s_2), (56, .bool false), (57, .pointer (some ⟨b2, 3, none⟩))] rfl ⟨rfl, rfl, rfl, rfl, rfl, trivial⟩ ?_
              refine WO_loadB tbok 0 rfl rfl rfl rfl (fun _ h => h) rfl rfl ?_
              refine WO_pure tbok 1 [(1, .pointer (some ⟨b2, 0, none⟩)), (2, .int .i64 0), (3, .int .i64 s_2), (56, .bool false), (58, .slice a_p0_3 p0_3.length c_p0_3), (59, .int .i64 s_2)] rfl ⟨rfl, rfl, rfl, rfl, rfl, rfl, trivial⟩ ?_
              obtain ⟨v_5, hy22, hx16⟩ := bind_some hx16
              obtain ⟨hc23, hy22⟩ := ix_some hy22
              refine WO_index tbok rfl rfl rfl rfl rfl rfl rfl rfl (SlR.addr h_p0_3) hc23 ?_
              refine WO_loadE tbok rfl rfl rfl rfl (fun _ h => St.sat h) h_p0_3 hy22 rfl ?_
              refine WO_pure tbok 1 [(1, .pointer (some ⟨b2, 0, none⟩)), (2, .int .i64 0), (3, .int .i64 s_2), (56, .bool false), (61, .int .i64 v_5), (62, .pointer (some ⟨b2, 2, none⟩))] rfl ⟨rfl, rfl, rfl, rfl, rfl, rfl, trivial⟩ ?_
              refine WO_loadB tbok 0 rfl rfl rfl rfl (fun _ h => h) rfl rfl ?_
              refine WO_pure tbok 2 [(1, .pointer (some ⟨b2, 0, none⟩)), (2, .int .i64 0), (3, .int .i64 s_2), (65, .bool (decide (p0_2 < v_5)))] rfl ⟨rfl, rfl, rfl, rfl, trivial⟩ ?_
              refine WO_tail ?_
              refine WO_end ?_
              cases hx16
              refine WK.sub ?_ (WK.cls (fun _ h => h) hk17)
              exact ⟨rfl, rfl, rfl, rfl, trivial⟩
        · have hm9 := ifF hb15 hm9
          refine WK_exit rfl ?_
          cases hm9
          refine WK.sub ?_ (WK.cls (fun _ h => h) (hk8 ((), ()) (hd13 _ rfl)))
          exact ⟨rfl, trivial⟩
  · refine WK_region ?_
    refine WO_pure tbok 1 [(1, .pointer (some ⟨b2, 0, none⟩)), (2, .int .i64 0), (4, .pointer (some ⟨b2, 0, none⟩))] rfl ⟨rfl, rfl, rfl, trivial⟩ ?_
    refine WO_loadB tbok 0 rfl rfl rfl rfl (fun _ h => h) rfl rfl ?_
    refine WO_pure tbok 2 [(1, .pointer (some ⟨b2, 0, none⟩)), (2, .int .i64 0), (7, .bool (decide (p0_0 < 1)))] rfl ⟨rfl, rfl, rfl, trivial⟩ ?_
    refine WO_split (d := 7) (b := decide (p0_0 < 1)) rfl (fun hb24 => ?_) (fun hb24 => ?_)
    · have hx3 := ifT hb24 hx3
      refine WO_pure tbok 35 [(1, .pointer (some ⟨b2, 0, none⟩)), (2, .int .i64 0), (42, .bool true)] rfl ⟨rfl, rfl, rfl, trivial⟩ ?_
      refine WO_end ?_
      cases hx3
      refine WK.sub ?_ (WK.cls (fun _ h => h) hk4)
      exact ⟨rfl, rfl, rfl, trivial⟩
    · have hx3 := ifF hb24 hx3
      refine WO_pure tbok 1 [(1, .pointer (some ⟨b2, 0, none⟩)), (2, .int .i64 0), (7, .bool false), (8, .pointer (some ⟨b2, 0, none⟩))] rfl ⟨rfl, rfl, rfl, rfl, trivial⟩ ?_
      refine WO_loadB tbok 0 rfl rfl rfl rfl (fun _ h => h) rfl rfl ?_
      refine WO_pure tbok 3 [(1, .pointer (some ⟨b2, 0, none⟩)), (2, .int .i64 0), (12, .bool (decide (64 < p0_0)))] rfl ⟨rfl, rfl, rfl, trivial⟩ ?_
      refine WO_split (d := 12) (b := decide (64 < p0_0)) rfl (fun hb25 => ?_) (fun hb25 => ?_)
      · have hx3 := ifT hb25 hx3
        refine WO_pure tbok 30 [(1, .pointer (some ⟨b2, 0, none⟩)), (2, .int .i64 0), (42, .bool true)] rfl ⟨rfl, rfl, rfl, trivial⟩ ?_
        refine WO_end ?_
        cases hx3
        refine WK.sub ?_ (WK.cls (fun _ h => h) hk4)
        exact ⟨rfl, rfl, rfl, trivial⟩
      · have hx3 := ifF hb25 hx3
        refine WO_pure tbok 1 [(1, .pointer (some ⟨b2, 0, none⟩)), (2, .int .i64 0), (12, .bool false), (13, .pointer (some ⟨b2, 1, none⟩))] rfl ⟨rfl, rfl, rfl, rfl, trivial⟩ ?_
        refine WO_loadB tbok 0 rfl rfl rfl rfl (fun _ h => h) rfl rfl ?_
        refine WO_pure tbok 3 [(1, .pointer (some ⟨b2, 0, none⟩)), (2, .int .i64 0), (17, .bool (decide (p0_1 < 1)))] rfl ⟨rfl, rfl, rfl, trivial⟩ ?_
        refine WO_split (d := 17) (b := decide (p0_1 < 1)) rfl (fun hb26 => ?_) (fun hb26 => ?_)
        · have hx3 := ifT hb26 hx3
          refine WO_pure tbok 25 [(1, .pointer (some ⟨b2, 0, none⟩)), (2, .int .i64 0), (42, .bool true)] rfl ⟨rfl, rfl, rfl, trivial⟩ ?_
          refine WO_end ?_
          cases hx3
          refine WK.sub ?_ (WK.cls (fun _ h => h) hk4)
          exact ⟨rfl, rfl, rfl, trivial⟩
        · have hx3 := ifF hb26 hx3
          refine WO_pure tbok 1 [(1, .pointer (some ⟨b2, 0, none⟩)), (2, .int .i64 0), (17, .bool false), (18, .pointer (some ⟨b2, 1, none⟩))] rfl ⟨rfl, rfl, rfl, rfl, trivial⟩ ?_
          refine WO_loadB tbok 0 rfl rfl rfl rfl (fun _ h => h) rfl rfl ?_
          refine WO_pure tbok 3 [(1, .pointer (some ⟨b2, 0, none⟩)), (2, .int .i64 0), (22, .bool (decide (64 < p0_1)))] rfl ⟨rfl, rfl, rfl, trivial⟩ ?_
          refine WO_split (d := 22) (b := decide (64 < p0_1)) rfl (fun hb27 => ?_) (fun hb27 => ?_)
          · have hx3 := ifT hb27 hx3
            refine WO_pure tbok 20 [(1, .pointer (some ⟨b2, 0, none⟩)), (2, .int .i64 0), (42, .bool true)] rfl ⟨rfl, rfl, rfl, trivial⟩ ?_
            refine WO_end ?_
            cases hx3
            refine WK.sub ?_ (WK.cls (fun _ h => h) hk4)
            exact ⟨rfl, rfl, rfl, trivial⟩
          · have hx3 := ifF hb27 hx3
            refine WO_pure tbok 1 [(1, .pointer (some ⟨b2, 0, none⟩)), (2, .int .i64 0), (22, .bool false), (23, .pointer (some ⟨b2, 2, none⟩))] rfl ⟨rfl, rfl, rfl, rfl, trivial⟩ ?_
            refine WO_loadB tbok 0 rfl rfl rfl rfl (fun _ h => h) rfl rfl ?_
            refine WO_pure tbok 3 [(1, .pointer (some ⟨b2, 0, none⟩)), (2, .int .i64 0), (27, .bool (decide (p0_2 < 1)))] rfl ⟨rfl, rfl, rfl, trivial⟩ ?_
            refine WO_split (d := 27) (b := decide (p0_2 < 1)) rfl (fun hb28 => ?_) (fun hb28 => ?_)
            · have hx3 := ifT hb28 hx3
              refine WO_pure tbok 15 [(1, .pointer (some ⟨b2, 0, none⟩)), (2, .int .i64 0), (42, .bool true)] rfl ⟨rfl, rfl, rfl, trivial⟩ ?_
              refine WO_end ?_
              cases hx3
              refine WK.sub ?_ (WK.cls (fun _ h => h) hk4)
              exact ⟨rfl, rfl, rfl, trivial⟩
            · have hx3 := ifF hb28 hx3
              refine WO_pure tbok 1 [(1, .pointer (some ⟨b2, 0, none⟩)), (2, .int .i64 0), (27, .bool false), (28, .pointer (some ⟨b2, 2, none⟩))] rfl ⟨rfl, rfl, rfl, rfl, trivial⟩ ?_
              refine WO_loadB tbok 0 rfl rfl rfl rfl (fun _ h => h) rfl rfl ?_
              refine WO_pure tbok 3 [(1, .pointer (some ⟨b2, 0, none⟩)), (2, .int .i64 0), (32, .bool (decide (65535 < p0_2)))] rfl ⟨rfl, rfl, rfl, trivial⟩ ?_
              refine WO_split (d := 32) (b := decide (65535 < p0_2)) rfl (fun hb29 => ?_) (fun hb29 => ?_)
              · have hx3 := ifT hb29 hx3
                refine WO_pure tbok 10 [(1, .pointer (some ⟨b2, 0, none⟩)), (2, .int .i64 0), (42, .bool true)] rfl ⟨rfl, rfl, rfl, trivial⟩ ?_
                refine WO_end ?_
                cases hx3
                refine WK.sub ?_ (WK.cls (fun _ h => h) hk4)
                exact ⟨rfl, rfl, rfl, trivial⟩
              · have hx3 := ifF hb29 hx3
                refine WO_pure tbok 1 [(1, .pointer (some ⟨b2, 0, none⟩)), (2, .int .i64 0), (32, .bool false), (33, .pointer (some ⟨b2, 3, none⟩))] rfl ⟨rfl, rfl, rfl, rfl, trivial⟩ ?_
                refine WO_loadB tbok 0 rfl rfl rfl rfl (fun _ h => h) rfl rfl ?_
                refine WO_pure tbok 2 [(1, .pointer (some ⟨b2, 0, none⟩)), (2, .int .i64 0), (32, .bool false), (35, .int .i64 (p0_3.length : Int)), (36, .pointer (some ⟨b2, 0, none⟩))] rfl ⟨rfl, rfl, rfl, rfl, rfl, trivial⟩ ?_
                refine WO_loadB tbok 0 rfl rfl rfl rfl (fun _ h => h) rfl rfl ?_
                refine WO_pure tbok 1 [(1, .pointer (some ⟨b2, 0, none⟩)), (2, .int .i64 0), (32, .bool false), (35, .int .i64 (p0_3.length : Int)), (37, .int .i64 p0_0), (38, .pointer (some ⟨b2, 1, none⟩))] rfl ⟨rfl, rfl, rfl, rfl, rfl, rfl, trivial⟩ ?_
                refine WO_loadB tbok 0 rfl rfl rfl rfl (fun _ h => h) rfl rfl ?_
                refine WO_pure tbok 3 [(1, .pointer (some ⟨b2, 0, none⟩)), (2, .int .i64 0), (42, .bool ((p0_3.length : Int) != (w64 (p0_0 * p0_1))))] rfl ⟨rfl, rfl, rfl, trivial⟩ ?_
                refine WO_end ?_
                cases hx3
                refine WK.sub ?_ (WK.cls (fun _ h => h) hk4)
                exact ⟨rfl, rfl, rfl, trivial⟩
def seam_Costs_Q (r : List (List Int) × Int) : Value → Mu → List Ent → Prop := fun v m L => ∃ (a0 : Option Addr) (q0 c0 : Nat), v = .tuple #[.slice a0 q0 c0, .int .i64 r.2] ∧ SlR (RowE (FE (I1 .i64)) 1) 1 m (.slice a0 q0 c0) r.1
theorem seam_Costs_walk {m : Mu} {p0_0 : Int} {p0_1 : Int} {p0_2 : Int} {p0_3 : List Int} {p1_0 : Int} {p1_1 : Int} {p1_2 : Int} {p1_3 : List Int} {a_p0_3 : Option Addr} {q_p0_3 c_p0_3 : Nat} {a_p1_3 : Option Addr} {q_p1_3 c_p1_3 : Nat} (h_p0_3 : SlR (FE (I1 .i64)) 1 m (.slice a_p0_3 q_p0_3 c_p0_3) p0_3) (h_p1_3 : SlR (FE (I1 .i64)) 1 m (.slice a_p1_3 q_p1_3 c_p1_3) p1_3) {r : List (List Int) × Int} (hm : seam_Costs p0_0 p0_1 p0_2 p0_3 p1_0 p1_1 p1_2 p1_3 = some r) :
    Go.E.Spec Try.prog 12 [.agg #[.int .i64 p0_0, .int .i64 p0_1, .int .i64 p0_2, .slice a_p0_3 q_p0_3 c_p0_3], .agg #[.int .i64 p1_0, .int .i64 p1_1, .int .i64 p1_2, .slice a_p1_3 q_p1_3 c_p1_3]] m (seam_Costs_Q r) := by
  refine Spec_enter Try.func12 rfl rfl rfl (fun w0 => ?_)
  refine WK.sub (e' := [(0, .agg #[.int .i64 p0_0, .int .i64 p0_1, .int .i64 p0_2, .slice a_p0_3 q_p0_3 c_p0_3]), (1, .agg #[.int .i64 p1_0, .int .i64 p1_1, .int .i64 p1_2, .slice a_p1_3 q_p1_3 c_p1_3])]) ⟨rfl, rfl, trivial⟩ ?_
  obtain rfl := SlR.qlen h_p0_3
  obtain rfl := SlR.qlen h_p1_3
  refine WK.sub (e' := [(0, .agg #[.int .i64 p0_0, .int .i64 p0_1, .int .i64 p0_2, .slice a_p0_3 p0_3.length c_p0_3]), (1, .agg #[.int .i64 p1_0, .int .i64 p1_1, .int .i64 p1_2, .slice a_p1_3 p1_3.length c_p1_3])]) ⟨rfl, rfl, trivial⟩ ?_
  unfold seam_Costs at hm
  refine WK_seq ?_
  refine WK_region ?_
  refine WO_box [.int .i64 p0_0, .int .i64 p0_1, .int .i64 p0_2, .slice a_p0_3 p0_3.length c_p0_3] rfl rfl trivial rfl rfl rfl (fun b3 => ?_)
  refine WO.cls (C' := St w0 m m [[⟨b3, 24, [.int .i64 p0_0, .int .i64 p0_1, .int .i64 p0_2, .slice a_p0_3 p0_3.length c_p0_3]⟩]]) (fun _ h => h) ?_
  refine WO_box [.int .i64 p1_0, .int .i64 p1_1, .int .i64 p1_2, .slice a_p1_3 p1_3.length c_p1_3] rfl rfl trivial rfl rfl rfl (fun b4 => ?_)
  refine WO.cls (C' := St w0 m m [[⟨b3, 24, [.int .i64 p0_0, .int .i64 p0_1, .int .i64 p0_2, .slice a_p0_3 p0_3.length c_p0_3]⟩], [⟨b4, 24, [.int .i64 p1_0, .int .i64 p1_1, .int .i64 p1_2, .slice a_p1_3 p1_3.length c_p1_3]⟩]]) (fun _ h => h) ?_
  refine WO_pure tbok 2 [(2, .pointer (some ⟨b3, 0, none⟩)), (3, .pointer (some ⟨b4, 0, none⟩)), (4, .slice none 0 0), (5, .int .i64 0)] rfl ⟨rfl, rfl, rfl, rfl, trivial⟩ ?_
  refine WO_end ?_
  refine WK_seq ?_
  refine WK_seq ?_
  refine WK_region ?_
  refine WO_loadB tbok 0 rfl rfl rfl rfl (fun _ h => h) rfl rfl ?_
  refine WO_loadB tbok 1 rfl rfl rfl rfl (fun _ h => h) rfl rfl ?_
  obtain ⟨y_1, hc5, hm⟩ := bind_some hm
  refine WO_call0 (.int .i64 y_1) rfl rfl trivial rfl rfl rfl rfl St_closed ⟨35, #[], #[], rfl, callable_35, fun w hw => ⟨_, hw.sat, seam_matched_walk h_p0_3 h_p1_3 hc5⟩⟩ ?_
  refine WO_pure tbok 1 [(2, .pointer (some ⟨b3, 0, none⟩)), (3, .pointer (some ⟨b4, 0, none⟩)), (4, .slice none 0 0), (5, .int .i64 0), (6, .int .i64 y_1)] rfl ⟨rfl, rfl, rfl, rfl, rfl, trivial⟩ ?_
  refine WO_end ?_
  refine WK_seq ?_
  refine WK_region ?_
  refine WO_pure tbok 2 [(2, .pointer (some ⟨b3, 0, none⟩)), (3, .pointer (some ⟨b4, 0, none⟩)), (4, .slice none 0 0), (5, .int .i64 0), (6, .int .i64 y_1), (15, .bool (y_1 != 0))] rfl ⟨rfl, rfl, rfl, rfl, rfl, rfl, trivial⟩ ?_
  refine WO_end ?_
  refine WK_cond (b := y_1 != 0) rfl (fun hb6 => ?_) (fun hb6 => ?_)
  · have hm := ifT hb6 hm
    refine WK_seq ?_
    refine WK_region ?_
    refine WO_pure tbok 3 [(2, .pointer (some ⟨b3, 0, none⟩)), (3, .pointer (some ⟨b4, 0, none⟩)), (4, .slice none 0 0), (5, .int .i64 y_1)] rfl ⟨rfl, rfl, rfl, rfl, trivial⟩ ?_
    refine WO_end ?_
    cases hm
    exact WK_ret (ret_out (L := []) (RLc_tmp rfl (RLc_tmp rfl RLc_nil)) (List.nil_sublist _) ⟨none, 0, 0, rfl, SlR_nil⟩)
  · have hm := ifF hb6 hm
    refine WK_skip ?_
    refine WK_seq ?_
    refine WK_region ?_
    refine WO_pure tbok 1 [(2, .pointer (some ⟨b3, 0, none⟩)), (3, .pointer (some ⟨b4, 0, none⟩)), (4, .slice none 0 0), (5, .int .i64 0), (17, .pointer (some ⟨b3, 1, none⟩))] rfl ⟨rfl, rfl, rfl, rfl, rfl, trivial⟩ ?_
    refine WO_loadB tbok 0 rfl rfl rfl rfl (fun _ h => h) rfl rfl ?_
    obtain ⟨hc7, hm⟩ := chk_some hm
    refine WO_makeT (E := (I1 .i64)) (k := 1) (T0 := 22) (T1 := 3) tbok rfl rfl trivial rfl rfl rfl rfl rfl rfl rfl rfl rfl rfl (mk_ok (by decide) hc7) (fun b8 c9 L10 hL10 => ?_)
    refine WO.cls (C' := St w0 m m [[⟨b3, 24, [.int .i64 p0_0, .int .i64 p0_1, .int .i64 p0_2, .slice a_p0_3 p0_3.length c_p0_3]⟩], [⟨b4, 24, [.int .i64 p1_0, .int .i64 p1_1, .int .i64 p1_2, .slice a_p1_3 p1_3.length c_p1_3]⟩], L10]) (fun _ h => h) ?_
    refine WO_pure tbok 1 [(2, .pointer (some ⟨b3, 0, none⟩)), (3, .pointer (some ⟨b4, 0, none⟩)), (4, .slice none 0 0), (5, .int .i64 0), (7, .slice (some ⟨b8, 0, none⟩) ((List.replicate (p0_1 : Int).toNat ([] : List Int)).length) c9)] rfl ⟨rfl, rfl, rfl, rfl, rfl, trivial⟩ ?_
    refine WO_end ?_
    refine WK_seq ?_
    refine WK_seq ?_
    refine WK_region ?_
    refine WO_pure tbok 3 [(2, .pointer (some ⟨b3, 0, none⟩)), (3, .pointer (some ⟨b4, 0, none⟩)), (4, .slice none 0 0), (5, .int .i64 0), (7, .slice (some ⟨b8, 0, none⟩) ((List.replicate (p0_1 : Int).toNat ([] : List Int)).length) c9), (21, .int .i64 ((List.replicate (p0_1 : Int).toNat ([] : List Int)).length : Int)), (22, .int .i64 0)] rfl ⟨rfl, rfl, rfl, rfl, rfl, rfl, rfl, trivial⟩ ?_
    refine WO_end ?_
    obtain ⟨x18, hx19, hm⟩ := bind_some hm
    refine WK_join (β := (List (List Int)) × (List Value × List Ent)) (fun p => p.1 = x18 ∧ OwnT 22 3 1 (I1 .i64) (.slice (some ⟨b8, 0, none⟩) ((List.replicate (p0_1 : Int).toNat ([] : List Int)).length) c9) p.2.1 p.1 p.2.2) (fun p => [(4, .slice none 0 0), (5, .int .i64 0), (7, .slice (some ⟨b8, 0, none⟩) ((List.replicate (p0_1 : Int).toNat ([] : List Int)).length) c9)]) (fun p => St w0 m m [[⟨b3, 24, [.int .i64 p0_0, .int .i64 p0_1, .int .i64 p0_2, .slice a_p0_3 p0_3.length c_p0_3]⟩], [⟨b4, 24, [.int .i64 p1_0, .int .i64 p1_1, .int .i64 p1_2, .slice a_p1_3 p1_3.length c_p1_3]⟩], p.2.2]) ?_ (fun hk20 => ?_)
    · rintro ⟨l_4, ⟨vs17, L16⟩⟩ ⟨hq26, hL16⟩
      subst hq26
      refine WK.sub (e' := [(4, .slice none 0 0), (5, .int .i64 0), (7, .slice (some ⟨b8, 0, none⟩) ((List.replicate (p0_1 : Int).toNat ([] : List Int)).length) c9)]) ⟨rfl, rfl, rfl, trivial⟩ (WK.cls (C' := St w0 m m [[⟨b3, 24, [.int .i64 p0_0, .int .i64 p0_1, .int .i64 p0_2, .slice a_p0_3 p0_3.length c_p0_3]⟩], [⟨b4, 24, [.int .i64 p1_0, .int .i64 p1_1, .int .i64 p1_2, .slice a_p1_3 p1_3.length c_p1_3]⟩], L16]) (fun _ h => h) ?_)
      refine WK_seq ?_
      refine WK_region ?_
      refine WO_pure tbok 3 [(4, .slice (some ⟨b8, 0, none⟩) ((List.replicate (p0_1 : Int).toNat ([] : List Int)).length) c9), (5, .int .i64 0)] rfl ⟨rfl, rfl, trivial⟩ ?_
      refine WO_end ?_
      cases hm
      refine WK_freeze 2 rfl (fun m27 hle28 hmm29 => ?_)
      refine WK.cls (C' := St w0 m m27 [[⟨b3, 24, [.int .i64 p0_0, .int .i64 p0_1, .int .i64 p0_2, .slice a_p0_3 p0_3.length c_p0_3]⟩], [⟨b4, 24, [.int .i64 p1_0, .int .i64 p1_1, .int .i64 p1_2, .slice a_p1_3 p1_3.length c_p1_3]⟩], []]) (fun _ h => h) ?_
      exact WK_ret (ret_out (L := []) (RLc_tmp rfl (RLc_tmp rfl RLc_nil)) (List.nil_sublist _) ⟨(some ⟨b8, 0, none⟩), ((List.replicate (p0_1 : Int).toNat ([] : List Int)).length), c9, rfl, (OwnT.rd (E := (I1 .i64)) (k := 1) (fun _ => rfl) hL16 hmm29)⟩)
    · refine WK_block ?_
      refine WK_loop (S := List (List Int) × Int) (G := List Value × List Ent) (fun s => seam_Costs_s1 p0_0 p0_1 p0_3 p1_3 s.1 s.2) (fun s g => [(2, .pointer (some ⟨b3, 0, none⟩)), (3, .pointer (some ⟨b4, 0, none⟩)), (4, .slice none 0 0), (5, .int .i64 0), (7, .slice (some ⟨b8, 0, none⟩) ((List.replicate (p0_1 : Int).toNat ([] : List Int)).length) c9), (21, .int .i64 ((List.replicate (p0_1 : Int).toNat ([] : List Int)).length : Int)), (22, .int .i64 s.2)]) (fun s g => St w0 m m [[⟨b3, 24, [.int .i64 p0_0, .int .i64 p0_1, .int .i64 p0_2, .slice a_p0_3 p0_3.length c_p0_3]⟩], [⟨b4, 24, [.int .i64 p1_0, .int .i64 p1_1, .int .i64 p1_2, .slice a_p1_3 p1_3.length c_p1_3]⟩], g.2]) (fun s g => OwnT 22 3 1 (I1 .i64) (.slice (some ⟨b8, 0, none⟩) ((List.replicate (p0_1 : Int).toNat ([] : List Int)).length) c9) g.1 s.1 g.2) FUEL ((List.replicate (p0_1 : Int).toNat ([] : List Int)), 0) ((List.replicate (p0_1 : Int).toNat (Value.slice none 0 0)), L10) x18 hx19 hL10 ⟨rfl, rfl, rfl, rfl, rfl, rfl, rfl, trivial⟩ (fun _ h => h) ?_
      rintro ⟨l_2, s_3⟩ ⟨vs14, L13⟩ o22 fl23 hm21 hL13 hn24 hd25
      have hm21 : seam_Costs_s1 p0_0 p0_1 p0_3 p1_3 l_2 s_3 = some o22 := hm21
      unfold seam_Costs_s1 at hm21
      refine WK.sub (e' := [(2, .pointer (some ⟨b3, 0, none⟩)), (3, .pointer (some ⟨b4, 0, none⟩)), (4, .slice none 0 0), (5, .int .i64 0), (7, .slice (some ⟨b8, 0, none⟩) ((List.replicate (p0_1 : Int).toNat ([] : List Int)).length) c9), (21, .int .i64 ((List.replicate (p0_1 : Int).toNat ([] : List Int)).length : Int)), (22, .int .i64 s_3)]) ⟨rfl, rfl, rfl, rfl, rfl, rfl, rfl, trivial⟩ (WK.cls (C' := St w0 m m [[⟨b3, 24, [.int .i64 p0_0, .int .i64 p0_1, .int .i64 p0_2, .slice a_p0_3 p0_3.length c_p0_3]⟩], [⟨b4, 24, [.int .i64 p1_0, .int .i64 p1_1, .int .i64 p1_2, .slice a_p1_3 p1_3.length c_p1_3]⟩], L13]) (fun _ h => h) ?_)
      refine WK_seq ?_
      refine WK_region ?_
      refine WO_pure tbok 1 [(2, .pointer (some ⟨b3, 0, none⟩)), (3, .pointer (some ⟨b4, 0, none⟩)), (4, .slice none 0 0), (5, .int .i64 0), (7, .slice (some ⟨b8, 0, none⟩) ((List.replicate (p0_1 : Int).toNat ([] : List Int)).length) c9), (21, .int .i64 ((List.replicate (p0_1 : Int).toNat ([] : List Int)).length : Int)), (22, .int .i64 s_3), (23, .bool (decide (s_3 < ((List.replicate (p0_1 : Int).toNat ([] : List Int)).length : Int))))] rfl ⟨rfl, rfl, rfl, rfl, rfl, rfl, rfl, rfl, trivial⟩ ?_
      refine WO_end ?_
      refine WK_seq ?_
      refine WK_cond (b := decide (s_3 < ((List.replicate (p0_1 : Int).toNat ([] : List Int)).length : Int))) rfl (fun hb30 => ?_) (fun hb30 => ?_)
      · have hm21 := ifT hb30 hm21
        refine WK_skip ?_
        refine WK_seq ?_
        refine WK_block ?_
        refine WK_seq ?_
        refine WK_region ?_
        refine WO_pure tbok 2 [(2, .pointer (some ⟨b3, 0, none⟩)), (3, .pointer (some ⟨b4, 0, none⟩)), (4, .slice none 0 0), (5, .int .i64 0), (7, .slice (some ⟨b8, 0, none⟩) ((List.replicate (p0_1 : Int).toNat ([] : List Int)).length) c9), (8, .int .i64 s_3), (21, .int .i64 ((List.replicate (p0_1 : Int).toNat ([] : List Int)).length : Int)), (22, .int .i64 s_3)] rfl ⟨rfl, rfl, rfl, rfl, rfl, rfl, rfl, rfl, trivial⟩ ?_
        refine WO_end ?_
        refine WK_seq ?_
        refine WK_region ?_
        refine WO_pure tbok 1 [(2, .pointer (some ⟨b3, 0, none⟩)), (3, .pointer (some ⟨b4, 0, none⟩)), (4, .slice none 0 0), (5, .int .i64 0), (7, .slice (some ⟨b8, 0, none⟩) ((List.replicate (p0_1 : Int).toNat ([] : List Int)).length) c9), (8, .int .i64 s_3), (21, .int .i64 ((List.replicate (p0_1 : Int).toNat ([] : List Int)).length : Int)), (22, .int .i64 s_3), (25, .pointer (some ⟨b3, 0, none⟩))] rfl ⟨rfl, rfl, rfl, rfl, rfl, rfl, rfl, rfl, rfl, trivial⟩ ?_
        refine WO_loadB tbok 0 rfl rfl rfl rfl (fun _ h => h) rfl rfl ?_
        refine WO_pure tbok 1 [(2, .pointer (some ⟨b3, 0, none⟩)), (3, .pointer (some ⟨b4, 0, none⟩)), (4, .slice none 0 0), (5, .int .i64 0), (7, .slice (some ⟨b8, 0, none⟩) ((List.replicate (p0_1 : Int).toNat ([] : List Int)).length) c9), (8, .int .i64 s_3), (21, .int .i64 ((List.replicate (p0_1 : Int).toNat ([] : List Int)).length : Int)), (22, .int .i64 s_3), (26, .int .i64 p0_0), (27, .int .i64 0)] rfl ⟨rfl, rfl, rfl, rfl, rfl, rfl, rfl, rfl, rfl, rfl, trivial⟩ ?_
        refine WO_end ?_
        obtain ⟨x37, hx38, hm21⟩ := bind_some hm21
        refine WK_join (β := (List (List Int)) × (List Value × List Ent)) (fun p => p.1 = x37 ∧ OwnT 22 3 1 (I1 .i64) (.slice (some ⟨b8, 0, none⟩) ((List.replicate (p0_1 : Int).toNat ([] : List Int)).length) c9) p.2.1 p.1 p.2.2) (fun p => [(2, .pointer (some ⟨b3, 0, none⟩)), (3, .pointer (some ⟨b4, 0, none⟩)), (4, .slice none 0 0), (5, .int .i64 0), (7, .slice (some ⟨b8, 0, none⟩) ((List.replicate (p0_1 : Int).toNat ([] : List Int)).length) c9), (21, .int .i64 ((List.replicate (p0_1 : Int).toNat ([] : List Int)).length : Int)), (22, .int .i64 s_3)]) (fun p => St w0 m m [[⟨b3, 24, [.int .i64 p0_0, .int .i64 p0_1, .int .i64 p0_2, .slice a_p0_3 p0_3.length c_p0_3]⟩], [⟨b4, 24, [.int .i64 p1_0, .int .i64 p1_1, .int .i64 p1_2, .slice a_p1_3 p1_3.length c_p1_3]⟩], p.2.2]) ?_ (fun hk39 => ?_)
        · rintro ⟨l_7, ⟨vs36, L35⟩⟩ ⟨hq45, hL35⟩
          subst hq45
          refine WK.sub (e' := [(2, .pointer (some ⟨b3, 0, none⟩)), (3, .pointer (some ⟨b4, 0, none⟩)), (4, .slice none 0 0), (5, .int .i64 0), (7, .slice (some ⟨b8, 0, none⟩) ((List.replicate (p0_1 : Int).toNat ([] : List Int)).length) c9), (21, .int .i64 ((List.replicate (p0_1 : Int).toNat ([] : List Int)).length : Int)), (22, .int .i64 s_3)]) ⟨rfl, rfl, rfl, rfl, rfl, rfl, rfl, trivial⟩ (WK.cls (C' := St w0 m m [[⟨b3, 24, [.int .i64 p0_0, .int .i64 p0_1, .int .i64 p0_2, .slice a_p0_3 p0_3.length c_p0_3]⟩], [⟨b4, 24, [.int .i64 p1_0, .int .i64 p1_1, .int .i64 p1_2, .slice a_p1_3 p1_3.length c_p1_3]⟩], L35]) (fun _ h => h) ?_)
          refine WK_blk ?_
          refine WK_region ?_
          refine WO_pure tbok 2 [(2, .pointer (some ⟨b3, 0, none⟩)), (3, .pointer (some ⟨b4, 0, none⟩)), (4, .slice none 0 0), (5, .int .i64 0), (7, .slice (some ⟨b8, 0, none⟩) ((List.replicate (p0_1 : Int).toNat ([] : List Int)).length) c9), (21, .int .i64 ((List.replicate (p0_1 : Int).toNat ([] : List Int)).length : Int)), (22, .int .i64 (w64 (s_3 + 1)))] rfl ⟨rfl, rfl, rfl, rfl, rfl, rfl, rfl, trivial⟩ ?_
          refine WO_end ?_
          cases hm21
          refine WK.sub ?_ (WK.cls (fun _ h => h) (hn24 _ (vs36, L35) rfl hL35))
          exact ⟨rfl, rfl, rfl, rfl, rfl, rfl, rfl, trivial⟩
        · refine WK_block ?_
          refine WK_loop (S := List (List Int) × Int) (G := List Value × List Ent) (fun s => seam_Costs_s2 p0_0 p0_3 p1_3 s_3 s.1 s.2) (fun s g => [(2, .pointer (some ⟨b3, 0, none⟩)), (3, .pointer (some ⟨b4, 0, none⟩)), (4, .slice none 0 0), (5, .int .i64 0), (7, .slice (some ⟨b8, 0, none⟩) ((List.replicate (p0_1 : Int).toNat ([] : List Int)).length) c9), (8, .int .i64 s_3), (21, .int .i64 ((List.replicate (p0_1 : Int).toNat ([] : List Int)).length : Int)), (22, .int .i64 s_3), (26, .int .i64 p0_0), (27, .int .i64 s.2)]) (fun s g => St w0 m m [[⟨b3, 24, [.int .i64 p0_0, .int .i64 p0_1, .int .i64 p0_2, .slice a_p0_3 p0_3.length c_p0_3]⟩], [⟨b4, 24, [.int .i64 p1_0, .int .i64 p1_1, .int .i64 p1_2, .slice a_p1_3 p1_3.length c_p1_3]⟩], g.2]) (fun s g => OwnT 22 3 1 (I1 .i64) (.slice (some ⟨b8, 0, none⟩) ((List.replicate (p0_1 : Int).toNat ([] : List Int)).length) c9) g.1 s.1 g.2) FUEL (l_2, 0) (vs14, L13) x37 hx38 hL13 ⟨rfl, rfl, rfl, rfl, rfl, rfl, rfl, rfl, rfl, rfl, trivial⟩ (fun _ h => h) ?_
          rintro ⟨l_5, s_6⟩ ⟨vs33, L32⟩ o41 fl42 hm40 hL32 hn43 hd44
          have hm40 : seam_Costs_s2 p0_0 p0_3 p1_3 s_3 l_5 s_6 = some o41 := hm40
          unfold seam_Costs_s2 at hm40
          refine WK.sub (e' := [(2, .pointer (some ⟨b3, 0, none⟩)), (3, .pointer (some ⟨b4, 0, none⟩)), (4, .slice none 0 0), (5, .int .i64 0), (7, .slice (some ⟨b8, 0, none⟩) ((List.replicate (p0_1 : Int).toNat ([] : List Int)).length) c9), (8, .int .i64 s_3), (21, .int .i64 ((List.replicate (p0_1 : Int).toNat ([] : List Int)).length : Int)), (22, .int .i64 s_3), (26, .int .i64 p0_0), (27, .int .i64 s_6)]) ⟨rfl, rfl, rfl, rfl, rfl, rfl, rfl, rfl, rfl, rfl, trivial⟩ (WK.cls (C' := St w0 m m [[⟨b3, 24, [.int .i64 p0_0, .int .i64 p0_1, .int .i64 p0_2, .slice a_p0_3 p0_3.length c_p0_3]⟩], [⟨b4, 24, [.int .i64 p1_0, .int .i64 p1_1, .int .i64 p1_2, .slice a_p1_3 p1_3.length c_p1_3]⟩], L32]) (fun _ h => h) ?_)
          refine WK_seq ?_
          refine WK_region ?_
          refine WO_pure tbok 1 [(2, .pointer (some ⟨b3, 0, none⟩)), (3, .pointer (some ⟨b4, 0, none⟩)), (4, .slice none 0 0), (5, .int .i64 0), (7, .slice (some ⟨b8, 0, none⟩) ((List.replicate (p0_1 : Int).toNat ([] : List Int)).length) c9), (8, .int .i64 s_3), (21, .int .i64 ((List.replicate (p0_1 : Int).toNat ([] : List Int)).length : Int)), (22, .int .i64 s_3), (26, .int .i64 p0_0), (27, .int .i64 s_6), (28, .bool (decide (s_6 < p0_0)))] rfl ⟨rfl, rfl, rfl, rfl, rfl, rfl, rfl, rfl, rfl, rfl, rfl, trivial⟩ ?_
          refine WO_end ?_
          refine WK_seq ?_
          refine WK_cond (b := decide (s_6 < p0_0)) rfl (fun hb46 => ?_) (fun hb46 => ?_)
          · have hm40 := ifT hb46 hm40
            refine WK_skip ?_
            refine WK_seq ?_
            refine WK_block ?_
            refine WK_seq ?_
            refine WK_region ?_
            refine WO_pure tbok 2 [(2, .pointer (some ⟨b3, 0, none⟩)), (3, .pointer (some ⟨b4, 0, none⟩)), (4, .slice none 0 0), (5, .int .i64 0), (7, .slice (some ⟨b8, 0, none⟩) ((List.replicate (p0_1 : Int).toNat ([] : List Int)).length) c9), (8, .int .i64 s_3), (9, .int .i64 s_6), (21, .int .i64 ((List.replicate (p0_1 : Int).toNat ([] : List Int)).length : Int)), (22, .int .i64 s_3), (26, .int .i64 p0_0), (27, .int .i64 s_6)] rfl ⟨rfl, rfl, rfl, rfl, rfl, rfl, rfl, rfl, rfl, rfl, rfl, trivial⟩ ?_
            refine WO_end ?_
            refine WK_seq ?_
            refine WK_draw 22 [0, 1, 2, 3, 4, 5, 6, 7, 8, 9, 10, 11, 12, 13, 14, 15, 16, 17, 18, 19, 20, 21] follows_ok (by kernel_rfl) St_closed ?_
            refine WO_pure tbok 1 [(2, .pointer (some ⟨b3, 0, none⟩)), (3, .pointer (some ⟨b4, 0, none⟩)), (4, .slice none 0 0), (5, .int .i64 0), (7, .slice (some ⟨b8, 0, none⟩) ((List.replicate (p0_1 : Int).toNat ([] : List Int)).length) c9), (8, .int .i64 s_3), (9, .int .i64 s_6), (21, .int .i64 ((List.replicate (p0_1 : Int).toNat ([] : List Int)).length : Int)), (22, .int .i64 s_3), (26, .int .i64 p0_0), (27, .int .i64 s_6), (30, .pointer (some ⟨b3, 3, none⟩))] rfl ⟨rfl, rfl, rfl, rfl, rfl, rfl, rfl, rfl, rfl, rfl, rfl, rfl, trivial⟩ ?_
            refine WO_loadB tbok 0 rfl rfl rfl rfl (fun _ h => h) rfl rfl ?_
            refine WO_pure tbok 2 [(2, .pointer (some ⟨b3, 0, none⟩)), (3, .pointer (some ⟨b4, 0, none⟩)), (4, .slice none 0 0), (5, .int .i64 0), (7, .slice (some ⟨b8, 0, none⟩) ((List.replicate (p0_1 : Int).toNat ([] : List Int)).length) c9), (8, .int .i64 s_3), (9, .int .i64 s_6), (21, .int .i64 ((List.replicate (p0_1 : Int).toNat ([] : List Int)).length : Int)), (22, .int .i64 s_3), (26, .int .i64 p0_0), (27, .int .i64 s_6), (31, .slice a_p0_3 p0_3.length c_p0_3), (32, .int .i64 s_3), (33, .pointer (some ⟨b3, 0, none⟩))] rfl ⟨rfl, rfl, rfl, rfl, rfl, rfl, rfl, rfl, rfl, rfl, rfl, rfl, rfl, rfl, trivial⟩ ?_
            refine WO_loadB tbok 0 rfl rfl rfl rfl (fun _ h => h) rfl rfl ?_
            refine WO_pure tbok 3 [(2, .pointer (some ⟨b3, 0, none⟩)), (3, .pointer (some ⟨b4, 0, none⟩)), (4, .slice none 0 0), (5, .int .i64 0), (7, .slice (some ⟨b8, 0, none⟩) ((List.replicate (p0_1 : Int).toNat ([] : List Int)).length) c9), (8, .int .i64 s_3), (9, .int .i64 s_6), (21, .int .i64 ((List.replicate (p0_1 : Int).toNat ([] : List Int)).length : Int)), (22, .int .i64 s_3), (26, .int .i64 p0_0), (27, .int .i64 s_6), (31, .slice a_p0_3 p0_3.length c_p0_3), (37, .int .i64 (w64 ((w64 (s_3 * p0_0)) + s_6)))] rfl ⟨rfl, rfl, rfl, rfl, rfl, rfl, rfl, rfl, rfl, rfl, rfl, rfl, rfl, trivial⟩ ?_
            obtain ⟨v_8, hy47, hm40⟩ := bind_some hm40
            obtain ⟨hc48, hy47⟩ := ix_some hy47
            refine WO_index tbok rfl rfl rfl rfl rfl rfl rfl rfl (SlR.addr h_p0_3) hc48 ?_
            refine WO_loadE tbok rfl rfl rfl rfl (fun _ h => St.sat h) h_p0_3 hy47 rfl ?_
            refine WO_pure tbok 1 [(2, .pointer (some ⟨b3, 0, none⟩)), (3, .pointer (some ⟨b4, 0, none⟩)), (4, .slice none 0 0), (5, .int .i64 0), (7, .slice (some ⟨b8, 0, none⟩) ((List.replicate (p0_1 : Int).toNat ([] : List Int)).length) c9), (8, .int .i64 s_3), (9, .int .i64 s_6), (21, .int .i64 ((List.replicate (p0_1 : Int).toNat ([] : List Int)).length : Int)), (22, .int .i64 s_3), (26, .int .i64 p0_0), (27, .int .i64 s_6), (39, .int .i64 v_8), (40, .pointer (some ⟨b4, 3, none⟩))] rfl ⟨rfl, rfl, rfl, rfl, rfl, rfl, rfl, rfl, rfl, rfl, rfl, rfl, rfl, trivial⟩ ?_
            refine WO_loadB tbok 1 rfl rfl rfl rfl (fun _ h => h) rfl rfl ?_
            refine WO_pure tbok 2 [(2, .pointer (some ⟨b3, 0, none⟩)), (3, .pointer (some ⟨b4, 0, none⟩)), (4, .slice none 0 0), (5, .int .i64 0), (7, .slice (some ⟨b8, 0, none⟩) ((List.replicate (p0_1 : Int).toNat ([] : List Int)).length) c9), (8, .int .i64 s_3), (9, .int .i64 s_6), (21, .int .i64 ((List.replicate (p0_1 : Int).toNat ([] : List Int)).length : Int)), (22, .int .i64 s_3), (26, .int .i64 p0_0), (27, .int .i64 s_6), (39, .int .i64 v_8), (41, .slice a_p1_3 p1_3.length c_p1_3), (42, .int .i64 s_3), (43, .pointer (some ⟨b3, 0, none⟩))] rfl ⟨rfl, rfl, rfl, rfl, rfl, rfl, rfl, rfl, rfl, rfl, rfl, rfl, rfl, rfl, rfl, trivial⟩ ?_
            refine WO_loadB tbok 0 rfl rfl rfl rfl (fun _ h => h) rfl rfl ?_
            refine WO_pure tbok 3 [(2, .pointer (some ⟨b3, 0, none⟩)), (3, .pointer (some ⟨b4, 0, none⟩)), (4, .slice none 0 0), (5, .int .i64 0), (7, .slice (some ⟨b8, 0, none⟩) ((List.replicate (p0_1 : Int).toNat ([] : List Int)).length) c9), (8, .int .i64 s_3), (21, .int .i64 ((List.replicate (p0_1 : Int).toNat ([] : List Int)).length : Int)), (22, .int .i64 s_3), (26, .int .i64 p0_0), (27, .int .i64 s_6), (39, .int .i64 v_8), (41, .slice a_p1_3 p1_3.length c_p1_3), (47, .int .i64 (w64 ((w64 (s_3 * p0_0)) + s_6)))] rfl ⟨rfl, rfl, rfl, rfl, rfl, rfl, rfl, rfl, rfl, rfl, rfl, rfl, rfl, trivial⟩ ?_
            obtain ⟨v_9, hy49, hm40⟩ := bind_some hm40
            obtain ⟨hc50, hy49⟩ := ix_some hy49
            refine WO_index tbok rfl rfl rfl rfl rfl rfl rfl rfl (SlR.addr h_p1_3) hc50 ?_
            refine WO_loadE tbok rfl rfl rfl rfl (fun _ h => St.sat h) h_p1_3 hy49 rfl ?_
            refine WO_pure tbok 2 [(2, .pointer (some ⟨b3, 0, none⟩)), (3, .pointer (some ⟨b4, 0, none⟩)), (4, .slice none 0 0), (5, .int .i64 0), (7, .slice (some ⟨b8, 0, none⟩) ((List.replicate (p0_1 : Int).toNat ([] : List Int)).length) c9), (8, .int .i64 s_3), (10, .int .i64 (w64 (v_8 - v_9))), (21, .int .i64 ((List.replicate (p0_1 : Int).toNat ([] : List Int)).length : Int)), (22, .int .i64 s_3), (26, .int .i64 p0_0), (27, .int .i64 s_6)] rfl ⟨rfl, rfl, rfl, rfl, rfl, rfl, rfl, rfl, rfl, rfl, rfl, trivial⟩ ?_
            refine WO_tail ?_
            refine WO_end ?_
            refine WK_region ?_
            refine WO_pure tbok 4 [(2, .pointer (some ⟨b3, 0, none⟩)), (3, .pointer (some ⟨b4, 0, none⟩)), (4, .slice none 0 0), (5, .int .i64 0), (7, .slice (some ⟨b8, 0, none⟩) ((List.replicate (p0_1 : Int).toNat ([] : List Int)).length) c9), (8, .int .i64 s_3), (10, .int .i64 (w64 (v_8 - v_9))), (21, .int .i64 ((List.replicate (p0_1 : Int).toNat ([] : List Int)).length : Int)), (22, .int .i64 s_3), (26, .int .i64 p0_0), (27, .int .i64 s_6), (51, .slice (some ⟨b8, 0, none⟩) ((List.replicate (p0_1 : Int).toNat ([] : List Int)).length) c9), (52, .int .i64 s_3), (53, .slice (some ⟨b8, 0, none⟩) ((List.replicate (p0_1 : Int).toNat ([] : List Int)).length) c9), (54, .int .i64 s_3)] rfl ⟨rfl, rfl, rfl, rfl, rfl, rfl, rfl, rfl, rfl, rfl, rfl, rfl, rfl, rfl, rfl, trivial⟩ ?_
            obtain ⟨v_10, hy51, hm40⟩ := bind_some hm40
            obtain ⟨hc52, hy51⟩ := ix_some hy51
            refine WO_index tbok rfl rfl rfl rfl rfl rfl rfl rfl (OwnT.addr hL32) (by simpa using hc52) ?_
            refine WO_loadT tbok 2 rfl rfl rfl rfl (fun _ h => h) hL32 rfl hy51 rfl rfl (fun a53 c54 L55 hv56 hr57 => ?_)
            refine WO_pure tbok 4 [(2, .pointer (some ⟨b3, 0, none⟩)), (3, .pointer (some ⟨b4, 0, none⟩)), (4, .slice none 0 0), (5, .int .i64 0), (7, .slice (some ⟨b8, 0, none⟩) ((List.replicate (p0_1 : Int).toNat ([] : List Int)).length) c9), (8, .int .i64 s_3), (21, .int .i64 ((List.replicate (p0_1 : Int).toNat ([] : List Int)).length : Int)), (22, .int .i64 s_3), (26, .int .i64 p0_0), (27, .int .i64 s_6), (51, .slice (some ⟨b8, 0, none⟩) ((List.replicate (p0_1 : Int).toNat ([] : List Int)).length) c9), (52, .int .i64 s_3), (56, .slice a53 v_10.length c54), (60, .int .i64 (if (w64 (v_8 - v_9)) < (w64 (0 - (w64 (v_8 - v_9)))) then (w64 (0 - (w64 (v_8 - v_9)))) else (w64 (v_8 - v_9))))] rfl ⟨rfl, rfl, rfl, rfl, rfl, rfl, rfl, rfl, rfl, rfl, rfl, rfl, rfl, rfl, trivial⟩ ?_
            refine WO_bslice (E := (I1 .i64)) tbok (fun _ => rfl) (by decide) [.int .i64 (if (w64 (v_8 - v_9)) < (w64 (0 - (w64 (v_8 - v_9)))) then (w64 (0 - (w64 (v_8 - v_9)))) else (w64 (v_8 - v_9)))] ([(if (w64 (v_8 - v_9)) < (w64 (0 - (w64 (v_8 - v_9)))) then (w64 (0 - (w64 (v_8 - v_9)))) else (w64 (v_8 - v_9)))] : List Int) rfl rfl trivial rfl rfl rfl rfl rfl rfl rfl rfl rfl rfl rfl rfl (fun b59 hb59 => ?_)
            refine WO.cls (C' := St w0 m m [[⟨b3, 24, [.int .i64 p0_0, .int .i64 p0_1, .int .i64 p0_2, .slice a_p0_3 p0_3.length c_p0_3]⟩], [⟨b4, 24, [.int .i64 p1_0, .int .i64 p1_1, .int .i64 p1_2, .slice a_p1_3 p1_3.length c_p1_3]⟩], L32, [⟨b59, 3, ([(if (w64 (v_8 - v_9)) < (w64 (0 - (w64 (v_8 - v_9)))) then (w64 (0 - (w64 (v_8 - v_9)))) else (w64 (v_8 - v_9)))] : List Int).flatMap (I1 .i64)⟩]]) (fun _ h => h) ?_
            refine WO_takeT (E := (I1 .i64)) (k := 1) 2 hL32 rfl hv56 hy51 (fun L61 L62 hL61 hL62 => ?_)
            refine WO.cls (C' := St w0 m m [[⟨b3, 24, [.int .i64 p0_0, .int .i64 p0_1, .int .i64 p0_2, .slice a_p0_3 p0_3.length c_p0_3]⟩], [⟨b4, 24, [.int .i64 p1_0, .int .i64 p1_1, .int .i64 p1_2, .slice a_p1_3 p1_3.length c_p1_3]⟩], L61, [⟨b59, 3, ([(if (w64 (v_8 - v_9)) < (w64 (0 - (w64 (v_8 - v_9)))) then (w64 (0 - (w64 (v_8 - v_9)))) else (w64 (v_8 - v_9)))] : List Int).flatMap (I1 .i64)⟩], L62]) (fun _ h => h) ?_
            obtain ⟨hc65, hm40⟩ := chk_some hm40
            refine WO_append (E := (I1 .i64)) tbok (fun _ => rfl) 4 ([(if (w64 (v_8 - v_9)) < (w64 (0 - (w64 (v_8 - v_9)))) then (w64 (0 - (w64 (v_8 - v_9)))) else (w64 (v_8 - v_9)))] : List Int) (fun _ _ => rfl) rfl rfl rfl rfl rfl rfl rfl rfl rfl rfl rfl rfl hL62 rfl (src_seg (j := 3) rfl) (ap_ok (by decide) hc65) (ap_max hc65) (fun a66 c67 L68 hL68 => ?_)
            refine WO.cls (C' := St w0 m m [[⟨b3, 24, [.int .i64 p0_0, .int .i64 p0_1, .int .i64 p0_2, .slice a_p0_3 p0_3.length c_p0_3]⟩], [⟨b4, 24, [.int .i64 p1_0, .int .i64 p1_1, .int .i64 p1_2, .slice a_p1_3 p1_3.length c_p1_3]⟩], L61, [⟨b59, 3, ([(if (w64 (v_8 - v_9)) < (w64 (0 - (w64 (v_8 - v_9)))) then (w64 (0 - (w64 (v_8 - v_9)))) else (w64 (v_8 - v_9)))] : List Int).flatMap (I1 .i64)⟩], L68]) (fun _ h => h) ?_
            obtain ⟨hc70, hm40⟩ := chk_some hm40
            refine WO_index tbok rfl rfl rfl rfl rfl rfl rfl rfl (OwnH.addr hL61) (by simpa using hc70) ?_
            refine WO_storeTH tbok 2 4 rfl rfl rfl rfl rfl hL61 rfl hL68 rfl rfl (by simpa using idx_lt hc70) rfl rfl rfl rfl (fun L71 hL71 => ?_)
            refine WO.cls (C' := St w0 m m [[⟨b3, 24, [.int .i64 p0_0, .int .i64 p0_1, .int .i64 p0_2, .slice a_p0_3 p0_3.length c_p0_3]⟩], [⟨b4, 24, [.int .i64 p1_0, .int .i64 p1_1, .int .i64 p1_2, .slice a_p1_3 p1_3.length c_p1_3]⟩], L71, [⟨b59, 3, ([(if (w64 (v_8 - v_9)) < (w64 (0 - (w64 (v_8 - v_9)))) then (w64 (0 - (w64 (v_8 - v_9)))) else (w64 (v_8 - v_9)))] : List Int).flatMap (I1 .i64)⟩], []]) (fun _ h => h) ?_
            refine WO_end ?_
            refine WK_blk ?_
            refine WK_region ?_
            refine WO_pure tbok 2 [(2, .pointer (some ⟨b3, 0, none⟩)), (3, .pointer (some ⟨b4, 0, none⟩)), (4, .slice none 0 0), (5, .int .i64 0), (7, .slice (some ⟨b8, 0, none⟩) ((List.replicate (p0_1 : Int).toNat ([] : List Int)).length) c9), (8, .int .i64 s_3), (21, .int .i64 ((List.replicate (p0_1 : Int).toNat ([] : List Int)).length : Int)), (22, .int .i64 s_3), (26, .int .i64 p0_0), (27, .int .i64 (w64 (s_6 + 1)))] rfl ⟨rfl, rfl, rfl, rfl, rfl, rfl, rfl, rfl, rfl, rfl, trivial⟩ ?_
            refine WO_end ?_
            cases hm40
            refine WK.sub ?_ (WK.cls (fun _ h => St.take 3 h) (hn43 _ ((vs33.set s_3.toNat (.slice a66 ((v_10 ++ ([(if (w64 (v_8 - v_9)) < (w64 (0 - (w64 (v_8 - v_9)))) then (w64 (0 - (w64 (v_8 - v_9)))) else (w64 (v_8 - v_9)))] : List Int)).length) c67)), L71) rfl hL71))
            exact ⟨rfl, rfl, rfl, rfl, rfl, rfl, rfl, rfl, rfl, rfl, trivial⟩
          · have hm40 := ifF hb46 hm40
            refine WK_exit rfl ?_
            cases hm40
            refine WK.sub ?_ (WK.cls (fun _ h => h) (hk39 (l_5, (vs33, L32)) ⟨(hd44 _ rfl), hL32⟩))
            exact ⟨rfl, rfl, rfl, rfl, rfl, rfl, rfl, trivial⟩
      · have hm21 := ifF hb30 hm21
        refine WK_exit rfl ?_
        cases hm21
        refine WK.sub ?_ (WK.cls (fun _ h => h) (hk20 (l_2, (vs14, L13)) ⟨(hd25 _ rfl), hL13⟩))
        exact ⟨rfl, rfl, rfl, trivial⟩
theorem seam_Check_c1_walk {m : Mu} {p0 : Int}   {r : Bool} (hm : seam_Check_c1 p0 = some r) :
    Go.E.Spec Try.prog 66 [.int .i64 p0] m (fun v _ _ => v = .bool r) := by
  refine Spec_enter Try.func66 rfl rfl rfl (fun w0 => ?_)
  refine WK.sub (e' := [(0, .int .i64 p0)]) ⟨rfl, trivial⟩ ?_
  refine WK.sub (e' := [(0, .int .i64 p0)]) ⟨rfl, trivial⟩ ?_
  unfold seam_Check_c1 at hm
  refine WK_seq ?_
  refine WK_region ?_
  refine WO_pure tbok 1 [(0, .int .i64 p0), (2, .bool false)] rfl ⟨rfl, rfl, trivial⟩ ?_
  refine WO_end ?_
  refine WK_seq ?_
  refine WK_region ?_
  refine WO_pure tbok 3 [(0, .int .i64 p0), (2, .bool false), (5, .bool (decide (p0 < 0)))] rfl ⟨rfl, rfl, rfl, trivial⟩ ?_
  refine WO_split (d := 5) (b := decide (p0 < 0)) rfl (fun hb1 => ?_) (fun hb1 => ?_)
  · have hm := ifT hb1 hm
    refine WO_pure tbok 4 [(2, .bool true)] rfl ⟨rfl, trivial⟩ ?_
    refine WO_end ?_
    cases hm
    exact WK_ret (ret_out (L := []) (RLc_tmp rfl RLc_nil) (List.nil_sublist _) rfl)
  · have hm := ifF hb1 hm
    refine WO_pure tbok 4 [(2, .bool (decide (1048576 < p0)))] rfl ⟨rfl, trivial⟩ ?_
    refine WO_end ?_
    cases hm
    exact WK_ret (ret_out (L := []) (RLc_tmp rfl RLc_nil) (List.nil_sublist _) rfl)
theorem seam_Check_walk {m : Mu} {p0 : List (List Int)} {a_p0 : Option Addr} {q_p0 c_p0 : Nat} (h_p0 : SlR (RowE (FE (I1 .i64)) 1) 1 m (.slice a_p0 q_p0 c_p0) p0) {r : Int} (hm : seam_Check p0 = some r) :
    Go.E.Spec Try.prog 36 [.slice a_p0 q_p0 c_p0] m (fun v _ _ => v = .int .i64 r) := by
  refine Spec_enter Try.func36 rfl rfl rfl (fun w0 => ?_)
  refine WK.sub (e' := [(0, .slice a_p0 q_p0 c_p0)]) ⟨rfl, trivial⟩ ?_
  obtain rfl := SlR.qlen h_p0
  refine WK.sub (e' := [(0, .slice a_p0 p0.length c_p0)]) ⟨rfl, trivial⟩ ?_
  unfold seam_Check at hm
  refine WK_seq ?_
  refine WK_region ?_
  refine WO_pure tbok 1 [(0, .slice a_p0 p0.length c_p0), (2, .int .i64 0)] rfl ⟨rfl, rfl, trivial⟩ ?_
  refine WO_end ?_
  refine WK_seq ?_
  refine WK_seq ?_
  obtain ⟨s_1, hx2, hm⟩ := bind_some hm
  refine WK_meet [(0, .slice a_p0 p0.length c_p0), (2, .int .i64 0), (26, .bool s_1)] (St w0 m m []) ?_ (fun hk3 => ?_)
  · refine WK_cond (b := s_1) rfl (fun hb4 => ?_) (fun hb4 => ?_)
    · have hm := ifT hb4 hm
      refine WK_seq ?_
      refine WK_region ?_
      refine WO_pure tbok 1 [(0, .slice a_p0 p0.length c_p0), (2, .int .i64 3)] rfl ⟨rfl, rfl, trivial⟩ ?_
      refine WO_end ?_
      cases hm
      exact WK_ret (ret_out (L := []) (RLc_tmp rfl RLc_nil) (List.nil_sublist _) rfl)
    · have hm := ifF hb4 hm
      refine WK_skip ?_
      refine WK_seq ?_
      refine WK_seq ?_
      refine WK_region ?_
      refine WO_pure tbok 3 [(0, .slice a_p0 p0.length c_p0), (2, .int .i64 0), (27, .slice a_p0 p0.length c_p0), (28, .int .i64 (p0.length : Int)), (29, .int .i64 0)] rfl ⟨rfl, rfl, rfl, rfl, rfl, trivial⟩ ?_
      refine WO_end ?_
      obtain ⟨x5, hx6, hm⟩ := bind_some hm
      refine WK_join (β := Unit × Unit) (fun p => Sum.inr p.1 = x5) (fun p => [(2, .int .i64 0)]) (fun p => St w0 m m []) ?_ (fun hk7 => ?_)
      · rintro ⟨⟨⟩, ⟨⟩⟩ hq13
        subst hq13
        refine WK.sub (e' := [(2, .int .i64 0)]) ⟨rfl, trivial⟩ (WK.cls (C' := St w0 m m []) (fun _ h => h) ?_)
        refine WK_seq ?_
        refine WK_region ?_
        refine WO_pure tbok 1 [(2, .int .i64 0)] rfl ⟨rfl, trivial⟩ ?_
        refine WO_end ?_
        cases hm
        exact WK_ret (ret_out (L := []) (RLc_tmp rfl RLc_nil) (List.nil_sublist _) rfl)
      · refine WK_block ?_
        refine WK_loop (S := Int) (G := Unit) (fun s => seam_Check_s1 p0 s) (fun s g => [(0, .slice a_p0 p0.length c_p0), (2, .int .i64 0), (27, .slice a_p0 p0.length c_p0), (28, .int .i64 (p0.length : Int)), (29, .int .i64 s)]) (fun s g => St w0 m m []) (fun s g => True) FUEL 0 () x5 hx6 trivial ⟨rfl, rfl, rfl, rfl, rfl, trivial⟩ (fun _ h => h) ?_
        rintro s_2 ⟨⟩ o9 fl10 hm8 - hn11 hd12
        have hm8 : seam_Check_s1 p0 s_2 = some o9 := hm8
        unfold seam_Check_s1 at hm8
        refine WK.sub (e' := [(0, .slice a_p0 p0.length c_p0), (2, .int .i64 0), (27, .slice a_p0 p0.length c_p0), (28, .int .i64 (p0.length : Int)), (29, .int .i64 s_2)]) ⟨rfl, rfl, rfl, rfl, rfl, trivial⟩ (WK.cls (C' := St w0 m m []) (fun _ h => h) ?_)
        refine WK_seq ?_
        refine WK_region ?_
        refine WO_pure tbok 1 [(0, .slice a_p0 p0.length c_p0), (2, .int .i64 0), (27, .slice a_p0 p0.length c_p0), (28, .int .i64 (p0.length : Int)), (29, .int .i64 s_2), (30, .bool (decide (s_2 < (p0.length : Int))))] rfl ⟨rfl, rfl, rfl, rfl, rfl, rfl, trivial⟩ ?_
        refine WO_end ?_
        refine WK_seq ?_
        refine WK_cond (b := decide (s_2 < (p0.length : Int))) rfl (fun hb14 => ?_) (fun hb14 => ?_)
        · have hm8 := ifT hb14 hm8
          refine WK_skip ?_
          refine WK_seq ?_
          refine WK_block ?_
          refine WK_seq ?_
          refine WK_region ?_
          obtain ⟨v_3, hy15, hm8⟩ := bind_some hm8
          obtain ⟨hc16, hy15⟩ := ix_some hy15
          refine WO_index tbok rfl rfl rfl rfl rfl rfl rfl rfl (SlR.addr h_p0) hc16 ?_
          refine WO_loadR tbok rfl rfl rfl rfl (fun _ h => St.sat h) h_p0 hy15 rfl rfl (fun a17 c18 h19 => ?_)
          refine WO_pure tbok 1 [(0, .slice a_p0 p0.length c_p0), (2, .int .i64 0), (4, .slice a17 ((v_3).length) c18), (27, .slice a_p0 p0.length c_p0), (28, .int .i64 (p0.length : Int)), (29, .int .i64 s_2)] rfl ⟨rfl, rfl, rfl, rfl, rfl, rfl, trivial⟩ ?_
          refine WO_end ?_
          refine WK_seq ?_
          refine WK_seq ?_
          refine WK_region ?_
          refine WO_pure tbok 3 [(0, .slice a_p0 p0.length c_p0), (2, .int .i64 0), (4, .slice a17 ((v_3).length) c18), (27, .slice a_p0 p0.length c_p0), (28, .int .i64 (p0.length : Int)), (29, .int .i64 s_2), (34, .int .i64 ((v_3).length : Int)), (35, .slice a_p0 p0.length c_p0)] rfl ⟨rfl, rfl, rfl, rfl, rfl, rfl, rfl, rfl, trivial⟩ ?_
          obtain ⟨v_4, hy21, hm8⟩ := bind_some hm8
          obtain ⟨hc22, hy21⟩ := ix_some hy21
          refine WO_index tbok rfl rfl rfl rfl rfl rfl rfl rfl (SlR.addr h_p0) hc22 ?_
          refine WO_loadR tbok rfl rfl rfl rfl (fun _ h => St.sat h) h_p0 hy21 rfl rfl (fun a23 c24 h25 => ?_)
          refine WO_pure tbok 2 [(0, .slice a_p0 p0.length c_p0), (2, .int .i64 0), (4, .slice a17 ((v_3).length) c18), (27, .slice a_p0 p0.length c_p0), (28, .int .i64 (p0.length : Int)), (29, .int .i64 s_2), (39, .bool (((v_3).length : Int) != ((v_4).length : Int)))] rfl ⟨rfl, rfl, rfl, rfl, rfl, rfl, rfl, trivial⟩ ?_
          refine WO_end ?_
          refine WK_cond (b := ((v_3).length : Int) != ((v_4).length : Int)) rfl (fun hb27 => ?_) (fun hb27 => ?_)
          · have hm8 := ifT hb27 hm8
            refine WK_seq ?_
            refine WK_region ?_
            refine WO_pure tbok 1 [(0, .slice a_p0 p0.length c_p0), (2, .int .i64 4), (4, .slice a17 ((v_3).length) c18), (27, .slice a_p0 p0.length c_p0), (28, .int .i64 (p0.length : Int)), (29, .int .i64 s_2)] rfl ⟨rfl, rfl, rfl, rfl, rfl, rfl, trivial⟩ ?_
            refine WO_end ?_
            cases hm8
            have hq := hd12 _ rfl
            subst hq
            have hm : some _ = some _ := hm
            cases hm
            exact WK_ret (ret_out (L := []) (RLc_tmp rfl RLc_nil) (List.nil_sublist _) rfl)
          · have hm8 := ifF hb27 hm8
            refine WK_skip ?_
            refine WK_seq ?_
            refine WK_region ?_
            refine WO_pure tbok 1 [(0, .slice a_p0 p0.length c_p0), (2, .int .i64 0), (27, .slice a_p0 p0.length c_p0), (28, .int .i64 (p0.length : Int)), (29, .int .i64 s_2), (40, .slice a17 ((v_3).length) c18)] rfl ⟨rfl, rfl, rfl, rfl, rfl, rfl, trivial⟩ ?_
            obtain ⟨y_6, hc28, hm8⟩ := bind_some hm8
            refine WO_call0 (.bool y_6) rfl rfl trivial rfl rfl rfl rfl St_closed ⟨40, #[], #[], rfl, callable_40, fun w hw => ⟨_, hw.sat, slices_ContainsFunc_sint_walk h19 (fun m1 hm1 z_5 _ h => specV_cap callable_66 (seam_Check_c1_walk h)) hc28⟩⟩ ?_
            refine WO_end ?_
            refine WK_cond (b := y_6) rfl (fun hb29 => ?_) (fun hb29 => ?_)
            · have hm8 := ifT hb29 hm8
              refine WK_seq ?_
              refine WK_region ?_
              refine WO_pure tbok 1 [(0, .slice a_p0 p0.length c_p0), (2, .int .i64 2), (27, .slice a_p0 p0.length c_p0), (28, .int .i64 (p0.length : Int)), (29, .int .i64 s_2)] rfl ⟨rfl, rfl, rfl, rfl, rfl, trivial⟩ ?_
              refine WO_end ?_
              cases hm8
              have hq := hd12 _ rfl
              subst hq
              have hm : some _ = some _ := hm
              cases hm
              exact WK_ret (ret_out (L := []) (RLc_tmp rfl RLc_nil) (List.nil_sublist _) rfl)
            · have hm8 := ifF hb29 hm8
              refine WK_skip ?_
              refine WK_blk ?_
              refine WK_region ?_
              refine WO_pure tbok 2 [(0, .slice a_p0 p0.length c_p0), (2, .int .i64 0), (27, .slice a_p0 p0.length c_p0), (28, .int .i64 (p0.length : Int)), (29, .int .i64 (w64 (s_2 + 1)))] rfl ⟨rfl, rfl, rfl, rfl, rfl, trivial⟩ ?_
              refine WO_end ?_
              cases hm8
              refine WK.sub ?_ (WK.cls (fun _ h => h) (hn11 _ () rfl trivial))
              exact ⟨rfl, rfl, rfl, rfl, rfl, trivial⟩
        · have hm8 := ifF hb14 hm8
          refine WK_exit rfl ?_
          cases hm8
          refine WK.sub ?_ (WK.cls (fun _ h => h) (hk7 ((), ()) (hd12 _ rfl)))
          exact ⟨rfl, trivial⟩
  · refine WK_region ?_
    refine WO_pure tbok 4 [(0, .slice a_p0 p0.length c_p0), (2, .int .i64 0), (8, .bool (decide ((p0.length : Int) < 1)))] rfl ⟨rfl, rfl, rfl, trivial⟩ ?_
    refine WO_split (d := 8) (b := decide ((p0.length : Int) < 1)) rfl (fun hb30 => ?_) (fun hb30 => ?_)
    · have hx2 := ifT hb30 hx2
      refine WO_pure tbok 18 [(0, .slice a_p0 p0.length c_p0), (2, .int .i64 0), (26, .bool true)] rfl ⟨rfl, rfl, rfl, trivial⟩ ?_
      refine WO_end ?_
      cases hx2
      refine WK.sub ?_ (WK.cls (fun _ h => h) hk3)
      exact ⟨rfl, rfl, rfl, trivial⟩
    · have hx2 := ifF hb30 hx2
      refine WO_pure tbok 5 [(0, .slice a_p0 p0.length c_p0), (2, .int .i64 0), (13, .bool (decide (64 < (p0.length : Int))))] rfl ⟨rfl, rfl, rfl, trivial⟩ ?_
      refine WO_split (d := 13) (b := decide (64 < (p0.length : Int))) rfl (fun hb31 => ?_) (fun hb31 => ?_)
      · have hx2 := ifT hb31 hx2
        refine WO_pure tbok 13 [(0, .slice a_p0 p0.length c_p0), (2, .int .i64 0), (26, .bool true)] rfl ⟨rfl, rfl, rfl, trivial⟩ ?_
        refine WO_end ?_
        cases hx2
        refine WK.sub ?_ (WK.cls (fun _ h => h) hk3)
        exact ⟨rfl, rfl, rfl, trivial⟩
      · have hx2 := ifF hb31 hx2
        refine WO_pure tbok 1 [(0, .slice a_p0 p0.length c_p0), (2, .int .i64 0), (13, .bool false), (14, .slice a_p0 p0.length c_p0)] rfl ⟨rfl, rfl, rfl, rfl, trivial⟩ ?_
        obtain ⟨v_7, hy32, hx2⟩ := bind_some hx2
        obtain ⟨hc33, hy32⟩ := ix_some hy32
        refine WO_index tbok rfl rfl rfl rfl rfl rfl rfl rfl (SlR.addr h_p0) hc33 ?_
        refine WO_loadR tbok rfl rfl rfl rfl (fun _ h => St.sat h) h_p0 hy32 rfl rfl (fun a34 c35 h36 => ?_)
        refine WO_pure tbok 4 [(0, .slice a_p0 p0.length c_p0), (2, .int .i64 0), (20, .bool (decide (((v_7).length : Int) < 1)))] rfl ⟨rfl, rfl, rfl, trivial⟩ ?_
        refine WO_split (d := 20) (b := decide (((v_7).length : Int) < 1)) rfl (fun hb38 => ?_) (fun hb38 => ?_)
        · have hx2 := ifT hb38 hx2
          refine WO_pure tbok 6 [(0, .slice a_p0 p0.length c_p0), (2, .int .i64 0), (26, .bool true)] rfl ⟨rfl, rfl, rfl, trivial⟩ ?_
          refine WO_end ?_
          cases hx2
          refine WK.sub ?_ (WK.cls (fun _ h => h) hk3)
          exact ⟨rfl, rfl, rfl, trivial⟩
        · have hx2 := ifF hb38 hx2
          refine WO_pure tbok 1 [(0, .slice a_p0 p0.length c_p0), (2, .int .i64 0), (20, .bool false), (21, .slice a_p0 p0.length c_p0)] rfl ⟨rfl, rfl, rfl, rfl, trivial⟩ ?_
          obtain ⟨v_8, hy39, hx2⟩ := bind_some hx2
          obtain ⟨hc40, hy39⟩ := ix_some hy39
          refine WO_index tbok rfl rfl rfl rfl rfl rfl rfl rfl (SlR.addr h_p0) hc40 ?_
          refine WO_loadR tbok rfl rfl rfl rfl (fun _ h => St.sat h) h_p0 hy39 rfl rfl (fun a41 c42 h43 => ?_)
          refine WO_pure tbok 3 [(0, .slice a_p0 p0.length c_p0), (2, .int .i64 0), (26, .bool (decide (64 < ((v_8).length : Int))))] rfl ⟨rfl, rfl, rfl, trivial⟩ ?_
          refine WO_end ?_
          cases hx2
          refine WK.sub ?_ (WK.cls (fun _ h => h) hk3)
          exact ⟨rfl, rfl, rfl, trivial⟩
theorem seam_near_walk {m : Mu} {p0 : Int} {p1 : Int}   {r : Int × Int} (hm : seam_near p0 p1 = some r) :
    Go.E.Spec Try.prog 68 [.int .i64 p0, .int .i64 p1] m (fun v _ _ => v = .tuple #[.int .i64 r.1, .int .i64 r.2]) := by
  refine Spec_enter Try.func68 rfl rfl rfl (fun w0 => ?_)
  refine WK.sub (e' := [(0, .int .i64 p0), (1, .int .i64 p1)]) ⟨rfl, rfl, trivial⟩ ?_
  refine WK.sub (e' := [(0, .int .i64 p0), (1, .int .i64 p1)]) ⟨rfl, rfl, trivial⟩ ?_
  unfold seam_near at hm
  refine WK_seq ?_
  refine WK_region ?_
  refine WO_pure tbok 2 [(0, .int .i64 p0), (1, .int .i64 p1), (4, .int .i64 0), (5, .int .i64 0)] rfl ⟨rfl, rfl, rfl, rfl, trivial⟩ ?_
  refine WO_end ?_
  refine WK_seq ?_
  refine WK_region ?_
  refine WO_pure tbok 10 [(4, .int .i64 (if 0 < (w64 (p0 - 1)) then (w64 (p0 - 1)) else 0)), (5, .int .i64 (if (w64 (p0 + 1)) < (w64 (p1 - 1)) then (w64 (p0 + 1)) else (w64 (p1 - 1))))] rfl ⟨rfl, rfl, trivial⟩ ?_
  refine WO_end ?_
  cases hm
  exact WK_ret (ret_out (L := []) (RLc_tmp rfl (RLc_tmp rfl RLc_nil)) (List.nil_sublist _) rfl)
theorem slices_Min_sint_walk {m : Mu} {p0 : List Int} {a_p0 : Option Addr} {q_p0 c_p0 : Nat} (h_p0 : SlR (FE (I1 .i64)) 1 m (.slice a_p0 q_p0 c_p0) p0) {r : Int} (hm : slices_Min_sint p0 = some r) :
    Go.E.Spec Try.prog 33 [.slice a_p0 q_p0 c_p0] m (fun v _ _ => v = .int .i64 r) := by
  refine Spec_enter Try.func33 rfl rfl rfl (fun w0 => ?_)
  refine WK.sub (e' := [(0, .slice a_p0 q_p0 c_p0)]) ⟨rfl, trivial⟩ ?_
  obtain rfl := SlR.qlen h_p0
  refine WK.sub (e' := [(0, .slice a_p0 p0.length c_p0)]) ⟨rfl, trivial⟩ ?_
  unfold slices_Min_sint at hm
  refine WK_seq ?_
  refine WK_region ?_
  refine WO_pure tbok 1 [(0, .slice a_p0 p0.length c_p0), (2, .int .i64 0)] rfl ⟨rfl, rfl, trivial⟩ ?_
  refine WO_end ?_
  refine WK_seq ?_
  refine WK_seq ?_
  refine WK_region ?_
  refine WO_pure tbok 3 [(0, .slice a_p0 p0.length c_p0), (2, .int .i64 0), (7, .bool (decide ((p0.length : Int) < 1)))] rfl ⟨rfl, rfl, rfl, trivial⟩ ?_
  refine WO_end ?_
  refine WK_cond (b := decide ((p0.length : Int) < 1)) rfl (fun hb2 => ?_) (fun hb2 => ?_)
  · have hm := ifT hb2 hm
    refine WK_region ?_
    cases hm
  · have hm := ifF hb2 hm
    refine WK_skip ?_
    refine WK_seq ?_
    refine WK_region ?_
    refine WO_pure tbok 1 [(0, .slice a_p0 p0.length c_p0), (2, .int .i64 0), (9, .slice a_p0 p0.length c_p0)] rfl ⟨rfl, rfl, rfl, trivial⟩ ?_
    obtain ⟨v_1, hy3, hm⟩ := bind_some hm
    obtain ⟨hc4, hy3⟩ := ix_some hy3
    refine WO_index tbok rfl rfl rfl rfl rfl rfl rfl rfl (SlR.addr h_p0) hc4 ?_
    refine WO_loadE tbok rfl rfl rfl rfl (fun _ h => St.sat h) h_p0 hy3 rfl ?_
    refine WO_pure tbok 1 [(0, .slice a_p0 p0.length c_p0), (2, .int .i64 0), (3, .int .i64 v_1)] rfl ⟨rfl, rfl, rfl, trivial⟩ ?_
    refine WO_end ?_
    refine WK_seq ?_
    refine WK_seq ?_
    refine WK_region ?_
    refine WO_pure tbok 1 [(0, .slice a_p0 p0.length c_p0), (2, .int .i64 0), (3, .int .i64 v_1), (4, .int .i64 1)] rfl ⟨rfl, rfl, rfl, rfl, trivial⟩ ?_
    refine WO_end ?_
    obtain ⟨x5, hx6, hm⟩ := bind_some hm
    refine WK_join (β := Int × Unit) (fun p => p.1 = x5) (fun p => [(2, .int .i64 0), (3, .int .i64 p.1)]) (fun p => St w0 m m []) ?_ (fun hk7 => ?_)
    · rintro ⟨s_4, ⟨⟩⟩ hq13
      subst hq13
      refine WK.sub (e' := [(2, .int .i64 0), (3, .int .i64 s_4)]) ⟨rfl, rfl, trivial⟩ (WK.cls (C' := St w0 m m []) (fun _ h => h) ?_)
      refine WK_seq ?_
      refine WK_region ?_
      refine WO_pure tbok 2 [(2, .int .i64 s_4)] rfl ⟨rfl, trivial⟩ ?_
      refine WO_end ?_
      cases hm
      exact WK_ret (ret_out (L := []) (RLc_tmp rfl RLc_nil) (List.nil_sublist _) rfl)
    · refine WK_block ?_
      refine WK_loop (S := Int × Int) (G := Unit) (fun s => slices_Min_sint_s1 p0 s.1 s.2) (fun s g => [(0, .slice a_p0 p0.length c_p0), (2, .int .i64 0), (3, .int .i64 s.1), (4, .int .i64 s.2)]) (fun s g => St w0 m m []) (fun s g => True) FUEL (v_1, 1) () x5 hx6 trivial ⟨rfl, rfl, rfl, rfl, trivial⟩ (fun _ h => h) ?_
      rintro ⟨s_2, s_3⟩ ⟨⟩ o9 fl10 hm8 - hn11 hd12
      have hm8 : slices_Min_sint_s1 p0 s_2 s_3 = some o9 := hm8
      unfold slices_Min_sint_s1 at hm8
      refine WK.sub (e' := [(0, .slice a_p0 p0.length c_p0), (2, .int .i64 0), (3, .int .i64 s_2), (4, .int .i64 s_3)]) ⟨rfl, rfl, rfl, rfl, trivial⟩ (WK.cls (C' := St w0 m m []) (fun _ h => h) ?_)
      refine WK_seq ?_
      refine WK_seq ?_
      refine WK_region ?_
      refine WO_pure tbok 4 [(0, .slice a_p0 p0.length c_p0), (2, .int .i64 0), (3, .int .i64 s_2), (4, .int .i64 s_3), (15, .bool (decide (s_3 < (p0.length : Int))))] rfl ⟨rfl, rfl, rfl, rfl, rfl, trivial⟩ ?_
      refine WO_end ?_
      refine WK_cond (b := decide (s_3 < (p0.length : Int))) rfl (fun hb14 => ?_) (fun hb14 => ?_)
      · have hm8 := ifT hb14 hm8
        refine WK_skip ?_
        refine WK_seq ?_
        refine WK_block ?_
        refine WK_region ?_
        refine WO_pure tbok 3 [(0, .slice a_p0 p0.length c_p0), (2, .int .i64 0), (3, .int .i64 s_2), (4, .int .i64 s_3), (18, .int .i64 s_2), (19, .slice a_p0 p0.length c_p0), (20, .int .i64 s_3)] rfl ⟨rfl, rfl, rfl, rfl, rfl, rfl, rfl, trivial⟩ ?_
        obtain ⟨v_5, hy15, hm8⟩ := bind_some hm8
        obtain ⟨hc16, hy15⟩ := ix_some hy15
        refine WO_index tbok rfl rfl rfl rfl rfl rfl rfl rfl (SlR.addr h_p0) hc16 ?_
        refine WO_loadE tbok rfl rfl rfl rfl (fun _ h => St.sat h) h_p0 hy15 rfl ?_
        refine WO_pure tbok 2 [(0, .slice a_p0 p0.length c_p0), (2, .int .i64 0), (3, .int .i64 (if v_5 < s_2 then v_5 else s_2)), (4, .int .i64 s_3)] rfl ⟨rfl, rfl, rfl, rfl, trivial⟩ ?_
        refine WO_end ?_
        refine WK_blk ?_
        refine WK_region ?_
        refine WO_pure tbok 3 [(0, .slice a_p0 p0.length c_p0), (2, .int .i64 0), (3, .int .i64 (if v_5 < s_2 then v_5 else s_2)), (4, .int .i64 (w64 (s_3 + 1)))] rfl ⟨rfl, rfl, rfl, rfl, trivial⟩ ?_
        refine WO_end ?_
        cases hm8
        refine WK.sub ?_ (WK.cls (fun _ h => h) (hn11 _ () rfl trivial))
        exact ⟨rfl, rfl, rfl, rfl, trivial⟩
      · have hm8 := ifF hb14 hm8
        refine WK_exit rfl ?_
        cases hm8
        refine WK.sub ?_ (WK.cls (fun _ h => h) (hk7 (s_2, ()) (hd12 _ rfl)))
        exact ⟨rfl, rfl, trivial⟩
theorem seam_least_walk {m : Mu} {p0 : List Int} {p1 : Int} {p2 : Int} {a_p0 : Option Addr} {q_p0 c_p0 : Nat} (h_p0 : SlR (FE (I1 .i64)) 1 m (.slice a_p0 q_p0 c_p0) p0) {r : Int} (hm : seam_least p0 p1 p2 = some r) :
    Go.E.Spec Try.prog 69 [.slice a_p0 q_p0 c_p0, .int .i64 p1, .int .i64 p2] m (fun v _ _ => v = .int .i64 r) := by
  refine Spec_enter Try.func69 rfl rfl rfl (fun w0 => ?_)
  refine WK.sub (e' := [(0, .slice a_p0 q_p0 c_p0), (1, .int .i64 p1), (2, .int .i64 p2)]) ⟨rfl, rfl, rfl, trivial⟩ ?_
  obtain rfl := SlR.qlen h_p0
  refine WK.sub (e' := [(0, .slice a_p0 p0.length c_p0), (1, .int .i64 p1), (2, .int .i64 p2)]) ⟨rfl, rfl, rfl, trivial⟩ ?_
  unfold seam_least at hm
  refine WK_seq ?_
  refine WK_region ?_
  refine WO_pure tbok 1 [(0, .slice a_p0 p0.length c_p0), (1, .int .i64 p1), (2, .int .i64 p2), (6, .int .i64 0)] rfl ⟨rfl, rfl, rfl, rfl, trivial⟩ ?_
  refine WO_end ?_
  refine WK_seq ?_
  refine WK_region ?_
  refine WO_pure tbok 4 [(6, .int .i64 0), (7, .slice a_p0 p0.length c_p0), (8, .int .i64 p1), (10, .int .i64 (w64 (p2 + 1)))] rfl ⟨rfl, rfl, rfl, rfl, trivial⟩ ?_
  obtain ⟨hc2, hm⟩ := chk_some hm
  have hc2 : 0 ≤ (p1 : Int) ∧ (p1 : Int) ≤ (w64 (p2 + 1) : Int) ∧ (w64 (p2 + 1) : Int) ≤ (p0.length : Int) := hc2
  have hz6 : SlR (FE (I1 .i64)) 1 m (.slice a_p0 p0.length c_p0) p0 := h_p0
  refine WO_slice tbok (some (p1 : Int)) (some (w64 (p2 + 1) : Int)) none (p1 : Int).toNat (w64 (p2 + 1) : Int).toNat rfl rfl rfl rfl rfl rfl rfl rfl rfl rfl rfl hz6 (by simp only [Option.getD_some] <;> omega) (by simp only [Option.getD_some] <;> omega) (fun q hq => by cases hq) (by omega) (by omega) (fun hh => by cases hh) (fun a3 c4 h5 => ?_)
  obtain ⟨y_1, hc8, hm⟩ := bind_some hm
  refine WO_call0 (.int .i64 y_1) rfl rfl trivial rfl rfl rfl rfl St_closed ⟨33, #[], #[], rfl, callable_33, fun w hw => ⟨_, hw.sat, slices_Min_sint_walk h5 hc8⟩⟩ ?_
  refine WO_pure tbok 1 [(6, .int .i64 y_1)] rfl ⟨rfl, trivial⟩ ?_
  refine WO_end ?_
  cases hm
  exact WK_ret (ret_out (L := []) (RLc_tmp rfl RLc_nil) (List.nil_sublist _) rfl)
def seam_upward_Q (r : List (List Int)) : Value → Mu → List Ent → Prop := fun v m L => ∃ (a0 : Option Addr) (q0 c0 : Nat), v = .slice a0 q0 c0 ∧ SlR (RowE (FE (I1 .i64)) 1) 1 m (.slice a0 q0 c0) r
theorem seam_upward_walk {m : Mu} {p0 : List (List Int)} {p1 : Int → Int → Option Bool} {a_p0 : Option Addr} {q_p0 c_p0 : Nat} {p1v : Value} (h_p0 : SlR (RowE (FE (I1 .i64)) 1) 1 m (.slice a_p0 q_p0 c_p0) p0) (hp1 : ∀ (m1 : Mu), Le m m1 → ∀ (u1 : Int), ∀ (u2 : Int), ∀ (r : Bool), p1 u1 u2 = some r → SpecV Try.prog p1v [.int .i64 u1, .int .i64 u2] m1 (fun v _ _ => v = .bool r)) {r : List (List Int)} (hm : seam_upward p0 p1 = some r) :
    Go.E.Spec Try.prog 67 [.slice a_p0 q_p0 c_p0, p1v] m (seam_upward_Q r) := by
  refine Spec_enter Try.func67 rfl rfl rfl (fun w0 => ?_)
  refine WK.sub (e' := [(0, .slice a_p0 q_p0 c_p0), (1, p1v)]) ⟨rfl, rfl, trivial⟩ ?_
  obtain rfl := SlR.qlen h_p0
  refine WK.sub (e' := [(0, .slice a_p0 p0.length c_p0), (1, p1v)]) ⟨rfl, rfl, trivial⟩ ?_
  unfold seam_upward at hm
  refine WK_seq ?_
  refine WK_region ?_
  refine WO_pure tbok 1 [(0, .slice a_p0 p0.length c_p0), (1, p1v), (4, .slice none 0 0)] rfl ⟨rfl, rfl, rfl, trivial⟩ ?_
  refine WO_end ?_
  refine WK_seq ?_
  refine WK_region ?_
  refine WO_pure tbok 2 [(0, .slice a_p0 p0.length c_p0), (1, p1v), (4, .slice none 0 0), (12, .int .i64 (p0.length : Int))] rfl ⟨rfl, rfl, rfl, rfl, trivial⟩ ?_
  obtain ⟨hc2, hm⟩ := chk_some hm
  refine WO_makeT (E := (I1 .i64)) (k := 1) (T0 := 22) (T1 := 3) tbok rfl rfl trivial rfl rfl rfl rfl rfl rfl rfl rfl rfl rfl (mk_ok (by decide) hc2) (fun b3 c4 L5 hL5 => ?_)
  refine WO.cls (C' := St w0 m m [L5]) (fun _ h => h) ?_
  refine WO_pure tbok 1 [(0, .slice a_p0 p0.length c_p0), (1, p1v), (4, .slice none 0 0), (5, .slice (some ⟨b3, 0, none⟩) ((List.replicate ((p0.length : Int) : Int).toNat ([] : List Int)).length) c4)] rfl ⟨rfl, rfl, rfl, rfl, trivial⟩ ?_
  refine WO_end ?_
  refine WK_seq ?_
  refine WK_seq ?_
  refine WK_region ?_
  refine WO_pure tbok 4 [(0, .slice a_p0 p0.length c_p0), (1, p1v), (4, .slice none 0 0), (5, .slice (some ⟨b3, 0, none⟩) ((List.replicate ((p0.length : Int) : Int).toNat ([] : List Int)).length) c4), (6, .int .i64 (w64 ((p0.length : Int) - 1)))] rfl ⟨rfl, rfl, rfl, rfl, rfl, trivial⟩ ?_
  refine WO_end ?_
  obtain ⟨x13, hx14, hm⟩ := bind_some hm
  refine WK_join (β := (List (List Int)) × (List Value × List Ent)) (fun p => p.1 = x13 ∧ OwnT 22 3 1 (I1 .i64) (.slice (some ⟨b3, 0, none⟩) ((List.replicate ((p0.length : Int) : Int).toNat ([] : List Int)).length) c4) p.2.1 p.1 p.2.2) (fun p => [(4, .slice none 0 0), (5, .slice (some ⟨b3, 0, none⟩) ((List.replicate ((p0.length : Int) : Int).toNat ([] : List Int)).length) c4)]) (fun p => St w0 m m [p.2.2]) ?_ (fun hk15 => ?_)
  · rintro ⟨l_3, ⟨vs12, L11⟩⟩ ⟨hq21, hL11⟩
    subst hq21
    refine WK.sub (e' := [(4, .slice none 0 0), (5, .slice (some ⟨b3, 0, none⟩) ((List.replicate ((p0.length : Int) : Int).toNat ([] : List Int)).length) c4)]) ⟨rfl, rfl, trivial⟩ (WK.cls (C' := St w0 m m [L11]) (fun _ h => h) ?_)
    refine WK_seq ?_
    refine WK_region ?_
    refine WO_pure tbok 2 [(4, .slice (some ⟨b3, 0, none⟩) ((List.replicate ((p0.length : Int) : Int).toNat ([] : List Int)).length) c4)] rfl ⟨rfl, trivial⟩ ?_
    refine WO_end ?_
    cases hm
    refine WK_freeze 0 rfl (fun m22 hle23 hmm24 => ?_)
    refine WK.cls (C' := St w0 m m22 [[]]) (fun _ h => h) ?_
    exact WK_ret (ret_out (L := []) (RLc_tmp rfl RLc_nil) (List.nil_sublist _) ⟨(some ⟨b3, 0, none⟩), ((List.replicate ((p0.length : Int) : Int).toNat ([] : List Int)).length), c4, rfl, (OwnT.rd (E := (I1 .i64)) (k := 1) (fun _ => rfl) hL11 hmm24)⟩)
  · refine WK_block ?_
    refine WK_loop (S := List (List Int) × Int) (G := List Value × List Ent) (fun s => seam_upward_s1 p0 p1 s.1 s.2) (fun s g => [(0, .slice a_p0 p0.length c_p0), (1, p1v), (4, .slice none 0 0), (5, .slice (some ⟨b3, 0, none⟩) ((List.replicate ((p0.length : Int) : Int).toNat ([] : List Int)).length) c4), (6, .int .i64 s.2)]) (fun s g => St w0 m m [g.2]) (fun s g => OwnT 22 3 1 (I1 .i64) (.slice (some ⟨b3, 0, none⟩) ((List.replicate ((p0.length : Int) : Int).toNat ([] : List Int)).length) c4) g.1 s.1 g.2) FUEL ((List.replicate ((p0.length : Int) : Int).toNat ([] : List Int)), w64 ((p0.length : Int) - 1)) ((List.replicate ((p0.length : Int) : Int).toNat (Value.slice none 0 0)), L5) x13 hx14 hL5 ⟨rfl, rfl, rfl, rfl, rfl, trivial⟩ (fun _ h => h) ?_
    rintro ⟨l_1, s_2⟩ ⟨vs9, L8⟩ o17 fl18 hm16 hL8 hn19 hd20
    have hm16 : seam_upward_s1 p0 p1 l_1 s_2 = some o17 := hm16
    unfold seam_upward_s1 at hm16
    refine WK.sub (e' := [(0, .slice a_p0 p0.length c_p0), (1, p1v), (4, .slice none 0 0), (5, .slice (some ⟨b3, 0, none⟩) ((List.replicate ((p0.length : Int) : Int).toNat ([] : List Int)).length) c4), (6, .int .i64 s_2)]) ⟨rfl, rfl, rfl, rfl, rfl, trivial⟩ (WK.cls (C' := St w0 m m [L8]) (fun _ h => h) ?_)
    refine WK_seq ?_
    refine WK_seq ?_
    refine WK_region ?_
    refine WO_pure tbok 2 [(0, .slice a_p0 p0.length c_p0), (1, p1v), (4, .slice none 0 0), (5, .slice (some ⟨b3, 0, none⟩) ((List.replicate ((p0.length : Int) : Int).toNat ([] : List Int)).length) c4), (6, .int .i64 s_2), (18, .bool (decide (0 ≤ s_2)))] rfl ⟨rfl, rfl, rfl, rfl, rfl, rfl, trivial⟩ ?_
    refine WO_end ?_
    refine WK_cond (b := decide (0 ≤ s_2)) rfl (fun hb25 => ?_) (fun hb25 => ?_)
    · have hm16 := ifT hb25 hm16
      refine WK_skip ?_
      refine WK_seq ?_
      refine WK_block ?_
      refine WK_seq ?_
      refine WK_region ?_
      refine WO_pure tbok 2 [(0, .slice a_p0 p0.length c_p0), (1, p1v), (4, .slice none 0 0), (5, .slice (some ⟨b3, 0, none⟩) ((List.replicate ((p0.length : Int) : Int).toNat ([] : List Int)).length) c4), (6, .int .i64 s_2), (21, .slice a_p0 p0.length c_p0), (22, .int .i64 s_2)] rfl ⟨rfl, rfl, rfl, rfl, rfl, rfl, rfl, trivial⟩ ?_
      obtain ⟨v_4, hy26, hm16⟩ := bind_some hm16
      obtain ⟨hc27, hy26⟩ := ix_some hy26
      refine WO_index tbok rfl rfl rfl rfl rfl rfl rfl rfl (SlR.addr h_p0) hc27 ?_
      refine WO_loadR tbok rfl rfl rfl rfl (fun _ h => St.sat h) h_p0 hy26 rfl rfl (fun a28 c29 h30 => ?_)
      refine WO_pure tbok 2 [(0, .slice a_p0 p0.length c_p0), (1, p1v), (4, .slice none 0 0), (5, .slice (some ⟨b3, 0, none⟩) ((List.replicate ((p0.length : Int) : Int).toNat ([] : List Int)).length) c4), (6, .int .i64 s_2), (24, .slice a28 ((v_4).length) c29), (25, .int .i64 ((v_4).length : Int)), (26, .int .i64 0)] rfl ⟨rfl, rfl, rfl, rfl, rfl, rfl, rfl, rfl, trivial⟩ ?_
      refine WO_end ?_
      obtain ⟨x38, hx39, hm16⟩ := bind_some hm16
      refine WK_join (β := (List (List Int)) × (List Value × List Ent)) (fun p => p.1 = x38 ∧ OwnT 22 3 1 (I1 .i64) (.slice (some ⟨b3, 0, none⟩) ((List.replicate ((p0.length : Int) : Int).toNat ([] : List Int)).length) c4) p.2.1 p.1 p.2.2) (fun p => [(0, .slice a_p0 p0.length c_p0), (1, p1v), (4, .slice none 0 0), (5, .slice (some ⟨b3, 0, none⟩) ((List.replicate ((p0.length : Int) : Int).toNat ([] : List Int)).length) c4), (6, .int .i64 s_2)]) (fun p => St w0 m m [p.2.2]) ?_ (fun hk40 => ?_)
      · rintro ⟨l_7, ⟨vs37, L36⟩⟩ ⟨hq46, hL36⟩
        subst hq46
        refine WK.sub (e' := [(0, .slice a_p0 p0.length c_p0), (1, p1v), (4, .slice none 0 0), (5, .slice (some ⟨b3, 0, none⟩) ((List.replicate ((p0.length : Int) : Int).toNat ([] : List Int)).length) c4), (6, .int .i64 s_2)]) ⟨rfl, rfl, rfl, rfl, rfl, trivial⟩ (WK.cls (C' := St w0 m m [L36]) (fun _ h => h) ?_)
        refine WK_blk ?_
        refine WK_region ?_
        refine WO_pure tbok 3 [(0, .slice a_p0 p0.length c_p0), (1, p1v), (4, .slice none 0 0), (5, .slice (some ⟨b3, 0, none⟩) ((List.replicate ((p0.length : Int) : Int).toNat ([] : List Int)).length) c4), (6, .int .i64 (w64 (s_2 - 1)))] rfl ⟨rfl, rfl, rfl, rfl, rfl, trivial⟩ ?_
        refine WO_end ?_
        cases hm16
        refine WK.sub ?_ (WK.cls (fun _ h => h) (hn19 _ (vs37, L36) rfl hL36))
        exact ⟨rfl, rfl, rfl, rfl, rfl, trivial⟩
      · refine WK_block ?_
        refine WK_loop (S := List (List Int) × Int) (G := List Value × List Ent) (fun s => seam_upward_s2 p0 p1 s_2 v_4 s.1 s.2) (fun s g => [(0, .slice a_p0 p0.length c_p0), (1, p1v), (4, .slice none 0 0), (5, .slice (some ⟨b3, 0, none⟩) ((List.replicate ((p0.length : Int) : Int).toNat ([] : List Int)).length) c4), (6, .int .i64 s_2), (24, .slice a28 ((v_4).length) c29), (25, .int .i64 ((v_4).length : Int)), (26, .int .i64 s.2)]) (fun s g => St w0 m m [g.2]) (fun s g => OwnT 22 3 1 (I1 .i64) (.slice (some ⟨b3, 0, none⟩) ((List.replicate ((p0.length : Int) : Int).toNat ([] : List Int)).length) c4) g.1 s.1 g.2) FUEL (l_1, 0) (vs9, L8) x38 hx39 hL8 ⟨rfl, rfl, rfl, rfl, rfl, rfl, rfl, rfl, trivial⟩ (fun _ h => h) ?_
        rintro ⟨l_5, s_6⟩ ⟨vs34, L33⟩ o42 fl43 hm41 hL33 hn44 hd45
        have hm41 : seam_upward_s2 p0 p1 s_2 v_4 l_5 s_6 = some o42 := hm41
        unfold seam_upward_s2 at hm41
        refine WK.sub (e' := [(0, .slice a_p0 p0.length c_p0), (1, p1v), (4, .slice none 0 0), (5, .slice (some ⟨b3, 0, none⟩) ((List.replicate ((p0.length : Int) : Int).toNat ([] : List Int)).length) c4), (6, .int .i64 s_2), (24, .slice a28 ((v_4).length) c29), (25, .int .i64 ((v_4).length : Int)), (26, .int .i64 s_6)]) ⟨rfl, rfl, rfl, rfl, rfl, rfl, rfl, rfl, trivial⟩ (WK.cls (C' := St w0 m m [L33]) (fun _ h => h) ?_)
        refine WK_seq ?_
        refine WK_region ?_
        refine WO_pure tbok 1 [(0, .slice a_p0 p0.length c_p0), (1, p1v), (4, .slice none 0 0), (5, .slice (some ⟨b3, 0, none⟩) ((List.replicate ((p0.length : Int) : Int).toNat ([] : List Int)).length) c4), (6, .int .i64 s_2), (24, .slice a28 ((v_4).length) c29), (25, .int .i64 ((v_4).length : Int)), (26, .int .i64 s_6), (27, .bool (decide (s_6 < ((v_4).length : Int))))] rfl ⟨rfl, rfl, rfl, rfl, rfl, rfl, rfl, rfl, rfl, trivial⟩ ?_
        refine WO_end ?_
        refine WK_seq ?_
        refine WK_cond (b := decide (s_6 < ((v_4).length : Int))) rfl (fun hb47 => ?_) (fun hb47 => ?_)
        · have hm41 := ifT hb47 hm41
          refine WK_skip ?_
          refine WK_seq ?_
          refine WK_block ?_
          refine WK_seq ?_
          refine WK_region ?_
          refine WO_pure tbok 1 [(0, .slice a_p0 p0.length c_p0), (1, p1v), (4, .slice none 0 0), (5, .slice (some ⟨b3, 0, none⟩) ((List.replicate ((p0.length : Int) : Int).toNat ([] : List Int)).length) c4), (6, .int .i64 s_2), (24, .slice a28 ((v_4).length) c29), (25, .int .i64 ((v_4).length : Int)), (26, .int .i64 s_6), (28, .int .i64 s_6)] rfl ⟨rfl, rfl, rfl, rfl, rfl, rfl, rfl, rfl, rfl, trivial⟩ ?_
          obtain ⟨v_8, hy48, hm41⟩ := bind_some hm41
          obtain ⟨hc49, hy48⟩ := ix_some hy48
          refine WO_index tbok rfl rfl rfl rfl rfl rfl rfl rfl (SlR.addr h30) hc49 ?_
          refine WO_loadE tbok rfl rfl rfl rfl (fun _ h => St.sat h) h30 hy48 rfl ?_
          refine WO_pure tbok 2 [(0, .slice a_p0 p0.length c_p0), (1, p1v), (4, .slice none 0 0), (5, .slice (some ⟨b3, 0, none⟩) ((List.replicate ((p0.length : Int) : Int).toNat ([] : List Int)).length) c4), (6, .int .i64 s_2), (7, .int .i64 s_6), (8, .int .i64 v_8), (24, .slice a28 ((v_4).length) c29), (25, .int .i64 ((v_4).length : Int)), (26, .int .i64 s_6)] rfl ⟨rfl, rfl, rfl, rfl, rfl, rfl, rfl, rfl, rfl, rfl, trivial⟩ ?_
          refine WO_end ?_
          refine WK_seq ?_
          refine WK_seq ?_
          refine WK_region ?_
          refine WO_pure tbok 3 [(0, .slice a_p0 p0.length c_p0), (1, p1v), (4, .slice none 0 0), (5, .slice (some ⟨b3, 0, none⟩) ((List.replicate ((p0.length : Int) : Int).toNat ([] : List Int)).length) c4), (6, .int .i64 s_2), (7, .int .i64 s_6), (8, .int .i64 v_8), (24, .slice a28 ((v_4).length) c29), (25, .int .i64 ((v_4).length : Int)), (26, .int .i64 s_6), (31, p1v), (32, .int .i64 s_2), (33, .int .i64 s_6)] rfl ⟨rfl, rfl, rfl, rfl, rfl, rfl, rfl, rfl, rfl, rfl, rfl, rfl, rfl, trivial⟩ ?_
          obtain ⟨y_9, hc50, hm41⟩ := bind_some hm41
          obtain ⟨f0, first0, cap0, hf0, hcal0, hsp0⟩ := hp1 _ (Le.refl _) s_2 s_6 _ hc50
          refine WO_call0 (.bool y_9) rfl rfl trivial rfl rfl rfl rfl St_closed ⟨f0, first0, cap0, hf0, hcal0, fun w hw => ⟨m, hw.sat, hsp0⟩⟩ ?_
          refine WO_pure tbok 1 [(0, .slice a_p0 p0.length c_p0), (1, p1v), (4, .slice none 0 0), (5, .slice (some ⟨b3, 0, none⟩) ((List.replicate ((p0.length : Int) : Int).toNat ([] : List Int)).length) c4), (6, .int .i64 s_2), (7, .int .i64 s_6), (8, .int .i64 v_8), (24, .slice a28 ((v_4).length) c29), (25, .int .i64 ((v_4).length : Int)), (26, .int .i64 s_6), (35, .bool (!y_9))] rfl ⟨rfl, rfl, rfl, rfl, rfl, rfl, rfl, rfl, rfl, rfl, rfl, trivial⟩ ?_
          refine WO_end ?_
          obtain ⟨s_10, hx51, hm41⟩ := bind_some hm41
          refine WK_meet [(0, .slice a_p0 p0.length c_p0), (1, p1v), (4, .slice none 0 0), (5, .slice (some ⟨b3, 0, none⟩) ((List.replicate ((p0.length : Int) : Int).toNat ([] : List Int)).length) c4), (6, .int .i64 s_2), (7, .int .i64 s_6), (8, .int .i64 s_10), (24, .slice a28 ((v_4).length) c29), (25, .int .i64 ((v_4).length : Int)), (26, .int .i64 s_6)] (St w0 m m [L33]) ?_ (fun hk52 => ?_)
          · refine WK_seq ?_
            refine WK_seq ?_
            refine WK_region ?_
            refine WO_pure tbok 5 [(0, .slice a_p0 p0.length c_p0), (1, p1v), (4, .slice none 0 0), (5, .slice (some ⟨b3, 0, none⟩) ((List.replicate ((p0.length : Int) : Int).toNat ([] : List Int)).length) c4), (6, .int .i64 s_2), (7, .int .i64 s_6), (8, .int .i64 s_10), (24, .slice a28 ((v_4).length) c29), (25, .int .i64 ((v_4).length : Int)), (26, .int .i64 s_6), (40, .bool (decide ((w64 (s_2 + 1)) < (p0.length : Int))))] rfl ⟨rfl, rfl, rfl, rfl, rfl, rfl, rfl, rfl, rfl, rfl, rfl, trivial⟩ ?_
            refine WO_end ?_
            obtain ⟨s_11, hx53, hm41⟩ := bind_some hm41
            refine WK_meet [(0, .slice a_p0 p0.length c_p0), (1, p1v), (4, .slice none 0 0), (5, .slice (some ⟨b3, 0, none⟩) ((List.replicate ((p0.length : Int) : Int).toNat ([] : List Int)).length) c4), (6, .int .i64 s_2), (8, .int .i64 s_11), (24, .slice a28 ((v_4).length) c29), (25, .int .i64 ((v_4).length : Int)), (26, .int .i64 s_6)] (St w0 m m [L33]) ?_ (fun hk54 => ?_)
            · refine WK_region ?_
              refine WO_pure tbok 4 [(0, .slice a_p0 p0.length c_p0), (1, p1v), (4, .slice none 0 0), (5, .slice (some ⟨b3, 0, none⟩) ((List.replicate ((p0.length : Int) : Int).toNat ([] : List Int)).length) c4), (6, .int .i64 s_2), (8, .int .i64 s_11), (24, .slice a28 ((v_4).length) c29), (25, .int .i64 ((v_4).length : Int)), (26, .int .i64 s_6), (61, .slice (some ⟨b3, 0, none⟩) ((List.replicate ((p0.length : Int) : Int).toNat ([] : List Int)).length) c4), (62, .int .i64 s_2), (63, .slice (some ⟨b3, 0, none⟩) ((List.replicate ((p0.length : Int) : Int).toNat ([] : List Int)).length) c4), (64, .int .i64 s_2)] rfl ⟨rfl, rfl, rfl, rfl, rfl, rfl, rfl, rfl, rfl, rfl, rfl, rfl, rfl, trivial⟩ ?_
              obtain ⟨v_12, hy55, hm41⟩ := bind_some hm41
              obtain ⟨hc56, hy55⟩ := ix_some hy55
              refine WO_index tbok rfl rfl rfl rfl rfl rfl rfl rfl (OwnT.addr hL33) (by simpa using hc56) ?_
              refine WO_loadT tbok 0 rfl rfl rfl rfl (fun _ h => h) hL33 rfl hy55 rfl rfl (fun a57 c58 L59 hv60 hr61 => ?_)
              refine WO_pure tbok 1 [(0, .slice a_p0 p0.length c_p0), (1, p1v), (4, .slice none 0 0), (5, .slice (some ⟨b3, 0, none⟩) ((List.replicate ((p0.length : Int) : Int).toNat ([] : List Int)).length) c4), (6, .int .i64 s_2), (24, .slice a28 ((v_4).length) c29), (25, .int .i64 ((v_4).length : Int)), (26, .int .i64 s_6), (61, .slice (some ⟨b3, 0, none⟩) ((List.replicate ((p0.length : Int) : Int).toNat ([] : List Int)).length) c4), (62, .int .i64 s_2), (66, .slice a57 v_12.length c58), (67, .int .i64 s_11)] rfl ⟨rfl, rfl, rfl, rfl, rfl, rfl, rfl, rfl, rfl, rfl, rfl, rfl, trivial⟩ ?_
              refine WO_bslice (E := (I1 .i64)) tbok (fun _ => rfl) (by decide) [.int .i64 s_11] ([s_11] : List Int) rfl rfl trivial rfl rfl rfl rfl rfl rfl rfl rfl rfl rfl rfl rfl (fun b63 hb63 => ?_)
              refine WO.cls (C' := St w0 m m [L33, [⟨b63, 3, ([s_11] : List Int).flatMap (I1 .i64)⟩]]) (fun _ h => h) ?_
              refine WO_takeT (E := (I1 .i64)) (k := 1) 0 hL33 rfl hv60 hy55 (fun L65 L66 hL65 hL66 => ?_)
              refine WO.cls (C' := St w0 m m [L65, [⟨b63, 3, ([s_11] : List Int).flatMap (I1 .i64)⟩], L66]) (fun _ h => h) ?_
              obtain ⟨hc69, hm41⟩ := chk_some hm41
              refine WO_append (E := (I1 .i64)) tbok (fun _ => rfl) 2 ([s_11] : List Int) (fun _ _ => rfl) rfl rfl rfl rfl rfl rfl rfl rfl rfl rfl rfl rfl hL66 rfl (src_seg (j := 1) rfl) (ap_ok (by decide) hc69) (ap_max hc69) (fun a70 c71 L72 hL72 => ?_)
              refine WO.cls (C' := St w0 m m [L65, [⟨b63, 3, ([s_11] : List Int).flatMap (I1 .i64)⟩], L72]) (fun _ h => h) ?_
              obtain ⟨hc74, hm41⟩ := chk_some hm41
              refine WO_index tbok rfl rfl rfl rfl rfl rfl rfl rfl (OwnH.addr hL65) (by simpa using hc74) ?_
              refine WO_storeTH tbok 0 2 rfl rfl rfl rfl rfl hL65 rfl hL72 rfl rfl (by simpa using idx_lt hc74) rfl rfl rfl rfl (fun L75 hL75 => ?_)
              refine WO.cls (C' := St w0 m m [L75, [⟨b63, 3, ([s_11] : List Int).flatMap (I1 .i64)⟩], []]) (fun _ h => h) ?_
              refine WO_end ?_
              refine WK_blk ?_
              refine WK_region ?_
              refine WO_pure tbok 2 [(0, .slice a_p0 p0.length c_p0), (1, p1v), (4, .slice none 0 0), (5, .slice (some ⟨b3, 0, none⟩) ((List.replicate ((p0.length : Int) : Int).toNat ([] : List Int)).length) c4), (6, .int .i64 s_2), (24, .slice a28 ((v_4).length) c29), (25, .int .i64 ((v_4).length : Int)), (26, .int .i64 (w64 (s_6 + 1)))] rfl ⟨rfl, rfl, rfl, rfl, rfl, rfl, rfl, rfl, trivial⟩ ?_
              refine WO_end ?_
              cases hm41
              refine WK.sub ?_ (WK.cls (fun _ h => St.take 1 h) (hn44 _ ((vs34.set s_2.toNat (.slice a70 ((v_12 ++ ([s_11] : List Int)).length) c71)), L75) rfl hL75))
              exact ⟨rfl, rfl, rfl, rfl, rfl, rfl, rfl, rfl, trivial⟩
            · refine WK_cond (b := decide ((w64 (s_2 + 1)) < (p0.length : Int))) rfl (fun hb77 => ?_) (fun hb77 => ?_)
              · have hx53 := ifT hb77 hx53
                refine WK_seq ?_
                refine WK_region ?_
                refine WO_pure tbok 3 [(0, .slice a_p0 p0.length c_p0), (1, p1v), (4, .slice none 0 0), (5, .slice (some ⟨b3, 0, none⟩) ((List.replicate ((p0.length : Int) : Int).toNat ([] : List Int)).length) c4), (6, .int .i64 s_2), (8, .int .i64 s_10), (24, .slice a28 ((v_4).length) c29), (25, .int .i64 ((v_4).length : Int)), (26, .int .i64 s_6), (42, .int .i64 s_6), (43, .slice a_p0 p0.length c_p0), (44, .int .i64 s_2)] rfl ⟨rfl, rfl, rfl, rfl, rfl, rfl, rfl, rfl, rfl, rfl, rfl, rfl, trivial⟩ ?_
                obtain ⟨v_13, hy78, hx53⟩ := bind_some hx53
                obtain ⟨hc79, hy78⟩ := ix_some hy78
                refine WO_index tbok rfl rfl rfl rfl rfl rfl rfl rfl (SlR.addr h_p0) hc79 ?_
                refine WO_loadR tbok rfl rfl rfl rfl (fun _ h => St.sat h) h_p0 hy78 rfl rfl (fun a80 c81 h82 => ?_)
                refine WO_pure tbok 1 [(0, .slice a_p0 p0.length c_p0), (1, p1v), (4, .slice none 0 0), (5, .slice (some ⟨b3, 0, none⟩) ((List.replicate ((p0.length : Int) : Int).toNat ([] : List Int)).length) c4), (6, .int .i64 s_2), (8, .int .i64 s_10), (24, .slice a28 ((v_4).length) c29), (25, .int .i64 ((v_4).length : Int)), (26, .int .i64 s_6), (42, .int .i64 s_6), (47, .int .i64 ((v_13).length : Int))] rfl ⟨rfl, rfl, rfl, rfl, rfl, rfl, rfl, rfl, rfl, rfl, rfl, trivial⟩ ?_
                obtain ⟨⟨y_14, y_15⟩, hc84, hx53⟩ := bind_some hx53
                refine WO_call0 (.tuple #[.int .i64 y_14, .int .i64 y_15]) rfl rfl trivial rfl rfl rfl rfl St_closed ⟨68, #[], #[], rfl, callable_68, fun w hw => ⟨_, hw.sat, seam_near_walk hc84⟩⟩ ?_
                refine WO_pure tbok 5 [(0, .slice a_p0 p0.length c_p0), (1, p1v), (4, .slice none 0 0), (5, .slice (some ⟨b3, 0, none⟩) ((List.replicate ((p0.length : Int) : Int).toNat ([] : List Int)).length) c4), (6, .int .i64 s_2), (8, .int .i64 s_10), (9, .int .i64 y_14), (10, .int .i64 y_15), (24, .slice a28 ((v_4).length) c29), (25, .int .i64 ((v_4).length : Int)), (26, .int .i64 s_6)] rfl ⟨rfl, rfl, rfl, rfl, rfl, rfl, rfl, rfl, rfl, rfl, rfl, trivial⟩ ?_
                refine WO_end ?_
                refine WK_region ?_
                refine WO_pure tbok 4 [(0, .slice a_p0 p0.length c_p0), (1, p1v), (4, .slice none 0 0), (5, .slice (some ⟨b3, 0, none⟩) ((List.replicate ((p0.length : Int) : Int).toNat ([] : List Int)).length) c4), (6, .int .i64 s_2), (8, .int .i64 s_10), (9, .int .i64 y_14), (10, .int .i64 y_15), (24, .slice a28 ((v_4).length) c29), (25, .int .i64 ((v_4).length : Int)), (26, .int .i64 s_6), (51, .int .i64 s_10), (52, .slice (some ⟨b3, 0, none⟩) ((List.replicate ((p0.length : Int) : Int).toNat ([] : List Int)).length) c4), (54, .int .i64 (w64 (s_2 + 1)))] rfl ⟨rfl, rfl, rfl, rfl, rfl, rfl, rfl, rfl, rfl, rfl, rfl, rfl, rfl, rfl, trivial⟩ ?_
                obtain ⟨v_16, hy85, hx53⟩ := bind_some hx53
                obtain ⟨hc86, hy85⟩ := ix_some hy85
                refine WO_index tbok rfl rfl rfl rfl rfl rfl rfl rfl (OwnT.addr hL33) (by simpa using hc86) ?_
                refine WO_loadT tbok 0 rfl rfl rfl rfl (fun _ h => h) hL33 rfl hy85 rfl rfl (fun a87 c88 L89 hv90 hr91 => ?_)
                refine WO_pure tbok 2 [(0, .slice a_p0 p0.length c_p0), (1, p1v), (4, .slice none 0 0), (5, .slice (some ⟨b3, 0, none⟩) ((List.replicate ((p0.length : Int) : Int).toNat ([] : List Int)).length) c4), (6, .int .i64 s_2), (8, .int .i64 s_10), (24, .slice a28 ((v_4).length) c29), (25, .int .i64 ((v_4).length : Int)), (26, .int .i64 s_6), (51, .int .i64 s_10), (56, .slice a87 v_16.length c88), (57, .int .i64 y_14), (58, .int .i64 y_15)] rfl ⟨rfl, rfl, rfl, rfl, rfl, rfl, rfl, rfl, rfl, rfl, rfl, rfl, rfl, trivial⟩ ?_
                obtain ⟨y_17, hc93, hx53⟩ := bind_some hx53
                refine WO_call0 (.int .i64 y_17) rfl rfl trivial rfl rfl rfl rfl St_closed ⟨69, #[], #[], rfl, callable_69, fun w hw => ⟨_, hw.satV, seam_least_walk (OwnT.rowrd (E := (I1 .i64)) (fun _ => rfl) hL33 hv90 hy85 (fun _ hx => hw.memV (i := 0) rfl hx)) hc93⟩⟩ ?_
                refine WO_pure tbok 2 [(0, .slice a_p0 p0.length c_p0), (1, p1v), (4, .slice none 0 0), (5, .slice (some ⟨b3, 0, none⟩) ((List.replicate ((p0.length : Int) : Int).toNat ([] : List Int)).length) c4), (6, .int .i64 s_2), (8, .int .i64 (w64 (s_10 + y_17))), (24, .slice a28 ((v_4).length) c29), (25, .int .i64 ((v_4).length : Int)), (26, .int .i64 s_6)] rfl ⟨rfl, rfl, rfl, rfl, rfl, rfl, rfl, rfl, rfl, trivial⟩ ?_
                refine WO_end ?_
                cases hx53
                refine WK.sub ?_ (WK.cls (fun _ h => h) hk54)
                exact ⟨rfl, rfl, rfl, rfl, rfl, rfl, rfl, rfl, rfl, trivial⟩
              · have hx53 := ifF hb77 hx53
                refine WK_skip ?_
                cases hx53
                refine WK.sub ?_ (WK.cls (fun _ h => h) hk54)
                exact ⟨rfl, rfl, rfl, rfl, rfl, rfl, rfl, rfl, rfl, trivial⟩
          · refine WK_cond (b := !y_9) rfl (fun hb94 => ?_) (fun hb94 => ?_)
            · have hx51 := ifT hb94 hx51
              refine WK_region ?_
              refine WO_pure tbok 1 [(0, .slice a_p0 p0.length c_p0), (1, p1v), (4, .slice none 0 0), (5, .slice (some ⟨b3, 0, none⟩) ((List.replicate ((p0.length : Int) : Int).toNat ([] : List Int)).length) c4), (6, .int .i64 s_2), (7, .int .i64 s_6), (8, .int .i64 1099511627776), (24, .slice a28 ((v_4).length) c29), (25, .int .i64 ((v_4).length : Int)), (26, .int .i64 s_6)] rfl ⟨rfl, rfl, rfl, rfl, rfl, rfl, rfl, rfl, rfl, rfl, trivial⟩ ?_
              refine WO_end ?_
              cases hx51
              refine WK.sub ?_ (WK.cls (fun _ h => h) hk52)
              exact ⟨rfl, rfl, rfl, rfl, rfl, rfl, rfl, rfl, rfl, rfl, trivial⟩
            · have hx51 := ifF hb94 hx51
              refine WK_skip ?_
              cases hx51
              refine WK.sub ?_ (WK.cls (fun _ h => h) hk52)
              exact ⟨rfl, rfl, rfl, rfl, rfl, rfl, rfl, rfl, rfl, rfl, trivial⟩
        · have hm41 := ifF hb47 hm41
          refine WK_exit rfl ?_
          cases hm41
          refine WK.sub ?_ (WK.cls (fun _ h => h) (hk40 (l_5, (vs34, L33)) ⟨(hd45 _ rfl), hL33⟩))
          exact ⟨rfl, rfl, rfl, rfl, rfl, trivial⟩
    · have hm16 := ifF hb25 hm16
      refine WK_exit rfl ?_
      cases hm16
      refine WK.sub ?_ (WK.cls (fun _ h => h) (hk15 (l_1, (vs9, L8)) ⟨(hd20 _ rfl), hL8⟩))
      exact ⟨rfl, rfl, trivial⟩
def seam_first_Q (r : List Int × Int) : Value → List Ent → Prop := fun v L => ∃ (a0 : Option Addr) (q0 c0 : Nat), v = .tuple #[.slice a0 q0 c0, .int .i64 r.2] ∧ OwnE 3 1 (I1 .i64) (.slice a0 q0 c0) r.1 L
theorem seam_first_walk {m : Mu} {p0 : List (List Int)} {p1 : Int → Int → Option Bool} {a_p0 : Option Addr} {q_p0 c_p0 : Nat} {p1v : Value} (h_p0 : SlR (RowE (FE (I1 .i64)) 1) 1 m (.slice a_p0 q_p0 c_p0) p0) (hp1 : ∀ (m1 : Mu), Le m m1 → ∀ (u1 : Int), ∀ (u2 : Int), ∀ (r : Bool), p1 u1 u2 = some r → SpecV Try.prog p1v [.int .i64 u1, .int .i64 u2] m1 (fun v _ _ => v = .bool r)) {r : List Int × Int} (hm : seam_first p0 p1 = some r) :
    Go.E.Spec Try.prog 37 [.slice a_p0 q_p0 c_p0, p1v] m (fun v _ L => seam_first_Q r v L) := by
  refine Spec_enter Try.func37 rfl rfl rfl (fun w0 => ?_)
  refine WK.sub (e' := [(0, .slice a_p0 q_p0 c_p0), (1, p1v)]) ⟨rfl, rfl, trivial⟩ ?_
  obtain rfl := SlR.qlen h_p0
  refine WK.sub (e' := [(0, .slice a_p0 p0.length c_p0), (1, p1v)]) ⟨rfl, rfl, trivial⟩ ?_
  unfold seam_first at hm
  refine WK_seq ?_
  refine WK_region ?_
  refine WO_pure tbok 2 [(0, .slice a_p0 p0.length c_p0), (1, p1v), (4, .slice none 0 0), (5, .int .i64 0)] rfl ⟨rfl, rfl, rfl, rfl, trivial⟩ ?_
  refine WO_end ?_
  refine WK_seq ?_
  refine WK_region ?_
  refine WO_pure tbok 2 [(0, .slice a_p0 p0.length c_p0), (4, .slice none 0 0), (5, .int .i64 0), (14, .slice a_p0 p0.length c_p0), (15, p1v)] rfl ⟨rfl, rfl, rfl, rfl, rfl, trivial⟩ ?_
  obtain ⟨y_1, hc2, hm⟩ := bind_some hm
  refine WO_call2 (seam_upward_Q y_1) rfl rfl trivial rfl rfl rfl rfl ⟨67, #[], #[], rfl, callable_67, seam_upward_walk h_p0 hp1 hc2⟩ (fun v7 m8 L6 hle9 hq => ?_)
  obtain ⟨a3, qa3, c4, rfl, h10⟩ := hq
  obtain rfl := SlR.qlen h10
  refine WO.cls (C' := St w0 m m8 [L6]) (fun _ h => h.sub (by simp)) ?_
  refine WO_pure tbok 1 [(0, .slice a_p0 p0.length c_p0), (4, .slice none 0 0), (5, .int .i64 0), (6, .slice a3 ((y_1).length) c4)] rfl ⟨rfl, rfl, rfl, rfl, trivial⟩ ?_
  refine WO_end ?_
  refine WK_seq ?_
  refine WK_draw 7 [0, 1, 2, 3, 4, 5, 6] follows_ok (by kernel_rfl) St_closed ?_
  refine WO_pure tbok 1 [(4, .slice none 0 0), (5, .int .i64 0), (6, .slice a3 ((y_1).length) c4), (17, .slice a_p0 p0.length c_p0)] rfl ⟨rfl, rfl, rfl, rfl, trivial⟩ ?_
  obtain ⟨v_2, hy11, hm⟩ := bind_some hm
  obtain ⟨hc12, hy11⟩ := ix_some hy11
  refine WO_index tbok rfl rfl rfl rfl rfl rfl rfl rfl (SlR.addr (h_p0.mono (mono_RowE (mono_FE _) _) hle9)) hc12 ?_
  refine WO_loadR tbok rfl rfl rfl rfl (fun _ h => St.sat h) (h_p0.mono (mono_RowE (mono_FE _) _) hle9) hy11 rfl rfl (fun a13 c14 h15 => ?_)
  refine WO_pure tbok 4 [(4, .slice none 0 0), (5, .int .i64 0), (6, .slice a3 ((y_1).length) c4), (7, .int .i64 0), (8, .int .i64 (w64 (((v_2).length : Int) - 1)))] rfl ⟨rfl, rfl, rfl, rfl, rfl, trivial⟩ ?_
  refine WO_tail ?_
  refine WO_end ?_
  refine WK_seq ?_
  refine WK_region ?_
  refine WO_pure tbok 1 [(4, .slice none 0 0), (5, .int .i64 0), (6, .slice a3 ((y_1).length) c4), (7, .int .i64 0), (8, .int .i64 (w64 (((v_2).length : Int) - 1))), (9, .slice none 0 0)] rfl ⟨rfl, rfl, rfl, rfl, rfl, rfl, trivial⟩ ?_
  refine WO_end ?_
  refine WK_seq ?_
  refine WK_seq ?_
  refine WK_region ?_
  refine WO_pure tbok 3 [(4, .slice none 0 0), (5, .int .i64 0), (6, .slice a3 ((y_1).length) c4), (7, .int .i64 0), (8, .int .i64 (w64 (((v_2).length : Int) - 1))), (9, .slice none 0 0), (22, .slice a3 ((y_1).length) c4), (23, .int .i64 ((y_1).length : Int)), (24, .int .i64 0)] rfl ⟨rfl, rfl, rfl, rfl, rfl, rfl, rfl, rfl, rfl, trivial⟩ ?_
  refine WO_end ?_
  refine WK_pad ?_
  obtain ⟨x28, hx29, hm⟩ := bind_some hm
  refine WK_join (β := (List Int) × (Option Addr × Nat × Nat × List Ent)) (fun p => p.1 = x28 ∧ OwnE 3 1 (I1 .i64) (.slice p.2.1 p.2.2.1 p.2.2.2.1) p.1 p.2.2.2.2) (fun p => [(4, .slice none 0 0), (5, .int .i64 0), (6, .slice a3 ((y_1).length) c4), (9, .slice p.2.1 p.2.2.1 p.2.2.2.1)]) (fun p => St w0 m m8 [L6, p.2.2.2.2]) ?_ (fun hk30 => ?_)
  · rintro ⟨l_7, ⟨a25, q26, c27, L24⟩⟩ ⟨hq36, hL24⟩
    subst hq36
    have hqq : q26 = l_7.length := OwnE.qlen hL24
    subst hqq
    refine WK.sub (e' := [(4, .slice none 0 0), (5, .int .i64 0), (6, .slice a3 ((y_1).length) c4), (9, .slice a25 ((l_7).length) c27)]) ⟨rfl, rfl, rfl, rfl, trivial⟩ (WK.cls (C' := St w0 m m8 [L6, L24]) (fun _ h => h) ?_)
    refine WK_seq ?_
    refine WK_draw 11 [0, 1, 2, 3, 4, 5, 6, 7, 8, 9, 10] follows_ok (by kernel_rfl) St_closed ?_
    refine WO_pure tbok 2 [(4, .slice none 0 0), (5, .int .i64 0), (9, .slice a25 ((l_7).length) c27), (57, .slice a25 ((l_7).length) c27), (58, .slice a3 ((y_1).length) c4)] rfl ⟨rfl, rfl, rfl, rfl, rfl, trivial⟩ ?_
    obtain ⟨v_8, hy37, hm⟩ := bind_some hm
    obtain ⟨hc38, hy37⟩ := ix_some hy37
    refine WO_index tbok rfl rfl rfl rfl rfl rfl rfl rfl (SlR.addr h10) hc38 ?_
    refine WO_loadR tbok rfl rfl rfl rfl (fun _ h => St.sat h) h10 hy37 rfl rfl (fun a39 c40 h41 => ?_)
    refine WO_pure tbok 1 [(4, .slice none 0 0), (5, .int .i64 0), (57, .slice a25 ((l_7).length) c27), (60, .slice a39 ((v_8).length) c40), (61, .slice a25 ((l_7).length) c27)] rfl ⟨rfl, rfl, rfl, rfl, rfl, trivial⟩ ?_
    obtain ⟨v_9, hy43, hm⟩ := bind_some hm
    obtain ⟨hc44, hy43⟩ := ix_some hy43
    refine WO_index tbok rfl rfl rfl rfl rfl rfl rfl rfl (OwnE.addr hL24) (by simpa using hc44) ?_
    refine WO_loadO (E := (I1 .i64)) tbok (fun _ => rfl) 1 rfl rfl rfl rfl (fun _ h => h) hL24 rfl hy43 rfl ?_
    obtain ⟨v_10, hy45, hm⟩ := bind_some hm
    obtain ⟨hc46, hy45⟩ := ix_some hy45
    refine WO_index tbok rfl rfl rfl rfl rfl rfl rfl rfl (SlR.addr h41) hc46 ?_
    refine WO_loadE tbok rfl rfl rfl rfl (fun _ h => St.sat h) h41 hy45 rfl ?_
    refine WO_pure tbok 2 [(4, .slice a25 ((l_7).length) c27), (5, .int .i64 v_10)] rfl ⟨rfl, rfl, trivial⟩ ?_
    refine WO_tail ?_
    refine WO_end ?_
    cases hm
    exact WK_ret (ret_out (L := L24) (RLc_tmp rfl (RLc_tmp rfl RLc_nil)) (seg_sub 1 rfl) ⟨a25, _, c27, rfl, hL24⟩)
  · refine WK_block ?_
    refine WK_loop (S := List Int × Int × Int × Int) (G := Option Addr × Nat × Nat × List Ent) (fun s => seam_first_s1 y_1 s.1 s.2.1 s.2.2.1 s.2.2.2) (fun s g => [(4, .slice none 0 0), (5, .int .i64 0), (6, .slice a3 ((y_1).length) c4), (7, .int .i64 s.2.1), (8, .int .i64 s.2.2.1), (9, .slice g.1 g.2.1 g.2.2.1), (22, .slice a3 ((y_1).length) c4), (23, .int .i64 ((y_1).length : Int)), (24, .int .i64 s.2.2.2)]) (fun s g => St w0 m m8 [L6, g.2.2.2]) (fun s g => OwnE 3 1 (I1 .i64) (.slice g.1 g.2.1 g.2.2.1) s.1 g.2.2.2) FUEL (([] : List Int), 0, w64 (((v_2).length : Int) - 1), 0) (none, 0, 0, []) x28 hx29 (OwnE.nil (T := 3) (k := 1) (E := (I1 .i64)) none) ⟨rfl, rfl, rfl, rfl, rfl, rfl, rfl, rfl, rfl, trivial⟩ (fun _ h => h) ?_
    rintro ⟨l_3, s_4, s_5, s_6⟩ ⟨a20, q21, c22, L19⟩ o32 fl33 hm31 hL19 hn34 hd35
    have hm31 : seam_first_s1 y_1 l_3 s_4 s_5 s_6 = some o32 := hm31
    unfold seam_first_s1 at hm31
    have hqq : q21 = l_3.length := OwnE.qlen hL19
    subst hqq
    refine WK.sub (e' := [(4, .slice none 0 0), (5, .int .i64 0), (6, .slice a3 ((y_1).length) c4), (7, .int .i64 s_4), (8, .int .i64 s_5), (9, .slice a20 ((l_3).length) c22), (22, .slice a3 ((y_1).length) c4), (23, .int .i64 ((y_1).length : Int)), (24, .int .i64 s_6)]) ⟨rfl, rfl, rfl, rfl, rfl, rfl, rfl, rfl, rfl, trivial⟩ (WK.cls (C' := St w0 m m8 [L6, L19]) (fun _ h => h) ?_)
    refine WK_seq ?_
    refine WK_region ?_
    refine WO_pure tbok 1 [(4, .slice none 0 0), (5, .int .i64 0), (6, .slice a3 ((y_1).length) c4), (7, .int .i64 s_4), (8, .int .i64 s_5), (9, .slice a20 ((l_3).length) c22), (22, .slice a3 ((y_1).length) c4), (23, .int .i64 ((y_1).length : Int)), (24, .int .i64 s_6), (25, .bool (decide (s_6 < ((y_1).length : Int))))] rfl ⟨rfl, rfl, rfl, rfl, rfl, rfl, rfl, rfl, rfl, rfl, trivial⟩ ?_
    refine WO_end ?_
    refine WK_seq ?_
    refine WK_cond (b := decide (s_6 < ((y_1).length : Int))) rfl (fun hb47 => ?_) (fun hb47 => ?_)
    · have hm31 := ifT hb47 hm31
      refine WK_skip ?_
      refine WK_seq ?_
      refine WK_block ?_
      refine WK_seq ?_
      refine WK_region ?_
      obtain ⟨v_11, hy48, hm31⟩ := bind_some hm31
      obtain ⟨hc49, hy48⟩ := ix_some hy48
      refine WO_index tbok rfl rfl rfl rfl rfl rfl rfl rfl (SlR.addr h10) hc49 ?_
      refine WO_loadR tbok rfl rfl rfl rfl (fun _ h => St.sat h) h10 hy48 rfl rfl (fun a50 c51 h52 => ?_)
      refine WO_pure tbok 1 [(4, .slice none 0 0), (5, .int .i64 0), (6, .slice a3 ((y_1).length) c4), (7, .int .i64 s_4), (8, .int .i64 s_5), (9, .slice a20 ((l_3).length) c22), (11, .slice a50 ((v_11).length) c51), (22, .slice a3 ((y_1).length) c4), (23, .int .i64 ((y_1).length : Int)), (24, .int .i64 s_6)] rfl ⟨rfl, rfl, rfl, rfl, rfl, rfl, rfl, rfl, rfl, rfl, trivial⟩ ?_
      refine WO_end ?_
      refine WK_seq ?_
      refine WK_region ?_
      refine WO_pure tbok 2 [(4, .slice none 0 0), (5, .int .i64 0), (6, .slice a3 ((y_1).length) c4), (7, .int .i64 s_4), (8, .int .i64 s_5), (9, .slice a20 ((l_3).length) c22), (11, .slice a50 ((v_11).length) c51), (12, .int .i64 s_4), (22, .slice a3 ((y_1).length) c4), (23, .int .i64 ((y_1).length : Int)), (24, .int .i64 s_6)] rfl ⟨rfl, rfl, rfl, rfl, rfl, rfl, rfl, rfl, rfl, rfl, rfl, trivial⟩ ?_
      refine WO_end ?_
      refine WK_seq ?_
      refine WK_seq ?_
      refine WK_region ?_
      refine WO_pure tbok 2 [(4, .slice none 0 0), (5, .int .i64 0), (6, .slice a3 ((y_1).length) c4), (7, .int .i64 s_4), (8, .int .i64 s_5), (9, .slice a20 ((l_3).length) c22), (11, .slice a50 ((v_11).length) c51), (12, .int .i64 s_4), (13, .int .i64 s_4), (22, .slice a3 ((y_1).length) c4), (23, .int .i64 ((y_1).length : Int)), (24, .int .i64 s_6)] rfl ⟨rfl, rfl, rfl, rfl, rfl, rfl, rfl, rfl, rfl, rfl, rfl, rfl, trivial⟩ ?_
      refine WO_end ?_
      obtain ⟨x54, hx55, hm31⟩ := bind_some hm31
      refine WK_join (β := Int × Unit) (fun p => p.1 = x54) (fun p => [(4, .slice none 0 0), (5, .int .i64 0), (6, .slice a3 ((y_1).length) c4), (7, .int .i64 s_4), (8, .int .i64 s_5), (9, .slice a20 ((l_3).length) c22), (11, .slice a50 ((v_11).length) c51), (12, .int .i64 p.1), (22, .slice a3 ((y_1).length) c4), (23, .int .i64 ((y_1).length : Int)), (24, .int .i64 s_6)]) (fun p => St w0 m m8 [L6, L19]) ?_ (fun hk56 => ?_)
      · rintro ⟨s_14, ⟨⟩⟩ hq62
        subst hq62
        refine WK.sub (e' := [(4, .slice none 0 0), (5, .int .i64 0), (6, .slice a3 ((y_1).length) c4), (7, .int .i64 s_4), (8, .int .i64 s_5), (9, .slice a20 ((l_3).length) c22), (11, .slice a50 ((v_11).length) c51), (12, .int .i64 s_14), (22, .slice a3 ((y_1).length) c4), (23, .int .i64 ((y_1).length : Int)), (24, .int .i64 s_6)]) ⟨rfl, rfl, rfl, rfl, rfl, rfl, rfl, rfl, rfl, rfl, rfl, trivial⟩ (WK.cls (C' := St w0 m m8 [L6, L19]) (fun _ h => h) ?_)
        refine WK_seq ?_
        refine WK_region ?_
        refine WO_pure tbok 2 [(4, .slice none 0 0), (5, .int .i64 0), (6, .slice a3 ((y_1).length) c4), (7, .int .i64 s_4), (8, .int .i64 s_5), (9, .slice a20 ((l_3).length) c22), (11, .slice a50 ((v_11).length) c51), (12, .int .i64 s_14), (22, .slice a3 ((y_1).length) c4), (23, .int .i64 ((y_1).length : Int)), (24, .int .i64 s_6), (45, .slice a20 ((l_3).length) c22), (46, .int .i64 s_14)] rfl ⟨rfl, rfl, rfl, rfl, rfl, rfl, rfl, rfl, rfl, rfl, rfl, rfl, rfl, trivial⟩ ?_
        refine WO_bslice (E := (I1 .i64)) tbok (fun _ => rfl) (by decide) [.int .i64 s_14] ([s_14] : List Int) rfl rfl trivial rfl rfl rfl rfl rfl rfl rfl rfl rfl rfl rfl rfl (fun b63 hb63 => ?_)
        refine WO.cls (C' := St w0 m m8 [L6, L19, [⟨b63, 3, ([s_14] : List Int).flatMap (I1 .i64)⟩]]) (fun _ h => h) ?_
        obtain ⟨hc65, hm31⟩ := chk_some hm31
        refine WO_append (E := (I1 .i64)) tbok (fun _ => rfl) 1 ([s_14] : List Int) (fun _ _ => rfl) rfl rfl rfl rfl rfl rfl rfl rfl rfl rfl rfl rfl hL19 rfl (src_seg (j := 2) rfl) (ap_ok (by decide) hc65) (ap_max hc65) (fun a66 c67 L68 hL68 => ?_)
        refine WO.cls (C' := St w0 m m8 [L6, L68, [⟨b63, 3, ([s_14] : List Int).flatMap (I1 .i64)⟩]]) (fun _ h => h) ?_
        refine WO_pure tbok 1 [(4, .slice none 0 0), (5, .int .i64 0), (6, .slice a3 ((y_1).length) c4), (7, .int .i64 s_4), (8, .int .i64 s_5), (9, .slice a66 ((l_3 ++ ([s_14] : List Int)).length) c67), (11, .slice a50 ((v_11).length) c51), (12, .int .i64 s_14), (22, .slice a3 ((y_1).length) c4), (23, .int .i64 ((y_1).length : Int)), (24, .int .i64 s_6)] rfl ⟨rfl, rfl, rfl, rfl, rfl, rfl, rfl, rfl, rfl, rfl, rfl, trivial⟩ ?_
        refine WO_end ?_
        refine WK_region ?_
        refine WO_pure tbok 3 [(4, .slice none 0 0), (5, .int .i64 0), (6, .slice a3 ((y_1).length) c4), (7, .int .i64 s_4), (8, .int .i64 s_5), (9, .slice a66 ((l_3 ++ ([s_14] : List Int)).length) c67), (22, .slice a3 ((y_1).length) c4), (23, .int .i64 ((y_1).length : Int)), (24, .int .i64 s_6), (50, .int .i64 s_14), (52, .int .i64 ((v_11).length : Int))] rfl ⟨rfl, rfl, rfl, rfl, rfl, rfl, rfl, rfl, rfl, rfl, rfl, trivial⟩ ?_
        obtain ⟨⟨y_15, y_16⟩, hc70, hm31⟩ := bind_some hm31
        refine WO_call0 (.tuple #[.int .i64 y_15, .int .i64 y_16]) rfl rfl trivial rfl rfl rfl rfl St_closed ⟨68, #[], #[], rfl, callable_68, fun w hw => ⟨_, hw.sat, seam_near_walk hc70⟩⟩ ?_
        refine WO_pure tbok 5 [(4, .slice none 0 0), (5, .int .i64 0), (6, .slice a3 ((y_1).length) c4), (7, .int .i64 y_15), (8, .int .i64 y_16), (9, .slice a66 ((l_3 ++ ([s_14] : List Int)).length) c67), (22, .slice a3 ((y_1).length) c4), (23, .int .i64 ((y_1).length : Int)), (24, .int .i64 s_6)] rfl ⟨rfl, rfl, rfl, rfl, rfl, rfl, rfl, rfl, rfl, trivial⟩ ?_
        refine WO_end ?_
        refine WK_blk ?_
        refine WK_region ?_
        refine WO_pure tbok 2 [(4, .slice none 0 0), (5, .int .i64 0), (6, .slice a3 ((y_1).length) c4), (7, .int .i64 y_15), (8, .int .i64 y_16), (9, .slice a66 ((l_3 ++ ([s_14] : List Int)).length) c67), (22, .slice a3 ((y_1).length) c4), (23, .int .i64 ((y_1).length : Int)), (24, .int .i64 (w64 (s_6 + 1)))] rfl ⟨rfl, rfl, rfl, rfl, rfl, rfl, rfl, rfl, rfl, trivial⟩ ?_
        refine WO_end ?_
        cases hm31
        refine WK.sub ?_ (WK.cls (fun _ h => St.take 2 h) (hn34 _ (a66, (l_3 ++ ([s_14] : List Int)).length, c67, L68) rfl hL68))
        exact ⟨rfl, rfl, rfl, rfl, rfl, rfl, rfl, rfl, rfl, trivial⟩
      · refine WK_block ?_
        refine WK_loop (S := Int × Int) (G := Unit) (fun s => seam_first_s2 s_5 v_11 s.1 s.2) (fun s g => [(4, .slice none 0 0), (5, .int .i64 0), (6, .slice a3 ((y_1).length) c4), (7, .int .i64 s_4), (8, .int .i64 s_5), (9, .slice a20 ((l_3).length) c22), (11, .slice a50 ((v_11).length) c51), (12, .int .i64 s.2), (13, .int .i64 s.1), (22, .slice a3 ((y_1).length) c4), (23, .int .i64 ((y_1).length : Int)), (24, .int .i64 s_6)]) (fun s g => St w0 m m8 [L6, L19]) (fun s g => True) FUEL (s_4, s_4) () x54 hx55 trivial ⟨rfl, rfl, rfl, rfl, rfl, rfl, rfl, rfl, rfl, rfl, rfl, rfl, trivial⟩ (fun _ h => h) ?_
        rintro ⟨s_12, s_13⟩ ⟨⟩ o58 fl59 hm57 - hn60 hd61
        have hm57 : seam_first_s2 s_5 v_11 s_12 s_13 = some o58 := hm57
        unfold seam_first_s2 at hm57
        refine WK.sub (e' := [(4, .slice none 0 0), (5, .int .i64 0), (6, .slice a3 ((y_1).length) c4), (7, .int .i64 s_4), (8, .int .i64 s_5), (9, .slice a20 ((l_3).length) c22), (11, .slice a50 ((v_11).length) c51), (12, .int .i64 s_13), (13, .int .i64 s_12), (22, .slice a3 ((y_1).length) c4), (23, .int .i64 ((y_1).length : Int)), (24, .int .i64 s_6)]) ⟨rfl, rfl, rfl, rfl, rfl, rfl, rfl, rfl, rfl, rfl, rfl, rfl, trivial⟩ (WK.cls (C' := St w0 m m8 [L6, L19]) (fun _ h => h) ?_)
        refine WK_seq ?_
        refine WK_seq ?_
        refine WK_region ?_
        refine WO_pure tbok 3 [(4, .slice none 0 0), (5, .int .i64 0), (6, .slice a3 ((y_1).length) c4), (7, .int .i64 s_4), (8, .int .i64 s_5), (9, .slice a20 ((l_3).length) c22), (11, .slice a50 ((v_11).length) c51), (12, .int .i64 s_13), (13, .int .i64 s_12), (22, .slice a3 ((y_1).length) c4), (23, .int .i64 ((y_1).length : Int)), (24, .int .i64 s_6), (32, .bool (decide (s_12 ≤ s_5)))] rfl ⟨rfl, rfl, rfl, rfl, rfl, rfl, rfl, rfl, rfl, rfl, rfl, rfl, rfl, trivial⟩ ?_
        refine WO_end ?_
        refine WK_cond (b := decide (s_12 ≤ s_5)) rfl (fun hb71 => ?_) (fun hb71 => ?_)
        · have hm57 := ifT hb71 hm57
          refine WK_skip ?_
          refine WK_seq ?_
          refine WK_block ?_
          refine WK_seq ?_
          refine WK_draw 9 [0, 1, 2, 3, 4, 5, 6, 7, 8] follows_ok (by kernel_rfl) St_closed ?_
          refine WO_pure tbok 2 [(4, .slice none 0 0), (5, .int .i64 0), (6, .slice a3 ((y_1).length) c4), (7, .int .i64 s_4), (8, .int .i64 s_5), (9, .slice a20 ((l_3).length) c22), (11, .slice a50 ((v_11).length) c51), (12, .int .i64 s_13), (13, .int .i64 s_12), (22, .slice a3 ((y_1).length) c4), (23, .int .i64 ((y_1).length : Int)), (24, .int .i64 s_6), (35, .slice a50 ((v_11).length) c51), (36, .int .i64 s_12)] rfl ⟨rfl, rfl, rfl, rfl, rfl, rfl, rfl, rfl, rfl, rfl, rfl, rfl, rfl, rfl, trivial⟩ ?_
          obtain ⟨v_17, hy72, hm57⟩ := bind_some hm57
          obtain ⟨hc73, hy72⟩ := ix_some hy72
          refine WO_index tbok rfl rfl rfl rfl rfl rfl rfl rfl (SlR.addr h52) hc73 ?_
          refine WO_loadE tbok rfl rfl rfl rfl (fun _ h => St.sat h) h52 hy72 rfl ?_
          refine WO_pure tbok 2 [(4, .slice none 0 0), (5, .int .i64 0), (6, .slice a3 ((y_1).length) c4), (7, .int .i64 s_4), (8, .int .i64 s_5), (9, .slice a20 ((l_3).length) c22), (11, .slice a50 ((v_11).length) c51), (12, .int .i64 s_13), (13, .int .i64 s_12), (22, .slice a3 ((y_1).length) c4), (23, .int .i64 ((y_1).length : Int)), (24, .int .i64 s_6), (38, .int .i64 v_17), (39, .slice a50 ((v_11).length) c51), (40, .int .i64 s_13)] rfl ⟨rfl, rfl, rfl, rfl, rfl, rfl, rfl, rfl, rfl, rfl, rfl, rfl, rfl, rfl, rfl, trivial⟩ ?_
          obtain ⟨v_18, hy74, hm57⟩ := bind_some hm57
          obtain ⟨hc75, hy74⟩ := ix_some hy74
          refine WO_index tbok rfl rfl rfl rfl rfl rfl rfl rfl (SlR.addr h52) hc75 ?_
          refine WO_loadE tbok rfl rfl rfl rfl (fun _ h => St.sat h) h52 hy74 rfl ?_
          refine WO_pure tbok 1 [(4, .slice none 0 0), (5, .int .i64 0), (6, .slice a3 ((y_1).length) c4), (7, .int .i64 s_4), (8, .int .i64 s_5), (9, .slice a20 ((l_3).length) c22), (11, .slice a50 ((v_11).length) c51), (12, .int .i64 s_13), (13, .int .i64 s_12), (22, .slice a3 ((y_1).length) c4), (23, .int .i64 ((y_1).length : Int)), (24, .int .i64 s_6), (43, .bool (decide (v_17 < v_18)))] rfl ⟨rfl, rfl, rfl, rfl, rfl, rfl, rfl, rfl, rfl, rfl, rfl, rfl, rfl, trivial⟩ ?_
          refine WO_tail ?_
          refine WO_end ?_
          obtain ⟨s_19, hx76, hm57⟩ := bind_some hm57
          refine WK_meet [(4, .slice none 0 0), (5, .int .i64 0), (6, .slice a3 ((y_1).length) c4), (7, .int .i64 s_4), (8, .int .i64 s_5), (9, .slice a20 ((l_3).length) c22), (11, .slice a50 ((v_11).length) c51), (12, .int .i64 s_19), (13, .int .i64 s_12), (22, .slice a3 ((y_1).length) c4), (23, .int .i64 ((y_1).length : Int)), (24, .int .i64 s_6)] (St w0 m m8 [L6, L19]) ?_ (fun hk77 => ?_)
          · refine WK_blk ?_
            refine WK_region ?_
            refine WO_pure tbok 3 [(4, .slice none 0 0), (5, .int .i64 0), (6, .slice a3 ((y_1).length) c4), (7, .int .i64 s_4), (8, .int .i64 s_5), (9, .slice a20 ((l_3).length) c22), (11, .slice a50 ((v_11).length) c51), (12, .int .i64 s_19), (13, .int .i64 (w64 (s_12 + 1))), (22, .slice a3 ((y_1).length) c4), (23, .int .i64 ((y_1).length : Int)), (24, .int .i64 s_6)] rfl ⟨rfl, rfl, rfl, rfl, rfl, rfl, rfl, rfl, rfl, rfl, rfl, rfl, trivial⟩ ?_
            refine WO_end ?_
            cases hm57
            refine WK.sub ?_ (WK.cls (fun _ h => h) (hn60 _ () rfl trivial))
            exact ⟨rfl, rfl, rfl, rfl, rfl, rfl, rfl, rfl, rfl, rfl, rfl, rfl, trivial⟩
          · refine WK_cond (b := decide (v_17 < v_18)) rfl (fun hb78 => ?_) (fun hb78 => ?_)
            · have hx76 := ifT hb78 hx76
              refine WK_region ?_
              refine WO_pure tbok 2 [(4, .slice none 0 0), (5, .int .i64 0), (6, .slice a3 ((y_1).length) c4), (7, .int .i64 s_4), (8, .int .i64 s_5), (9, .slice a20 ((l_3).length) c22), (11, .slice a50 ((v_11).length) c51), (12, .int .i64 s_12), (13, .int .i64 s_12), (22, .slice a3 ((y_1).length) c4), (23, .int .i64 ((y_1).length : Int)), (24, .int .i64 s_6)] rfl ⟨rfl, rfl, rfl, rfl, rfl, rfl, rfl, rfl, rfl, rfl, rfl, rfl, trivial⟩ ?_
              refine WO_end ?_
              cases hx76
              refine WK.sub ?_ (WK.cls (fun _ h => h) hk77)
              exact ⟨rfl, rfl, rfl, rfl, rfl, rfl, rfl, rfl, rfl, rfl, rfl, rfl, trivial⟩
            · have hx76 := ifF hb78 hx76
              refine WK_skip ?_
              cases hx76
              refine WK.sub ?_ (WK.cls (fun _ h => h) hk77)
              exact ⟨rfl, rfl, rfl, rfl, rfl, rfl, rfl, rfl, rfl, rfl, rfl, rfl, trivial⟩
        · have hm57 := ifF hb71 hm57
          refine WK_exit rfl ?_
          cases hm57
          refine WK.sub ?_ (WK.cls (fun _ h => h) (hk56 (s_13, ()) (hd61 _ rfl)))
          exact ⟨rfl, rfl, rfl, rfl, rfl, rfl, rfl, rfl, rfl, rfl, rfl, trivial⟩
    · have hm31 := ifF hb47 hm31
      refine WK_exit rfl ?_
      cases hm31
      refine WK.sub ?_ (WK.cls (fun _ h => h) (hk30 (l_3, (a20, _, c22, L19)) ⟨(hd35 _ rfl), hL19⟩))
      exact ⟨rfl, rfl, rfl, rfl, trivial⟩
theorem seam_Find_c1_walk {m : Mu} {p0 : Int} {p1 : Int}   {r : Bool} (hm : seam_Find_c1 p0 p1 = some r) :
    Go.E.Spec Try.prog 38 [.int .i64 p0, .int .i64 p1] m (fun v _ _ => v = .bool r) := by
  refine Spec_enter Try.func38 rfl rfl rfl (fun w0 => ?_)
  refine WK.sub (e' := []) trivial ?_
  refine WK.sub (e' := []) trivial ?_
  unfold seam_Find_c1 at hm
  refine WK_seq ?_
  refine WK_region ?_
  refine WO_pure tbok 1 [(4, .bool false)] rfl ⟨rfl, trivial⟩ ?_
  refine WO_end ?_
  refine WK_seq ?_
  refine WK_region ?_
  refine WO_pure tbok 1 [(4, .bool true)] rfl ⟨rfl, trivial⟩ ?_
  refine WO_end ?_
  cases hm
  exact WK_ret (ret_out (L := []) (RLc_tmp rfl RLc_nil) (List.nil_sublist _) rfl)
def seam_downward_Q (r : List (List Int)) : Value → Mu → List Ent → Prop := fun v m L => ∃ (a0 : Option Addr) (q0 c0 : Nat), v = .slice a0 q0 c0 ∧ SlR (RowE (FE (I1 .i64)) 1) 1 m (.slice a0 q0 c0) r
theorem seam_downward_walk {m : Mu} {p0 : List (List Int)} {a_p0 : Option Addr} {q_p0 c_p0 : Nat} (h_p0 : SlR (RowE (FE (I1 .i64)) 1) 1 m (.slice a_p0 q_p0 c_p0) p0) {r : List (List Int)} (hm : seam_downward p0 = some r) :
    Go.E.Spec Try.prog 39 [.slice a_p0 q_p0 c_p0] m (seam_downward_Q r) := by
  refine Spec_enter Try.func39 rfl rfl rfl (fun w0 => ?_)
  refine WK.sub (e' := [(0, .slice a_p0 q_p0 c_p0)]) ⟨rfl, trivial⟩ ?_
  obtain rfl := SlR.qlen h_p0
  refine WK.sub (e' := [(0, .slice a_p0 p0.length c_p0)]) ⟨rfl, trivial⟩ ?_
  unfold seam_downward at hm
  refine WK_seq ?_
  refine WK_region ?_
  refine WO_pure tbok 1 [(0, .slice a_p0 p0.length c_p0), (2, .slice none 0 0)] rfl ⟨rfl, rfl, trivial⟩ ?_
  refine WO_end ?_
  refine WK_seq ?_
  refine WK_region ?_
  refine WO_pure tbok 1 [(0, .slice a_p0 p0.length c_p0), (2, .slice none 0 0), (10, .slice a_p0 p0.length c_p0)] rfl ⟨rfl, rfl, rfl, trivial⟩ ?_
  obtain ⟨v_1, hy2, hm⟩ := bind_some hm
  obtain ⟨hc3, hy2⟩ := ix_some hy2
  refine WO_index tbok rfl rfl rfl rfl rfl rfl rfl rfl (SlR.addr h_p0) hc3 ?_
  refine WO_loadR tbok rfl rfl rfl rfl (fun _ h => St.sat h) h_p0 hy2 rfl rfl (fun a4 c5 h6 => ?_)
  obtain ⟨y_2, hc8, hm⟩ := bind_some hm
  refine WO_call1 (slices_Clone_sint_Q y_2) rfl rfl trivial rfl rfl rfl rfl ⟨42, #[], #[], rfl, callable_42, fun w hw => ⟨_, hw.sat, slices_Clone_sint_walk h6 hc8⟩⟩ (fun v13 L12 hq => ?_)
  obtain ⟨a9, qa9, c10, rfl, hL12⟩ := hq
  obtain rfl := OwnE.qlen hL12
  refine WO.cls (C' := St w0 m m [L12]) (fun _ h => h) ?_
  refine WO_freeze 0 rfl (fun m15 hle16 hmm17 => ?_)
  refine WO.cls (C' := St w0 m m15 [[]]) (fun _ h => h) ?_
  refine WO_bsliceX (E := V1) (El := (RowE (FE (I1 .i64)) 1)) tbok (fun _ => rfl) (by decide) [.slice a9 ((y_2).length) c10] [.slice a9 ((y_2).length) c10] ([y_2] : List (List Int)) rfl rfl trivial rfl rfl rfl rfl rfl rfl rfl rfl rfl rfl rfl rfl ⟨⟨_, rfl, (OwnE.rd (E := (I1 .i64)) (k := 1) (fun _ => rfl) hL12 hmm17)⟩, trivial⟩ (fun b14 hb14 => ?_)
  refine WO.cls (C' := St w0 m m15 [[], [⟨b14, 22, [.slice a9 ((y_2).length) c10]⟩]]) (fun _ h => h) ?_
  refine WO_pure tbok 1 [(0, .slice a_p0 p0.length c_p0), (2, .slice none 0 0), (3, .slice (some ⟨b14, 0, none⟩) 1 1)] rfl ⟨rfl, rfl, rfl, trivial⟩ ?_
  refine WO_end ?_
  refine WK_seq ?_
  refine WK_seq ?_
  refine WK_region ?_
  refine WO_pure tbok 1 [(0, .slice a_p0 p0.length c_p0), (2, .slice none 0 0), (3, .slice (some ⟨b14, 0, none⟩) 1 1), (4, .int .i64 1)] rfl ⟨rfl, rfl, rfl, rfl, trivial⟩ ?_
  refine WO_end ?_
  obtain ⟨x33, hx34, hm⟩ := bind_some hm
  refine WK_join (β := (List (List Int)) × (Mu × Option Addr × Nat × Nat × List Ent)) (fun p => p.1 = x33 ∧ Le m15 p.2.1 ∧ OwnX 22 1 V1 (RowE (FE (I1 .i64)) 1) p.2.1 (.slice p.2.2.1 p.2.2.2.1 p.2.2.2.2.1) p.1 p.2.2.2.2.2) (fun p => [(2, .slice none 0 0), (3, .slice p.2.2.1 p.2.2.2.1 p.2.2.2.2.1)]) (fun p => St w0 m p.2.1 [[], p.2.2.2.2.2]) ?_ (fun hk35 => ?_)
  · rintro ⟨l_5, ⟨m26, a30, q31, c32, L29⟩⟩ ⟨hq41, hle27, hL29⟩
    subst hq41
    have hqq : q31 = l_5.length := OwnX.qlen hL29
    subst hqq
    refine WK.sub (e' := [(2, .slice none 0 0), (3, .slice a30 ((l_5).length) c32)]) ⟨rfl, rfl, trivial⟩ (WK.cls (C' := St w0 m m26 [[], L29]) (fun _ h => h) ?_)
    refine WK_seq ?_
    refine WK_region ?_
    refine WO_pure tbok 2 [(2, .slice a30 ((l_5).length) c32)] rfl ⟨rfl, trivial⟩ ?_
    refine WO_end ?_
    cases hm
    refine WK_freeze 1 rfl (fun m42 hle43 hmm44 => ?_)
    refine WK.cls (C' := St w0 m m42 [[], []]) (fun _ h => h) ?_
    exact WK_ret (ret_out (L := []) (RLc_tmp rfl RLc_nil) (List.nil_sublist _) ⟨a30, _, c32, rfl, (OwnX.rd (E := V1) (k := 1) (fun _ => rfl) hL29 (mono_RowE (mono_FE _) _) hle43 hmm44)⟩)
  · refine WK_block ?_
    refine WK_loop (S := List (List Int) × Int) (G := Mu × Option Addr × Nat × Nat × List Ent) (fun s => seam_downward_s1 p0 s.1 s.2) (fun s g => [(0, .slice a_p0 p0.length c_p0), (2, .slice none 0 0), (3, .slice g.2.1 g.2.2.1 g.2.2.2.1), (4, .int .i64 s.2)]) (fun s g => St w0 m g.1 [[], g.2.2.2.2]) (fun s g => Le m15 g.1 ∧ OwnX 22 1 V1 (RowE (FE (I1 .i64)) 1) g.1 (.slice g.2.1 g.2.2.1 g.2.2.2.1) s.1 g.2.2.2.2) FUEL (([y_2] : List (List Int)), 1) (m15, some ⟨b14, 0, none⟩, 1, 1, [⟨b14, 22, [.slice a9 ((y_2).length) c10]⟩]) x33 hx34 ⟨(Le.refl _), hb14⟩ ⟨rfl, rfl, rfl, rfl, trivial⟩ (fun _ h => h) ?_
    rintro ⟨l_3, s_4⟩ ⟨m19, a23, q24, c25, L22⟩ o37 fl38 hm36 ⟨hle20, hL22⟩ hn39 hd40
    have hm36 : seam_downward_s1 p0 l_3 s_4 = some o37 := hm36
    unfold seam_downward_s1 at hm36
    have hqq : q24 = l_3.length := OwnX.qlen hL22
    subst hqq
    refine WK.sub (e' := [(0, .slice a_p0 p0.length c_p0), (2, .slice none 0 0), (3, .slice a23 ((l_3).length) c25), (4, .int .i64 s_4)]) ⟨rfl, rfl, rfl, rfl, trivial⟩ (WK.cls (C' := St w0 m m19 [[], L22]) (fun _ h => h) ?_)
    refine WK_seq ?_
    refine WK_seq ?_
    refine WK_region ?_
    refine WO_pure tbok 4 [(0, .slice a_p0 p0.length c_p0), (2, .slice none 0 0), (3, .slice a23 ((l_3).length) c25), (4, .int .i64 s_4), (18, .bool (decide (s_4 < (p0.length : Int))))] rfl ⟨rfl, rfl, rfl, rfl, rfl, trivial⟩ ?_
    refine WO_end ?_
    refine WK_cond (b := decide (s_4 < (p0.length : Int))) rfl (fun hb45 => ?_) (fun hb45 => ?_)
    · have hm36 := ifT hb45 hm36
      refine WK_skip ?_
      refine WK_seq ?_
      refine WK_block ?_
      refine WK_seq ?_
      refine WK_region ?_
      refine WO_pure tbok 2 [(0, .slice a_p0 p0.length c_p0), (2, .slice none 0 0), (3, .slice a23 ((l_3).length) c25), (4, .int .i64 s_4), (21, .slice a_p0 p0.length c_p0), (22, .int .i64 s_4)] rfl ⟨rfl, rfl, rfl, rfl, rfl, rfl, trivial⟩ ?_
      obtain ⟨v_6, hy46, hm36⟩ := bind_some hm36
      obtain ⟨hc47, hy46⟩ := ix_some hy46
      refine WO_index tbok rfl rfl rfl rfl rfl rfl rfl rfl (SlR.addr ((h_p0.mono (mono_RowE (mono_FE _) _) hle16).mono (mono_RowE (mono_FE _) _) hle20)) hc47 ?_
      refine WO_loadR tbok rfl rfl rfl rfl (fun _ h => St.sat h) ((h_p0.mono (mono_RowE (mono_FE _) _) hle16).mono (mono_RowE (mono_FE _) _) hle20) hy46 rfl rfl (fun a48 c49 h50 => ?_)
      refine WO_pure tbok 1 [(0, .slice a_p0 p0.length c_p0), (2, .slice none 0 0), (3, .slice a23 ((l_3).length) c25), (4, .int .i64 s_4), (25, .int .i64 ((v_6).length : Int))] rfl ⟨rfl, rfl, rfl, rfl, rfl, trivial⟩ ?_
      obtain ⟨hc52, hm36⟩ := chk_some hm36
      refine WO_make (E := (I1 .i64)) tbok (fun _ => rfl) (by decide) (0 : Int) rfl rfl trivial rfl rfl rfl rfl rfl rfl rfl rfl rfl (mk_ok (by decide) hc52) (fun b53 c54 L55 hL55 => ?_)
      refine WO.cls (C' := St w0 m m19 [[], L22, L55]) (fun _ h => h) ?_
      refine WO_pure tbok 1 [(0, .slice a_p0 p0.length c_p0), (2, .slice none 0 0), (3, .slice a23 ((l_3).length) c25), (4, .int .i64 s_4), (5, .slice (some ⟨b53, 0, none⟩) (([] : List Int).length) c54)] rfl ⟨rfl, rfl, rfl, rfl, rfl, trivial⟩ ?_
      refine WO_end ?_
      refine WK_seq ?_
      refine WK_seq ?_
      refine WK_region ?_
      refine WO_pure tbok 2 [(0, .slice a_p0 p0.length c_p0), (2, .slice none 0 0), (3, .slice a23 ((l_3).length) c25), (4, .int .i64 s_4), (5, .slice (some ⟨b53, 0, none⟩) (([] : List Int).length) c54), (27, .slice a_p0 p0.length c_p0), (28, .int .i64 s_4)] rfl ⟨rfl, rfl, rfl, rfl, rfl, rfl, rfl, trivial⟩ ?_
      obtain ⟨v_7, hy57, hm36⟩ := bind_some hm36
      obtain ⟨hc58, hy57⟩ := ix_some hy57
      refine WO_index tbok rfl rfl rfl rfl rfl rfl rfl rfl (SlR.addr ((h_p0.mono (mono_RowE (mono_FE _) _) hle16).mono (mono_RowE (mono_FE _) _) hle20)) hc58 ?_
      refine WO_loadR tbok rfl rfl rfl rfl (fun _ h => St.sat h) ((h_p0.mono (mono_RowE (mono_FE _) _) hle16).mono (mono_RowE (mono_FE _) _) hle20) hy57 rfl rfl (fun a59 c60 h61 => ?_)
      refine WO_pure tbok 2 [(0, .slice a_p0 p0.length c_p0), (2, .slice none 0 0), (3, .slice a23 ((l_3).length) c25), (4, .int .i64 s_4), (5, .slice (some ⟨b53, 0, none⟩) (([] : List Int).length) c54), (30, .slice a59 ((v_7).length) c60), (31, .int .i64 ((v_7).length : Int)), (32, .int .i64 0)] rfl ⟨rfl, rfl, rfl, rfl, rfl, rfl, rfl, rfl, trivial⟩ ?_
      refine WO_end ?_
      obtain ⟨x73, hx74, hm36⟩ := bind_some hm36
      refine WK_join (β := (List Int) × (Option Addr × Nat × Nat × List Ent)) (fun p => p.1 = x73 ∧ OwnE 3 1 (I1 .i64) (.slice p.2.1 p.2.2.1 p.2.2.2.1) p.1 p.2.2.2.2) (fun p => [(0, .slice a_p0 p0.length c_p0), (2, .slice none 0 0), (3, .slice a23 ((l_3).length) c25), (4, .int .i64 s_4), (5, .slice p.2.1 p.2.2.1 p.2.2.2.1)]) (fun p => St w0 m m19 [[], L22, p.2.2.2.2]) ?_ (fun hk75 => ?_)
      · rintro ⟨l_10, ⟨a70, q71, c72, L69⟩⟩ ⟨hq81, hL69⟩
        subst hq81
        have hqq : q71 = l_10.length := OwnE.qlen hL69
        subst hqq
        refine WK.sub (e' := [(0, .slice a_p0 p0.length c_p0), (2, .slice none 0 0), (3, .slice a23 ((l_3).length) c25), (4, .int .i64 s_4), (5, .slice a70 ((l_10).length) c72)]) ⟨rfl, rfl, rfl, rfl, rfl, trivial⟩ (WK.cls (C' := St w0 m m19 [[], L22, L69]) (fun _ h => h) ?_)
        refine WK_region ?_
        refine WO_pure tbok 2 [(0, .slice a_p0 p0.length c_p0), (2, .slice none 0 0), (3, .slice a23 ((l_3).length) c25), (4, .int .i64 s_4), (61, .slice a23 ((l_3).length) c25), (62, .slice a70 ((l_10).length) c72)] rfl ⟨rfl, rfl, rfl, rfl, rfl, rfl, trivial⟩ ?_
        refine WO_freeze 2 rfl (fun m83 hle84 hmm85 => ?_)
        refine WO.cls (C' := St w0 m m83 [[], L22, []]) (fun _ h => h) ?_
        refine WO_bsliceX (E := V1) (El := (RowE (FE (I1 .i64)) 1)) tbok (fun _ => rfl) (by decide) [.slice a70 ((l_10).length) c72] [.slice a70 ((l_10).length) c72] ([l_10] : List (List Int)) rfl rfl trivial rfl rfl rfl rfl rfl rfl rfl rfl rfl rfl rfl rfl ⟨⟨_, rfl, (OwnE.rd (E := (I1 .i64)) (k := 1) (fun _ => rfl) hL69 hmm85)⟩, trivial⟩ (fun b82 hb82 => ?_)
        refine WO.cls (C' := St w0 m m83 [[], L22, [], [⟨b82, 22, [.slice a70 ((l_10).length) c72]⟩]]) (fun _ h => h) ?_
        obtain ⟨hc87, hm36⟩ := chk_some hm36
        refine WO_appendX (E := V1) (El := (RowE (FE (I1 .i64)) 1)) tbok (fun _ => rfl) 1 [.slice a70 ((l_10).length) c72] ([l_10] : List (List Int)) (one_lit rfl) rfl rfl rfl rfl rfl rfl rfl rfl rfl rfl rfl rfl (hL22.mono (mono_RowE (mono_FE _) _) hle84) rfl (src_seg (j := 3) rfl) ⟨⟨_, rfl, (OwnE.rd (E := (I1 .i64)) (k := 1) (fun _ => rfl) hL69 hmm85)⟩, trivial⟩ (ap_ok (by decide) hc87) (ap_max hc87) (fun a88 c89 L90 hL90 => ?_)
        refine WO.cls (C' := St w0 m m83 [[], L90, [], [⟨b82, 22, [.slice a70 ((l_10).length) c72]⟩]]) (fun _ h => h) ?_
        refine WO_pure tbok 1 [(0, .slice a_p0 p0.length c_p0), (2, .slice none 0 0), (3, .slice a88 ((l_3 ++ ([l_10] : List (List Int))).length) c89), (4, .int .i64 s_4)] rfl ⟨rfl, rfl, rfl, rfl, trivial⟩ ?_
        refine WO_end ?_
        refine WK_blk ?_
        refine WK_region ?_
        refine WO_pure tbok 3 [(0, .slice a_p0 p0.length c_p0), (2, .slice none 0 0), (3, .slice a88 ((l_3 ++ ([l_10] : List (List Int))).length) c89), (4, .int .i64 (w64 (s_4 + 1)))] rfl ⟨rfl, rfl, rfl, rfl, trivial⟩ ?_
        refine WO_end ?_
        cases hm36
        refine WK.sub ?_ (WK.cls (fun _ h => St.take 2 h) (hn39 _ (m83, a88, (l_3 ++ ([l_10] : List (List Int))).length, c89, L90) rfl ⟨(hle20.trans hle84), hL90⟩))
        exact ⟨rfl, rfl, rfl, rfl, trivial⟩
      · refine WK_block ?_
        refine WK_loop (S := List Int × Int) (G := Option Addr × Nat × Nat × List Ent) (fun s => seam_downward_s2 p0 l_3 s_4 v_7 s.1 s.2) (fun s g => [(0, .slice a_p0 p0.length c_p0), (2, .slice none 0 0), (3, .slice a23 ((l_3).length) c25), (4, .int .i64 s_4), (5, .slice g.1 g.2.1 g.2.2.1), (30, .slice a59 ((v_7).length) c60), (31, .int .i64 ((v_7).length : Int)), (32, .int .i64 s.2)]) (fun s g => St w0 m m19 [[], L22, g.2.2.2]) (fun s g => OwnE 3 1 (I1 .i64) (.slice g.1 g.2.1 g.2.2.1) s.1 g.2.2.2) FUEL (([] : List Int), 0) (some ⟨b53, 0, none⟩, ([] : List Int).length, c54, L55) x73 hx74 hL55 ⟨rfl, rfl, rfl, rfl, rfl, rfl, rfl, rfl, trivial⟩ (fun _ h => h) ?_
        rintro ⟨l_8, s_9⟩ ⟨a65, q66, c67, L64⟩ o77 fl78 hm76 hL64 hn79 hd80
        have hm76 : seam_downward_s2 p0 l_3 s_4 v_7 l_8 s_9 = some o77 := hm76
        unfold seam_downward_s2 at hm76
        have hqq : q66 = l_8.length := OwnE.qlen hL64
        subst hqq
        refine WK.sub (e' := [(0, .slice a_p0 p0.length c_p0), (2, .slice none 0 0), (3, .slice a23 ((l_3).length) c25), (4, .int .i64 s_4), (5, .slice a65 ((l_8).length) c67), (30, .slice a59 ((v_7).length) c60), (31, .int .i64 ((v_7).length : Int)), (32, .int .i64 s_9)]) ⟨rfl, rfl, rfl, rfl, rfl, rfl, rfl, rfl, trivial⟩ (WK.cls (C' := St w0 m m19 [[], L22, L64]) (fun _ h => h) ?_)
        refine WK_seq ?_
        refine WK_region ?_
        refine WO_pure tbok 1 [(0, .slice a_p0 p0.length c_p0), (2, .slice none 0 0), (3, .slice a23 ((l_3).length) c25), (4, .int .i64 s_4), (5, .slice a65 ((l_8).length) c67), (30, .slice a59 ((v_7).length) c60), (31, .int .i64 ((v_7).length : Int)), (32, .int .i64 s_9), (33, .bool (decide (s_9 < ((v_7).length : Int))))] rfl ⟨rfl, rfl, rfl, rfl, rfl, rfl, rfl, rfl, rfl, trivial⟩ ?_
        refine WO_end ?_
        refine WK_seq ?_
        refine WK_cond (b := decide (s_9 < ((v_7).length : Int))) rfl (fun hb92 => ?_) (fun hb92 => ?_)
        · have hm76 := ifT hb92 hm76
          refine WK_skip ?_
          refine WK_seq ?_
          refine WK_block ?_
          refine WK_seq ?_
          refine WK_region ?_
          refine WO_pure tbok 1 [(0, .slice a_p0 p0.length c_p0), (2, .slice none 0 0), (3, .slice a23 ((l_3).length) c25), (4, .int .i64 s_4), (5, .slice a65 ((l_8).length) c67), (30, .slice a59 ((v_7).length) c60), (31, .int .i64 ((v_7).length : Int)), (32, .int .i64 s_9), (34, .int .i64 s_9)] rfl ⟨rfl, rfl, rfl, rfl, rfl, rfl, rfl, rfl, rfl, trivial⟩ ?_
          obtain ⟨v_11, hy93, hm76⟩ := bind_some hm76
          obtain ⟨hc94, hy93⟩ := ix_some hy93
          refine WO_index tbok rfl rfl rfl rfl rfl rfl rfl rfl (SlR.addr h61) hc94 ?_
          refine WO_loadE tbok rfl rfl rfl rfl (fun _ h => St.sat h) h61 hy93 rfl ?_
          refine WO_pure tbok 2 [(0, .slice a_p0 p0.length c_p0), (2, .slice none 0 0), (3, .slice a23 ((l_3).length) c25), (4, .int .i64 s_4), (5, .slice a65 ((l_8).length) c67), (6, .int .i64 s_9), (7, .int .i64 v_11), (30, .slice a59 ((v_7).length) c60), (31, .int .i64 ((v_7).length : Int)), (32, .int .i64 s_9)] rfl ⟨rfl, rfl, rfl, rfl, rfl, rfl, rfl, rfl, rfl, rfl, trivial⟩ ?_
          refine WO_end ?_
          refine WK_seq ?_
          refine WK_region ?_
          refine WO_pure tbok 3 [(0, .slice a_p0 p0.length c_p0), (2, .slice none 0 0), (3, .slice a23 ((l_3).length) c25), (4, .int .i64 s_4), (5, .slice a65 ((l_8).length) c67), (7, .int .i64 v_11), (30, .slice a59 ((v_7).length) c60), (31, .int .i64 ((v_7).length : Int)), (32, .int .i64 s_9), (38, .int .i64 s_9), (39, .slice a_p0 p0.length c_p0), (40, .int .i64 s_4)] rfl ⟨rfl, rfl, rfl, rfl, rfl, rfl, rfl, rfl, rfl, rfl, rfl, rfl, trivial⟩ ?_
          obtain ⟨v_12, hy95, hm76⟩ := bind_some hm76
          obtain ⟨hc96, hy95⟩ := ix_some hy95
          refine WO_index tbok rfl rfl rfl rfl rfl rfl rfl rfl (SlR.addr ((h_p0.mono (mono_RowE (mono_FE _) _) hle16).mono (mono_RowE (mono_FE _) _) hle20)) hc96 ?_
          refine WO_loadR tbok rfl rfl rfl rfl (fun _ h => St.sat h) ((h_p0.mono (mono_RowE (mono_FE _) _) hle16).mono (mono_RowE (mono_FE _) _) hle20) hy95 rfl rfl (fun a97 c98 h99 => ?_)
          refine WO_pure tbok 1 [(0, .slice a_p0 p0.length c_p0), (2, .slice none 0 0), (3, .slice a23 ((l_3).length) c25), (4, .int .i64 s_4), (5, .slice a65 ((l_8).length) c67), (7, .int .i64 v_11), (30, .slice a59 ((v_7).length) c60), (31, .int .i64 ((v_7).length : Int)), (32, .int .i64 s_9), (38, .int .i64 s_9), (43, .int .i64 ((v_12).length : Int))] rfl ⟨rfl, rfl, rfl, rfl, rfl, rfl, rfl, rfl, rfl, rfl, rfl, trivial⟩ ?_
          obtain ⟨⟨y_13, y_14⟩, hc101, hm76⟩ := bind_some hm76
          refine WO_call0 (.tuple #[.int .i64 y_13, .int .i64 y_14]) rfl rfl trivial rfl rfl rfl rfl St_closed ⟨68, #[], #[], rfl, callable_68, fun w hw => ⟨_, hw.sat, seam_near_walk hc101⟩⟩ ?_
          refine WO_pure tbok 5 [(0, .slice a_p0 p0.length c_p0), (2, .slice none 0 0), (3, .slice a23 ((l_3).length) c25), (4, .int .i64 s_4), (5, .slice a65 ((l_8).length) c67), (7, .int .i64 v_11), (8, .int .i64 y_13), (9, .int .i64 y_14), (30, .slice a59 ((v_7).length) c60), (31, .int .i64 ((v_7).length : Int)), (32, .int .i64 s_9)] rfl ⟨rfl, rfl, rfl, rfl, rfl, rfl, rfl, rfl, rfl, rfl, rfl, trivial⟩ ?_
          refine WO_end ?_
          refine WK_region ?_
          refine WO_pure tbok 5 [(0, .slice a_p0 p0.length c_p0), (2, .slice none 0 0), (3, .slice a23 ((l_3).length) c25), (4, .int .i64 s_4), (5, .slice a65 ((l_8).length) c67), (8, .int .i64 y_13), (9, .int .i64 y_14), (30, .slice a59 ((v_7).length) c60), (31, .int .i64 ((v_7).length : Int)), (32, .int .i64 s_9), (47, .slice a65 ((l_8).length) c67), (48, .int .i64 v_11), (49, .slice a23 ((l_3).length) c25), (51, .int .i64 (w64 (s_4 - 1)))] rfl ⟨rfl, rfl, rfl, rfl, rfl, rfl, rfl, rfl, rfl, rfl, rfl, rfl, rfl, rfl, trivial⟩ ?_
          obtain ⟨v_15, hy102, hm76⟩ := bind_some hm76
          obtain ⟨hc103, hy102⟩ := ix_some hy102
          refine WO_index tbok rfl rfl rfl rfl rfl rfl rfl rfl (OwnX.addr hL22) (by simpa using hc103) ?_
          refine WO_loadOX (E := V1) tbok (fun _ => rfl) 1 rfl rfl rfl rfl (fun _ h => h) hL22 rfl hy102 (fun cs hcs => ?_)
          obtain ⟨v0, rfl, h106⟩ := hcs
          obtain ⟨a104, c105, rfl, _⟩ := SlR.len h106
          refine ⟨_, rfl, ?_⟩
          refine WO_pure tbok 2 [(0, .slice a_p0 p0.length c_p0), (2, .slice none 0 0), (3, .slice a23 ((l_3).length) c25), (4, .int .i64 s_4), (5, .slice a65 ((l_8).length) c67), (30, .slice a59 ((v_7).length) c60), (31, .int .i64 ((v_7).length : Int)), (32, .int .i64 s_9), (47, .slice a65 ((l_8).length) c67), (48, .int .i64 v_11), (53, .slice a104 ((v_15).length) c105), (54, .int .i64 y_13), (55, .int .i64 y_14)] rfl ⟨rfl, rfl, rfl, rfl, rfl, rfl, rfl, rfl, rfl, rfl, rfl, rfl, rfl, trivial⟩ ?_
          obtain ⟨y_16, hc108, hm76⟩ := bind_some hm76
          refine WO_call0 (.int .i64 y_16) rfl rfl trivial rfl rfl rfl rfl St_closed ⟨69, #[], #[], rfl, callable_69, fun w hw => ⟨_, hw.sat, seam_least_walk h106 hc108⟩⟩ ?_
          refine WO_pure tbok 1 [(0, .slice a_p0 p0.length c_p0), (2, .slice none 0 0), (3, .slice a23 ((l_3).length) c25), (4, .int .i64 s_4), (5, .slice a65 ((l_8).length) c67), (30, .slice a59 ((v_7).length) c60), (31, .int .i64 ((v_7).length : Int)), (32, .int .i64 s_9), (47, .slice a65 ((l_8).length) c67), (57, .int .i64 (w64 (v_11 + y_16)))] rfl ⟨rfl, rfl, rfl, rfl, rfl, rfl, rfl, rfl, rfl, rfl, trivial⟩ ?_
          refine WO_bslice (E := (I1 .i64)) tbok (fun _ => rfl) (by decide) [.int .i64 (w64 (v_11 + y_16))] ([w64 (v_11 + y_16)] : List Int) rfl rfl trivial rfl rfl rfl rfl rfl rfl rfl rfl rfl rfl rfl rfl (fun b109 hb109 => ?_)
          refine WO.cls (C' := St w0 m m19 [[], L22, L64, [⟨b109, 3, ([w64 (v_11 + y_16)] : List Int).flatMap (I1 .i64)⟩]]) (fun _ h => h) ?_
          obtain ⟨hc111, hm76⟩ := chk_some hm76
          refine WO_append (E := (I1 .i64)) tbok (fun _ => rfl) 2 ([w64 (v_11 + y_16)] : List Int) (fun _ _ => rfl) rfl rfl rfl rfl rfl rfl rfl rfl rfl rfl rfl rfl hL64 rfl (src_seg (j := 3) rfl) (ap_ok (by decide) hc111) (ap_max hc111) (fun a112 c113 L114 hL114 => ?_)
          refine WO.cls (C' := St w0 m m19 [[], L22, L114, [⟨b109, 3, ([w64 (v_11 + y_16)] : List Int).flatMap (I1 .i64)⟩]]) (fun _ h => h) ?_
          refine WO_pure tbok 1 [(0, .slice a_p0 p0.length c_p0), (2, .slice none 0 0), (3, .slice a23 ((l_3).length) c25), (4, .int .i64 s_4), (5, .slice a112 ((l_8 ++ ([w64 (v_11 + y_16)] : List Int)).length) c113), (30, .slice a59 ((v_7).length) c60), (31, .int .i64 ((v_7).length : Int)), (32, .int .i64 s_9)] rfl ⟨rfl, rfl, rfl, rfl, rfl, rfl, rfl, rfl, trivial⟩ ?_
          refine WO_end ?_
          refine WK_blk ?_
          refine WK_region ?_
          refine WO_pure tbok 2 [(0, .slice a_p0 p0.length c_p0), (2, .slice none 0 0), (3, .slice a23 ((l_3).length) c25), (4, .int .i64 s_4), (5, .slice a112 ((l_8 ++ ([w64 (v_11 + y_16)] : List Int)).length) c113), (30, .slice a59 ((v_7).length) c60), (31, .int .i64 ((v_7).length : Int)), (32, .int .i64 (w64 (s_9 + 1)))] rfl ⟨rfl, rfl, rfl, rfl, rfl, rfl, rfl, rfl, trivial⟩ ?_
          refine WO_end ?_
          cases hm76
          refine WK.sub ?_ (WK.cls (fun _ h => St.take 3 h) (hn79 _ (a112, (l_8 ++ ([w64 (v_11 + y_16)] : List Int)).length, c113, L114) rfl hL114))
          exact ⟨rfl, rfl, rfl, rfl, rfl, rfl, rfl, rfl, trivial⟩
        · have hm76 := ifF hb92 hm76
          refine WK_exit rfl ?_
          cases hm76
          refine WK.sub ?_ (WK.cls (fun _ h => h) (hk75 (l_8, (a65, _, c67, L64)) ⟨(hd80 _ rfl), hL64⟩))
          exact ⟨rfl, rfl, rfl, rfl, rfl, trivial⟩
    · have hm36 := ifF hb45 hm36
      refine WK_exit rfl ?_
      cases hm36
      refine WK.sub ?_ (WK.cls (fun _ h => h) (hk35 (l_3, (m19, a23, _, c25, L22)) ⟨(hd40 _ rfl), hle20, hL22⟩))
      exact ⟨rfl, rfl, trivial⟩
def seam_Find_Q (r : List Int × Int × List (List Int) × Int) : Value → Mu → List Ent → Prop := fun v m L => ∃ (a0 : Option Addr) (q0 c0 : Nat) (a1 : Option Addr) (q1 c1 : Nat), v = .tuple #[.agg #[.slice a0 q0 c0, .int .i64 r.2.1, .slice a1 q1 c1], .int .i64 r.2.2.2] ∧ SlR (FE (I1 .i64)) 1 m (.slice a0 q0 c0) r.1 ∧ SlR (RowE (FE (I1 .i64)) 1) 1 m (.slice a1 q1 c1) r.2.2.1
theorem seam_Find_walk {m : Mu} {p0 : List (List Int)} {a_p0 : Option Addr} {q_p0 c_p0 : Nat} (h_p0 : SlR (RowE (FE (I1 .i64)) 1) 1 m (.slice a_p0 q_p0 c_p0) p0) {r : List Int × Int × List (List Int) × Int} (hm : seam_Find p0 = some r) :
    Go.E.Spec Try.prog 13 [.slice a_p0 q_p0 c_p0] m (seam_Find_Q r) := by
  refine Spec_enter Try.func13 rfl rfl rfl (fun w0 => ?_)
  refine WK.sub (e' := [(0, .slice a_p0 q_p0 c_p0)]) ⟨rfl, trivial⟩ ?_
  obtain rfl := SlR.qlen h_p0
  refine WK.sub (e' := [(0, .slice a_p0 p0.length c_p0)]) ⟨rfl, trivial⟩ ?_
  unfold seam_Find at hm
  refine WK_seq ?_
  refine WK_region ?_
  refine WO_alloc tbok [.slice none 0 0, .int .i64 0, .slice none 0 0] rfl rfl trivial rfl rfl rfl rfl (fun b2 => ?_)
  refine WO.cls (C' := St w0 m m [[⟨b2, 43, [.slice none 0 0, .int .i64 0, .slice none 0 0]⟩]]) (fun _ h => h) ?_
  refine WO_pure tbok 1 [(0, .slice a_p0 p0.length c_p0), (2, .pointer (some ⟨b2, 0, none⟩)), (3, .int .i64 0)] rfl ⟨rfl, rfl, rfl, trivial⟩ ?_
  refine WO_end ?_
  refine WK_seq ?_
  refine WK_seq ?_
  refine WK_region ?_
  refine WO_pure tbok 1 [(0, .slice a_p0 p0.length c_p0), (2, .pointer (some ⟨b2, 0, none⟩)), (3, .int .i64 0), (7, .slice a_p0 p0.length c_p0)] rfl ⟨rfl, rfl, rfl, rfl, trivial⟩ ?_
  obtain ⟨y_1, hc3, hm⟩ := bind_some hm
  refine WO_call0 (.int .i64 y_1) rfl rfl trivial rfl rfl rfl rfl St_closed ⟨36, #[], #[], rfl, callable_36, fun w hw => ⟨_, hw.sat, seam_Check_walk h_p0 hc3⟩⟩ ?_
  refine WO_pure tbok 1 [(0, .slice a_p0 p0.length c_p0), (2, .pointer (some ⟨b2, 0, none⟩)), (3, .int .i64 0), (4, .int .i64 y_1)] rfl ⟨rfl, rfl, rfl, rfl, trivial⟩ ?_
  refine WO_end ?_
  refine WK_seq ?_
  refine WK_region ?_
  refine WO_pure tbok 2 [(0, .slice a_p0 p0.length c_p0), (2, .pointer (some ⟨b2, 0, none⟩)), (3, .int .i64 0), (4, .int .i64 y_1), (10, .bool (y_1 != 0))] rfl ⟨rfl, rfl, rfl, rfl, rfl, trivial⟩ ?_
  refine WO_end ?_
  refine WK_cond (b := y_1 != 0) rfl (fun hb4 => ?_) (fun hb4 => ?_)
  · have hm := ifT hb4 hm
    refine WK_seq ?_
    refine WK_region ?_
    refine WO_pure tbok 2 [(0, .slice a_p0 p0.length c_p0), (2, .pointer (some ⟨b2, 0, none⟩)), (3, .int .i64 0), (11, .agg #[.slice none 0 0, .int .i64 0, .slice none 0 0]), (12, .int .i64 y_1)] rfl ⟨rfl, rfl, rfl, rfl, rfl, trivial⟩ ?_
    refine WO_storeB tbok 0 [.slice none 0 0, .int .i64 0, .slice none 0 0] rfl rfl rfl rfl rfl rfl rfl ?_
    refine WO.cls (C' := St w0 m m [[⟨b2, 43, [.slice none 0 0, .int .i64 0, .slice none 0 0]⟩]]) (fun _ h => h) ?_
    refine WO_pure tbok 1 [(0, .slice a_p0 p0.length c_p0), (2, .pointer (some ⟨b2, 0, none⟩)), (3, .int .i64 y_1)] rfl ⟨rfl, rfl, rfl, trivial⟩ ?_
    refine WO_end ?_
    cases hm
    exact WK_ret (ret_out (L := []) (RLc_cell tbok 0 rfl rfl rfl (RLc_tmp rfl RLc_nil)) (List.nil_sublist _) ⟨none, 0, 0, none, 0, 0, rfl, SlR_nil, SlR_nil⟩)
  · have hm := ifF hb4 hm
    refine WK_skip ?_
    refine WK_seq ?_
    refine WK_region ?_
    refine WO_pure tbok 1 [(0, .slice a_p0 p0.length c_p0), (2, .pointer (some ⟨b2, 0, none⟩)), (3, .int .i64 0), (14, .slice a_p0 p0.length c_p0)] rfl ⟨rfl, rfl, rfl, rfl, trivial⟩ ?_
    obtain ⟨⟨y_4, y_5⟩, hc5, hm⟩ := bind_some hm
    refine WO_call1 (seam_first_Q (y_4, y_5)) rfl rfl trivial rfl rfl rfl rfl ⟨37, #[], #[], rfl, callable_37, fun w hw => ⟨_, hw.sat, seam_first_walk h_p0 (fun m1 hm1 z_2 z_3 _ h => specV_cap callable_38 (seam_Find_c1_walk h)) hc5⟩⟩ (fun v10 L9 hq => ?_)
    obtain ⟨a6, qa6, c7, rfl, hL9⟩ := hq
    obtain rfl := OwnE.qlen hL9
    refine WO.cls (C' := St w0 m m [[⟨b2, 43, [.slice none 0 0, .int .i64 0, .slice none 0 0]⟩], L9]) (fun _ h => h) ?_
    refine WO_pure tbok 5 [(0, .slice a_p0 p0.length c_p0), (2, .pointer (some ⟨b2, 0, none⟩)), (3, .int .i64 0), (5, .slice a6 ((y_4).length) c7), (6, .int .i64 y_5)] rfl ⟨rfl, rfl, rfl, rfl, rfl, trivial⟩ ?_
    refine WO_end ?_
    refine WK_seq ?_
    refine WK_region ?_
    refine WO_pure tbok 3 [(2, .pointer (some ⟨b2, 0, none⟩)), (3, .int .i64 0), (18, .slice a6 ((y_4).length) c7), (19, .int .i64 y_5), (20, .slice a_p0 p0.length c_p0)] rfl ⟨rfl, rfl, rfl, rfl, rfl, trivial⟩ ?_
    obtain ⟨y_6, hc11, hm⟩ := bind_some hm
    refine WO_call2 (seam_downward_Q y_6) rfl rfl trivial rfl rfl rfl rfl ⟨39, #[], #[], rfl, callable_39, seam_downward_walk h_p0 hc11⟩ (fun v16 m17 L15 hle18 hq => ?_)
    obtain ⟨a12, qa12, c13, rfl, h19⟩ := hq
    obtain rfl := SlR.qlen h19
    refine WO.cls (C' := St w0 m m17 [[⟨b2, 43, [.slice none 0 0, .int .i64 0, .slice none 0 0]⟩], L9, L15]) (fun _ h => h.sub (by simp)) ?_
    refine WO_pure tbok 1 [(2, .pointer (some ⟨b2, 0, none⟩)), (3, .int .i64 0), (22, .agg #[.slice a6 ((y_4).length) c7, .int .i64 y_5, .slice a12 ((y_6).length) c13])] rfl ⟨rfl, rfl, rfl, trivial⟩ ?_
    refine WO_storeB tbok 0 [.slice a6 ((y_4).length) c7, .int .i64 y_5, .slice a12 ((y_6).length) c13] rfl rfl rfl rfl rfl rfl rfl ?_
    refine WO.cls (C' := St w0 m m17 [[⟨b2, 43, [.slice a6 ((y_4).length) c7, .int .i64 y_5, .slice a12 ((y_6).length) c13]⟩], L9, L15]) (fun _ h => h) ?_
    refine WO_pure tbok 1 [(2, .pointer (some ⟨b2, 0, none⟩)), (3, .int .i64 0)] rfl ⟨rfl, rfl, trivial⟩ ?_
    refine WO_end ?_
    cases hm
    refine WK_freeze 1 rfl (fun m20 hle21 hmm22 => ?_)
    refine WK.cls (C' := St w0 m m20 [[⟨b2, 43, [.slice a6 ((y_4).length) c7, .int .i64 y_5, .slice a12 ((y_6).length) c13]⟩], [], L15]) (fun _ h => h) ?_
    exact WK_ret (ret_out (L := []) (RLc_cell tbok 0 rfl rfl rfl (RLc_tmp rfl RLc_nil)) (List.nil_sublist _) ⟨a6, _, c7, a12, _, c13, rfl, (OwnE.rd (E := (I1 .i64)) (k := 1) (fun _ => rfl) hL9 hmm22), (h19.mono (mono_RowE (mono_FE _) _) hle21)⟩)
theorem raster_Equal_walk {m : Mu} {p0_0 : Int} {p0_1 : Int} {p0_2 : Int} {p0_3 : List Int} {p1_0 : Int} {p1_1 : Int} {p1_2 : Int} {p1_3 : List Int} {a_p0_3 : Option Addr} {q_p0_3 c_p0_3 : Nat} {a_p1_3 : Option Addr} {q_p1_3 c_p1_3 : Nat} (h_p0_3 : SlR (FE (I1 .i64)) 1 m (.slice a_p0_3 q_p0_3 c_p0_3) p0_3) (h_p1_3 : SlR (FE (I1 .i64)) 1 m (.slice a_p1_3 q_p1_3 c_p1_3) p1_3) {r : Bool} (hm : raster_Equal p0_0 p0_1 p0_2 p0_3 p1_0 p1_1 p1_2 p1_3 = some r) :
    Go.E.Spec Try.prog 16 [.agg #[.int .i64 p0_0, .int .i64 p0_1, .int .i64 p0_2, .slice a_p0_3 q_p0_3 c_p0_3], .agg #[.int .i64 p1_0, .int .i64 p1_1, .int .i64 p1_2, .slice a_p1_3 q_p1_3 c_p1_3]] m (fun v _ _ => v = .bool r) := by
  refine Spec_enter Try.func16 rfl rfl rfl (fun w0 => ?_)
  refine WK.sub (e' := [(0, .agg #[.int .i64 p0_0, .int .i64 p0_1, .int .i64 p0_2, .slice a_p0_3 q_p0_3 c_p0_3]), (1, .agg #[.int .i64 p1_0, .int .i64 p1_1, .int .i64 p1_2, .slice a_p1_3 q_p1_3 c_p1_3])]) ⟨rfl, rfl, trivial⟩ ?_
  obtain rfl := SlR.qlen h_p0_3
  obtain rfl := SlR.qlen h_p1_3
  refine WK.sub (e' := [(0, .agg #[.int .i64 p0_0, .int .i64 p0_1, .int .i64 p0_2, .slice a_p0_3 p0_3.length c_p0_3]), (1, .agg #[.int .i64 p1_0, .int .i64 p1_1, .int .i64 p1_2, .slice a_p1_3 p1_3.length c_p1_3])]) ⟨rfl, rfl, trivial⟩ ?_
  unfold raster_Equal at hm
  refine WK_seq ?_
  refine WK_region ?_
  refine WO_box [.int .i64 p0_0, .int .i64 p0_1, .int .i64 p0_2, .slice a_p0_3 p0_3.length c_p0_3] rfl rfl trivial rfl rfl rfl (fun b3 => ?_)
  refine WO.cls (C' := St w0 m m [[⟨b3, 24, [.int .i64 p0_0, .int .i64 p0_1, .int .i64 p0_2, .slice a_p0_3 p0_3.length c_p0_3]⟩]]) (fun _ h => h) ?_
  refine WO_box [.int .i64 p1_0, .int .i64 p1_1, .int .i64 p1_2, .slice a_p1_3 p1_3.length c_p1_3] rfl rfl trivial rfl rfl rfl (fun b4 => ?_)
  refine WO.cls (C' := St w0 m m [[⟨b3, 24, [.int .i64 p0_0, .int .i64 p0_1, .int .i64 p0_2, .slice a_p0_3 p0_3.length c_p0_3]⟩], [⟨b4, 24, [.int .i64 p1_0, .int .i64 p1_1, .int .i64 p1_2, .slice a_p1_3 p1_3.length c_p1_3]⟩]]) (fun _ h => h) ?_
  refine WO_pure tbok 1 [(2, .pointer (some ⟨b3, 0, none⟩)), (3, .pointer (some ⟨b4, 0, none⟩)), (4, .bool false)] rfl ⟨rfl, rfl, rfl, trivial⟩ ?_
  refine WO_end ?_
  refine WK_seq ?_
  refine WK_region ?_
  refine WO_pure tbok 1 [(2, .pointer (some ⟨b3, 0, none⟩)), (3, .pointer (some ⟨b4, 0, none⟩)), (4, .bool false), (5, .pointer (some ⟨b3, 0, none⟩))] rfl ⟨rfl, rfl, rfl, rfl, trivial⟩ ?_
  refine WO_loadB tbok 0 rfl rfl rfl rfl (fun _ h => h) rfl rfl ?_
  refine WO_pure tbok 1 [(2, .pointer (some ⟨b3, 0, none⟩)), (3, .pointer (some ⟨b4, 0, none⟩)), (4, .bool false), (6, .int .i64 p0_0), (7, .pointer (some ⟨b4, 0, none⟩))] rfl ⟨rfl, rfl, rfl, rfl, rfl, trivial⟩ ?_
  refine WO_loadB tbok 1 rfl rfl rfl rfl (fun _ h => h) rfl rfl ?_
  refine WO_pure tbok 2 [(2, .pointer (some ⟨b3, 0, none⟩)), (3, .pointer (some ⟨b4, 0, none⟩)), (4, .bool false), (10, .bool (p0_0 == p1_0))] rfl ⟨rfl, rfl, rfl, rfl, trivial⟩ ?_
  refine WO_split (d := 10) (b := p0_0 == p1_0) rfl (fun hb5 => ?_) (fun hb5 => ?_)
  · have hm := ifT hb5 hm
    refine WO_pure tbok 1 [(2, .pointer (some ⟨b3, 0, none⟩)), (3, .pointer (some ⟨b4, 0, none⟩)), (4, .bool false), (10, .bool true), (11, .pointer (some ⟨b3, 1, none⟩))] rfl ⟨rfl, rfl, rfl, rfl, rfl, trivial⟩ ?_
    refine WO_loadB tbok 0 rfl rfl rfl rfl (fun _ h => h) rfl rfl ?_
    refine WO_pure tbok 1 [(2, .pointer (some ⟨b3, 0, none⟩)), (3, .pointer (some ⟨b4, 0, none⟩)), (4, .bool false), (10, .bool true), (12, .int .i64 p0_1), (13, .pointer (some ⟨b4, 1, none⟩))] rfl ⟨rfl, rfl, rfl, rfl, rfl, rfl, trivial⟩ ?_
    refine WO_loadB tbok 1 rfl rfl rfl rfl (fun _ h => h) rfl rfl ?_
    refine WO_pure tbok 3 [(2, .pointer (some ⟨b3, 0, none⟩)), (3, .pointer (some ⟨b4, 0, none⟩)), (4, .bool false), (17, .bool (p0_1 == p1_1))] rfl ⟨rfl, rfl, rfl, rfl, trivial⟩ ?_
    refine WO_split (d := 17) (b := p0_1 == p1_1) rfl (fun hb6 => ?_) (fun hb6 => ?_)
    · have hm := ifT hb6 hm
      refine WO_pure tbok 1 [(2, .pointer (some ⟨b3, 0, none⟩)), (3, .pointer (some ⟨b4, 0, none⟩)), (4, .bool false), (17, .bool true), (18, .pointer (some ⟨b3, 2, none⟩))] rfl ⟨rfl, rfl, rfl, rfl, rfl, trivial⟩ ?_
      refine WO_loadB tbok 0 rfl rfl rfl rfl (fun _ h => h) rfl rfl ?_
      refine WO_pure tbok 1 [(2, .pointer (some ⟨b3, 0, none⟩)), (3, .pointer (some ⟨b4, 0, none⟩)), (4, .bool false), (17, .bool true), (19, .int .i64 p0_2), (20, .pointer (some ⟨b4, 2, none⟩))] rfl ⟨rfl, rfl, rfl, rfl, rfl, rfl, trivial⟩ ?_
      refine WO_loadB tbok 1 rfl rfl rfl rfl (fun _ h => h) rfl rfl ?_
      refine WO_pure tbok 3 [(2, .pointer (some ⟨b3, 0, none⟩)), (3, .pointer (some ⟨b4, 0, none⟩)), (4, .bool false), (24, .bool (p0_2 == p1_2))] rfl ⟨rfl, rfl, rfl, rfl, trivial⟩ ?_
      refine WO_split (d := 24) (b := p0_2 == p1_2) rfl (fun hb7 => ?_) (fun hb7 => ?_)
      · have hm := ifT hb7 hm
        refine WO_pure tbok 1 [(3, .pointer (some ⟨b4, 0, none⟩)), (4, .bool false), (24, .bool true), (25, .pointer (some ⟨b3, 3, none⟩))] rfl ⟨rfl, rfl, rfl, rfl, trivial⟩ ?_
        refine WO_loadB tbok 0 rfl rfl rfl rfl (fun _ h => h) rfl rfl ?_
        refine WO_pure tbok 1 [(4, .bool false), (24, .bool true), (26, .slice a_p0_3 p0_3.length c_p0_3), (27, .pointer (some ⟨b4, 3, none⟩))] rfl ⟨rfl, rfl, rfl, rfl, trivial⟩ ?_
        refine WO_loadB tbok 1 rfl rfl rfl rfl (fun _ h => h) rfl rfl ?_
        obtain ⟨y_1, hc8, hm⟩ := bind_some hm
        refine WO_call0 (.bool y_1) rfl rfl trivial rfl rfl rfl rfl St_closed ⟨34, #[], #[], rfl, callable_34, fun w hw => ⟨_, hw.sat, slices_Equal_sint_walk h_p0_3 h_p1_3 hc8⟩⟩ ?_
        refine WO_pure tbok 2 [(4, .bool y_1)] rfl ⟨rfl, trivial⟩ ?_
        refine WO_end ?_
        cases hm
        exact WK_ret (ret_out (L := []) (RLc_tmp rfl RLc_nil) (List.nil_sublist _) rfl)
      · have hm := ifF hb7 hm
        refine WO_pure tbok 4 [(4, .bool false), (24, .bool false)] rfl ⟨rfl, rfl, trivial⟩ ?_
        refine WO_skip rfl rfl ?_
        refine WO_pure tbok 2 [(4, .bool false)] rfl ⟨rfl, trivial⟩ ?_
        refine WO_end ?_
        cases hm
        exact WK_ret (ret_out (L := []) (RLc_tmp rfl RLc_nil) (List.nil_sublist _) rfl)
    · have hm := ifF hb6 hm
      refine WO_pure tbok 11 [(4, .bool false), (24, .bool false)] rfl ⟨rfl, rfl, trivial⟩ ?_
      refine WO_skip rfl rfl ?_
      refine WO_pure tbok 2 [(4, .bool false)] rfl ⟨rfl, trivial⟩ ?_
      refine WO_end ?_
      cases hm
      exact WK_ret (ret_out (L := []) (RLc_tmp rfl RLc_nil) (List.nil_sublist _) rfl)
  · have hm := ifF hb5 hm
    refine WO_pure tbok 18 [(4, .bool false), (24, .bool false)] rfl ⟨rfl, rfl, trivial⟩ ?_
    refine WO_skip rfl rfl ?_
    refine WO_pure tbok 2 [(4, .bool false)] rfl ⟨rfl, trivial⟩ ?_
    refine WO_end ?_
    cases hm
    exact WK_ret (ret_out (L := []) (RLc_tmp rfl RLc_nil) (List.nil_sublist _) rfl)
theorem raster_has_walk {m : Mu} {p0_0 : Int} {p0_1 : Int} {p0_2 : Int} {p0_3 : List Int} {p1 : Int} {p2 : Int} {a_p0_3 : Option Addr} {q_p0_3 c_p0_3 : Nat} (h_p0_3 : SlR (FE (I1 .i64)) 1 m (.slice a_p0_3 q_p0_3 c_p0_3) p0_3) {r : Bool} (hm : raster_has p0_0 p0_1 p0_2 p0_3 p1 p2 = some r) :
    Go.E.Spec Try.prog 47 [.agg #[.int .i64 p0_0, .int .i64 p0_1, .int .i64 p0_2, .slice a_p0_3 q_p0_3 c_p0_3], .int .i64 p1, .int .i64 p2] m (fun v _ _ => v = .bool r) := by
  refine Spec_enter Try.func47 rfl rfl rfl (fun w0 => ?_)
  refine WK.sub (e' := [(0, .agg #[.int .i64 p0_0, .int .i64 p0_1, .int .i64 p0_2, .slice a_p0_3 q_p0_3 c_p0_3]), (1, .int .i64 p1), (2, .int .i64 p2)]) ⟨rfl, rfl, rfl, trivial⟩ ?_
  obtain rfl := SlR.qlen h_p0_3
  refine WK.sub (e' := [(0, .agg #[.int .i64 p0_0, .int .i64 p0_1, .int .i64 p0_2, .slice a_p0_3 p0_3.length c_p0_3]), (1, .int .i64 p1), (2, .int .i64 p2)]) ⟨rfl, rfl, rfl, trivial⟩ ?_
  unfold raster_has at hm
  refine WK_seq ?_
  refine WK_region ?_
  refine WO_box [.int .i64 p0_0, .int .i64 p0_1, .int .i64 p0_2, .slice a_p0_3 p0_3.length c_p0_3] rfl rfl trivial rfl rfl rfl (fun b2 => ?_)
  refine WO.cls (C' := St w0 m m [[⟨b2, 24, [.int .i64 p0_0, .int .i64 p0_1, .int .i64 p0_2, .slice a_p0_3 p0_3.length c_p0_3]⟩]]) (fun _ h => h) ?_
  refine WO_pure tbok 1 [(1, .int .i64 p1), (2, .int .i64 p2), (3, .pointer (some ⟨b2, 0, none⟩)), (6, .bool false)] rfl ⟨rfl, rfl, rfl, rfl, trivial⟩ ?_
  refine WO_end ?_
  refine WK_seq ?_
  refine WK_region ?_
  refine WO_pure tbok 3 [(1, .int .i64 p1), (2, .int .i64 p2), (3, .pointer (some ⟨b2, 0, none⟩)), (6, .bool false), (9, .bool (decide (0 ≤ p1)))] rfl ⟨rfl, rfl, rfl, rfl, rfl, trivial⟩ ?_
  refine WO_split (d := 9) (b := decide (0 ≤ p1)) rfl (fun hb3 => ?_) (fun hb3 => ?_)
  · have hm := ifT hb3 hm
    refine WO_pure tbok 2 [(2, .int .i64 p2), (3, .pointer (some ⟨b2, 0, none⟩)), (6, .bool false), (9, .bool true), (10, .int .i64 p1), (11, .pointer (some ⟨b2, 0, none⟩))] rfl ⟨rfl, rfl, rfl, rfl, rfl, rfl, trivial⟩ ?_
    refine WO_loadB tbok 0 rfl rfl rfl rfl (fun _ h => h) rfl rfl ?_
    refine WO_pure tbok 3 [(2, .int .i64 p2), (3, .pointer (some ⟨b2, 0, none⟩)), (6, .bool false), (15, .bool (decide (p1 < p0_0)))] rfl ⟨rfl, rfl, rfl, rfl, trivial⟩ ?_
    refine WO_split (d := 15) (b := decide (p1 < p0_0)) rfl (fun hb4 => ?_) (fun hb4 => ?_)
    · have hm := ifT hb4 hm
      refine WO_pure tbok 4 [(2, .int .i64 p2), (3, .pointer (some ⟨b2, 0, none⟩)), (6, .bool false), (19, .bool (decide (0 ≤ p2)))] rfl ⟨rfl, rfl, rfl, rfl, trivial⟩ ?_
      refine WO_split (d := 19) (b := decide (0 ≤ p2)) rfl (fun hb5 => ?_) (fun hb5 => ?_)
      · have hm := ifT hb5 hm
        refine WO_pure tbok 2 [(6, .bool false), (19, .bool true), (20, .int .i64 p2), (21, .pointer (some ⟨b2, 1, none⟩))] rfl ⟨rfl, rfl, rfl, rfl, trivial⟩ ?_
        refine WO_loadB tbok 0 rfl rfl rfl rfl (fun _ h => h) rfl rfl ?_
        refine WO_pure tbok 3 [(6, .bool (decide (p2 < p0_1)))] rfl ⟨rfl, trivial⟩ ?_
        refine WO_end ?_
        cases hm
        exact WK_ret (ret_out (L := []) (RLc_tmp rfl RLc_nil) (List.nil_sublist _) rfl)
      · have hm := ifF hb5 hm
        refine WO_pure tbok 6 [(6, .bool false)] rfl ⟨rfl, trivial⟩ ?_
        refine WO_end ?_
        cases hm
        exact WK_ret (ret_out (L := []) (RLc_tmp rfl RLc_nil) (List.nil_sublist _) rfl)
    · have hm := ifF hb4 hm
      refine WO_pure tbok 10 [(6, .bool false)] rfl ⟨rfl, trivial⟩ ?_
      refine WO_end ?_
      cases hm
      exact WK_ret (ret_out (L := []) (RLc_tmp rfl RLc_nil) (List.nil_sublist _) rfl)
  · have hm := ifF hb3 hm
    refine WO_pure tbok 16 [(6, .bool false)] rfl ⟨rfl, trivial⟩ ?_
    refine WO_end ?_
    cases hm
    exact WK_ret (ret_out (L := []) (RLc_tmp rfl RLc_nil) (List.nil_sublist _) rfl)
theorem raster_Crop_c1_walk {m : Mu} {p0 : Int} {p1 : Int} {q0_0 : Int} {q0_1 : Int} {q0_2 : Int} {q0_3 : List Int} {q1_0 : Int} {q2_0 : Int} {a_q0_3 : Option Addr} {q_q0_3 c_q0_3 : Nat} {b_q0 : Nat} {b_q1 : Nat} {b_q2 : Nat} (hb_q0 : m b_q0 = some (Ent.obj ⟨b_q0, 24, [.int .i64 q0_0, .int .i64 q0_1, .int .i64 q0_2, .slice a_q0_3 q_q0_3 c_q0_3]⟩)) (h_q0_3 : SlR (FE (I1 .i64)) 1 m (.slice a_q0_3 q_q0_3 c_q0_3) q0_3) (hb_q1 : m b_q1 = some (Ent.obj ⟨b_q1, 3, [.int .i64 q1_0]⟩)) (hb_q2 : m b_q2 = some (Ent.obj ⟨b_q2, 3, [.int .i64 q2_0]⟩)) {r : Int} (hm : raster_Crop_c1 p0 p1 q0_0 q0_1 q0_2 q0_3 q1_0 q2_0 = some r) :
    Go.E.Spec Try.prog 48 [.int .i64 p0, .int .i64 p1, .pointer (some ⟨b_q0, 0, none⟩), .pointer (some ⟨b_q1, 0, none⟩), .pointer (some ⟨b_q2, 0, none⟩)] m (fun v _ _ => v = .int .i64 r) := by
  refine Spec_enter Try.func48 rfl rfl rfl (fun w0 => ?_)
  refine WK.sub (e' := [(0, .int .i64 p0), (1, .int .i64 p1), (2, .pointer (some ⟨b_q0, 0, none⟩)), (3, .pointer (some ⟨b_q1, 0, none⟩)), (4, .pointer (some ⟨b_q2, 0, none⟩))]) ⟨rfl, rfl, rfl, rfl, rfl, trivial⟩ ?_
  obtain rfl := SlR.qlen h_q0_3
  refine WK.sub (e' := [(0, .int .i64 p0), (1, .int .i64 p1), (2, .pointer (some ⟨b_q0, 0, none⟩)), (3, .pointer (some ⟨b_q1, 0, none⟩)), (4, .pointer (some ⟨b_q2, 0, none⟩))]) ⟨rfl, rfl, rfl, rfl, rfl, trivial⟩ ?_
  unfold raster_Crop_c1 at hm
  refine WK_seq ?_
  refine WK_region ?_
  refine WO_pure tbok 1 [(0, .int .i64 p0), (1, .int .i64 p1), (2, .pointer (some ⟨b_q0, 0, none⟩)), (3, .pointer (some ⟨b_q1, 0, none⟩)), (4, .pointer (some ⟨b_q2, 0, none⟩)), (7, .int .i64 0)] rfl ⟨rfl, rfl, rfl, rfl, rfl, rfl, trivial⟩ ?_
  refine WO_end ?_
  refine WK_seq ?_
  refine WK_region ?_
  refine WO_loadM tbok rfl rfl rfl rfl (fun _ h => St.sat h) hb_q0 rfl ?_
  refine WO_loadM tbok rfl rfl rfl rfl (fun _ h => St.sat h) hb_q1 rfl ?_
  refine WO_pure tbok 2 [(1, .int .i64 p1), (4, .pointer (some ⟨b_q2, 0, none⟩)), (7, .int .i64 0), (8, .agg #[.int .i64 q0_0, .int .i64 q0_1, .int .i64 q0_2, .slice a_q0_3 q0_3.length c_q0_3]), (11, .int .i64 (w64 (q1_0 + p0)))] rfl ⟨rfl, rfl, rfl, rfl, rfl, trivial⟩ ?_
  refine WO_loadM tbok rfl rfl rfl rfl (fun _ h => St.sat h) hb_q2 rfl ?_
  refine WO_pure tbok 2 [(7, .int .i64 0), (8, .agg #[.int .i64 q0_0, .int .i64 q0_1, .int .i64 q0_2, .slice a_q0_3 q0_3.length c_q0_3]), (11, .int .i64 (w64 (q1_0 + p0))), (14, .int .i64 (w64 (q2_0 + p1)))] rfl ⟨rfl, rfl, rfl, rfl, trivial⟩ ?_
  obtain ⟨y_1, hc2, hm⟩ := bind_some hm
  refine WO_call0 (.int .i64 y_1) rfl rfl trivial rfl rfl rfl rfl St_closed ⟨46, #[], #[], rfl, callable_46, fun w hw => ⟨_, hw.sat, raster_at_walk h_q0_3 hc2⟩⟩ ?_
  refine WO_pure tbok 1 [(7, .int .i64 y_1)] rfl ⟨rfl, trivial⟩ ?_
  refine WO_end ?_
  cases hm
  exact WK_ret (ret_out (L := []) (RLc_tmp rfl RLc_nil) (List.nil_sublist _) rfl)
end Go.Proofs.Ytbolefkhmfbnlaa
