import Derived.Test.YtcaeieofjchpjaaTab
import Derived.Test.YtcaeieofjchpjaaM
import Derived.Test.YtcaeieofjchpjaaW4
set_option linter.unusedVariables false
set_option maxRecDepth 100000
set_option maxHeartbeats 4000000
namespace Go.Proofs.Ytcaeieofjchpjaa
open Go.E Go.RowKit
attribute [local irreducible] Go.E.WO Go.E.WK
theorem fiduciallaw48_TerrainBlocks_walk {m : Mu} {p0_0 : Int} {p0_1 : Int} {p0_2 : Int} {p0_3 : Int} {p0_4 : Int} {p0_5 : Int} {p1 : Int} {p2 : Int}   {r : Bool} (hm : fiduciallaw48_TerrainBlocks p0_0 p0_1 p0_2 p0_3 p0_4 p0_5 p1 p2 = some r) :
    Go.E.Spec Try.prog 5 [.agg #[.int .u8 p0_0, .int .u8 p0_1, .int .u8 p0_2, .int .u8 p0_3, .int .u8 p0_4, .int .u8 p0_5], .int .i16 p1, .int .u8 p2] m (fun v _ _ => v = .bool r) := by
  refine Spec_enter Try.func5 rfl rfl rfl (fun w0 => ?_)
  refine WK.sub (e' := [(0, .agg #[.int .u8 p0_0, .int .u8 p0_1, .int .u8 p0_2, .int .u8 p0_3, .int .u8 p0_4, .int .u8 p0_5]), (1, .int .i16 p1), (2, .int .u8 p2)]) ⟨rfl, rfl, rfl, trivial⟩ ?_
  refine WK.sub (e' := [(0, .agg #[.int .u8 p0_0, .int .u8 p0_1, .int .u8 p0_2, .int .u8 p0_3, .int .u8 p0_4, .int .u8 p0_5]), (1, .int .i16 p1), (2, .int .u8 p2)]) ⟨rfl, rfl, rfl, trivial⟩ ?_
  unfold fiduciallaw48_TerrainBlocks at hm
  refine WK_seq ?_
  refine WK_region ?_
  refine WO_box [.int .u8 p0_0, .int .u8 p0_1, .int .u8 p0_2, .int .u8 p0_3, .int .u8 p0_4, .int .u8 p0_5] rfl rfl trivial rfl rfl rfl (fun b1 => ?_)
  refine WO.cls (C' := St w0 m m [[⟨b1, 40, [.int .u8 p0_0, .int .u8 p0_1, .int .u8 p0_2, .int .u8 p0_3, .int .u8 p0_4, .int .u8 p0_5]⟩]]) (fun _ h => h) ?_
  refine WO_pure tbok 1 [(1, .int .i16 p1), (2, .int .u8 p2), (3, .pointer (some ⟨b1, 0, none⟩)), (6, .bool false)] rfl ⟨rfl, rfl, rfl, rfl, trivial⟩ ?_
  refine WO_end ?_
  refine WK_seq ?_
  refine WK_seq ?_
  refine WK_region ?_
  obtain ⟨y_1, hc2, hm⟩ := bind_some hm
  refine WO_call0 (.bool y_1) rfl rfl trivial rfl rfl rfl rfl St_closed ⟨11, #[], #[], rfl, callable_11, fun w hw => ⟨_, hw.sat, fiduciallaw48_known_walk hc2⟩⟩ ?_
  refine WO_pure tbok 1 [(1, .int .i16 p1), (2, .int .u8 p2), (3, .pointer (some ⟨b1, 0, none⟩)), (6, .bool false), (20, .bool (!y_1))] rfl ⟨rfl, rfl, rfl, rfl, rfl, trivial⟩ ?_
  refine WO_end ?_
  refine WK_cond (b := !y_1) rfl (fun hb3 => ?_) (fun hb3 => ?_)
  · have hm := ifT hb3 hm
    refine WK_seq ?_
    refine WK_region ?_
    refine WO_pure tbok 1 [(1, .int .i16 p1), (2, .int .u8 p2), (3, .pointer (some ⟨b1, 0, none⟩)), (6, .bool false)] rfl ⟨rfl, rfl, rfl, rfl, trivial⟩ ?_
    refine WO_end ?_
    cases hm
    exact WK_ret (ret_out (L := []) (RLc_tmp rfl RLc_nil) (List.nil_sublist _) rfl)
  · have hm := ifF hb3 hm
    refine WK_skip ?_
    refine WK_seq ?_
    refine WK_region ?_
    refine WO_pure tbok 1 [(1, .int .i16 p1), (2, .int .u8 p2), (3, .pointer (some ⟨b1, 0, none⟩)), (6, .bool false), (21, .pointer (some ⟨b1, 5, none⟩))] rfl ⟨rfl, rfl, rfl, rfl, rfl, trivial⟩ ?_
    refine WO_loadB tbok 0 rfl rfl rfl rfl (fun _ h => h) rfl rfl ?_
    refine WO_pure tbok 4 [(1, .int .i16 p1), (2, .int .u8 p2), (3, .pointer (some ⟨b1, 0, none⟩)), (6, .bool false), (7, .int .i64 (w64 (1 + (Int.tmod (w64 (p0_5)) 3))))] rfl ⟨rfl, rfl, rfl, rfl, rfl, trivial⟩ ?_
    refine WO_end ?_
    refine WK_seq ?_
    obtain ⟨⟨s_2, s_3⟩, hx6, hm⟩ := bind_some hm
    refine WK_join (β := Nat × Nat) (fun p => True) (fun p => [(1, .int .i16 p1), (2, .int .u8 p2), (3, .pointer (some ⟨b1, 0, none⟩)), (6, .bool false), (7, .int .i64 (w64 (1 + (Int.tmod (w64 (p0_5)) 3)))), (8, .pointer (some ⟨p.1, 0, none⟩)), (9, .pointer (some ⟨p.2, 0, none⟩))]) (fun p => St w0 m m [[⟨b1, 40, [.int .u8 p0_0, .int .u8 p0_1, .int .u8 p0_2, .int .u8 p0_3, .int .u8 p0_4, .int .u8 p0_5]⟩], [⟨p.1, 3, [.int .i64 s_2]⟩], [⟨p.2, 3, [.int .i64 s_3]⟩]]) ?_ (fun hk7 => ?_)
    · rintro ⟨b4, b5⟩ -
      refine WK.sub (e' := [(1, .int .i16 p1), (2, .int .u8 p2), (3, .pointer (some ⟨b1, 0, none⟩)), (6, .bool false), (7, .int .i64 (w64 (1 + (Int.tmod (w64 (p0_5)) 3)))), (8, .pointer (some ⟨b4, 0, none⟩)), (9, .pointer (some ⟨b5, 0, none⟩))]) ⟨rfl, rfl, rfl, rfl, rfl, rfl, rfl, trivial⟩ (WK.cls (C' := St w0 m m [[⟨b1, 40, [.int .u8 p0_0, .int .u8 p0_1, .int .u8 p0_2, .int .u8 p0_3, .int .u8 p0_4, .int .u8 p0_5]⟩], [⟨b4, 3, [.int .i64 s_2]⟩], [⟨b5, 3, [.int .i64 s_3]⟩]]) (fun _ h => h) ?_)
      refine WK_seq ?_
      obtain ⟨⟨s_4, s_5⟩, hx10, hm⟩ := bind_some hm
      refine WK_join (β := Nat × Nat) (fun p => True) (fun p => [(1, .int .i16 p1), (2, .int .u8 p2), (3, .pointer (some ⟨b1, 0, none⟩)), (6, .bool false), (7, .int .i64 (w64 (1 + (Int.tmod (w64 (p0_5)) 3)))), (8, .pointer (some ⟨b4, 0, none⟩)), (9, .pointer (some ⟨b5, 0, none⟩)), (10, .pointer (some ⟨p.1, 0, none⟩)), (11, .pointer (some ⟨p.2, 0, none⟩))]) (fun p => St w0 m m [[⟨b1, 40, [.int .u8 p0_0, .int .u8 p0_1, .int .u8 p0_2, .int .u8 p0_3, .int .u8 p0_4, .int .u8 p0_5]⟩], [⟨b4, 3, [.int .i64 s_2]⟩], [⟨b5, 3, [.int .i64 s_3]⟩], [⟨p.1, 3, [.int .i64 s_4]⟩], [⟨p.2, 3, [.int .i64 s_5]⟩]]) ?_ (fun hk11 => ?_)
      · rintro ⟨b8, b9⟩ -
        refine WK.sub (e' := [(1, .int .i16 p1), (2, .int .u8 p2), (3, .pointer (some ⟨b1, 0, none⟩)), (6, .bool false), (7, .int .i64 (w64 (1 + (Int.tmod (w64 (p0_5)) 3)))), (8, .pointer (some ⟨b4, 0, none⟩)), (9, .pointer (some ⟨b5, 0, none⟩)), (10, .pointer (some ⟨b8, 0, none⟩)), (11, .pointer (some ⟨b9, 0, none⟩))]) ⟨rfl, rfl, rfl, rfl, rfl, rfl, rfl, rfl, rfl, trivial⟩ (WK.cls (C' := St w0 m m [[⟨b1, 40, [.int .u8 p0_0, .int .u8 p0_1, .int .u8 p0_2, .int .u8 p0_3, .int .u8 p0_4, .int .u8 p0_5]⟩], [⟨b4, 3, [.int .i64 s_2]⟩], [⟨b5, 3, [.int .i64 s_3]⟩], [⟨b8, 3, [.int .i64 s_4]⟩], [⟨b9, 3, [.int .i64 s_5]⟩]]) (fun _ h => h) ?_)
        refine WK_seq ?_
        refine WK_region ?_
        refine WO_pure tbok 4 [(1, .int .i16 p1), (2, .int .u8 p2), (6, .bool false), (7, .int .i64 (w64 (1 + (Int.tmod (w64 (p0_5)) 3)))), (8, .pointer (some ⟨b4, 0, none⟩)), (9, .pointer (some ⟨b5, 0, none⟩)), (10, .pointer (some ⟨b8, 0, none⟩)), (11, .pointer (some ⟨b9, 0, none⟩)), (56, .int .i64 (w64 ((w64 (p2)) + 1))), (57, .pointer (some ⟨b1, 4, none⟩))] rfl ⟨rfl, rfl, rfl, rfl, rfl, rfl, rfl, rfl, rfl, rfl, trivial⟩ ?_
        refine WO_loadB tbok 0 rfl rfl rfl rfl (fun _ h => h) rfl rfl ?_
        refine WO_pure tbok 3 [(1, .int .i16 p1), (2, .int .u8 p2), (6, .bool false), (7, .int .i64 (w64 (1 + (Int.tmod (w64 (p0_5)) 3)))), (8, .pointer (some ⟨b4, 0, none⟩)), (9, .pointer (some ⟨b5, 0, none⟩)), (10, .pointer (some ⟨b8, 0, none⟩)), (11, .pointer (some ⟨b9, 0, none⟩)), (12, .int .i64 (w64 ((w64 ((w64 (p2)) + 1)) + (w64 (p0_4)))))] rfl ⟨rfl, rfl, rfl, rfl, rfl, rfl, rfl, rfl, rfl, trivial⟩ ?_
        refine WO_end ?_
        refine WK_seq ?_
        refine WK_region ?_
        obtain ⟨hc12, hm⟩ := chk_some hm
        refine WO_make (E := (I1 .i64)) tbok (fun _ => rfl) (by decide) (0 : Int) rfl rfl trivial rfl rfl rfl rfl rfl rfl rfl rfl rfl (mk_ok (by decide) hc12) (fun b13 c14 L15 hL15 => ?_)
        refine WO.cls (C' := St w0 m m [[⟨b1, 40, [.int .u8 p0_0, .int .u8 p0_1, .int .u8 p0_2, .int .u8 p0_3, .int .u8 p0_4, .int .u8 p0_5]⟩], [⟨b4, 3, [.int .i64 s_2]⟩], [⟨b5, 3, [.int .i64 s_3]⟩], [⟨b8, 3, [.int .i64 s_4]⟩], [⟨b9, 3, [.int .i64 s_5]⟩], L15]) (fun _ h => h) ?_
        refine WO_pure tbok 1 [(1, .int .i16 p1), (2, .int .u8 p2), (6, .bool false), (7, .int .i64 (w64 (1 + (Int.tmod (w64 (p0_5)) 3)))), (8, .pointer (some ⟨b4, 0, none⟩)), (9, .pointer (some ⟨b5, 0, none⟩)), (10, .pointer (some ⟨b8, 0, none⟩)), (11, .pointer (some ⟨b9, 0, none⟩)), (12, .int .i64 (w64 ((w64 ((w64 (p2)) + 1)) + (w64 (p0_4))))), (62, .agg #[.int .i64 0, .int .i64 0, .int .i64 10, .int .i64 20, .int .i64 20, .slice (some ⟨b13, 0, none⟩) ((List.replicate 400 (0 : Int)).length) c14])] rfl ⟨rfl, rfl, rfl, rfl, rfl, rfl, rfl, rfl, rfl, rfl, trivial⟩ ?_
        refine WO_alloc tbok [.int .i64 0, .int .i64 0, .int .i64 0, .int .i64 0, .int .i64 0, .slice none 0 0] rfl rfl trivial rfl rfl rfl rfl (fun b16 => ?_)
        refine WO.cls (C' := St w0 m m [[⟨b1, 40, [.int .u8 p0_0, .int .u8 p0_1, .int .u8 p0_2, .int .u8 p0_3, .int .u8 p0_4, .int .u8 p0_5]⟩], [⟨b4, 3, [.int .i64 s_2]⟩], [⟨b5, 3, [.int .i64 s_3]⟩], [⟨b8, 3, [.int .i64 s_4]⟩], [⟨b9, 3, [.int .i64 s_5]⟩], L15, [⟨b16, 25, [.int .i64 0, .int .i64 0, .int .i64 0, .int .i64 0, .int .i64 0, .slice none 0 0]⟩]]) (fun _ h => h) ?_
        refine WO_storeB tbok 6 [.int .i64 0, .int .i64 0, .int .i64 10, .int .i64 20, .int .i64 20, .slice (some ⟨b13, 0, none⟩) ((List.replicate 400 (0 : Int)).length) c14] rfl rfl rfl rfl rfl rfl rfl ?_
        refine WO.cls (C' := St w0 m m [[⟨b1, 40, [.int .u8 p0_0, .int .u8 p0_1, .int .u8 p0_2, .int .u8 p0_3, .int .u8 p0_4, .int .u8 p0_5]⟩], [⟨b4, 3, [.int .i64 s_2]⟩], [⟨b5, 3, [.int .i64 s_3]⟩], [⟨b8, 3, [.int .i64 s_4]⟩], [⟨b9, 3, [.int .i64 s_5]⟩], L15, [⟨b16, 25, [.int .i64 0, .int .i64 0, .int .i64 10, .int .i64 20, .int .i64 20, .slice (some ⟨b13, 0, none⟩) ((List.replicate 400 (0 : Int)).length) c14]⟩]]) (fun _ h => h) ?_
        refine WO_end ?_
        refine WK_seq ?_
        refine WK_region ?_
        refine WO_pure tbok 2 [(1, .int .i16 p1), (2, .int .u8 p2), (6, .bool false), (7, .int .i64 (w64 (1 + (Int.tmod (w64 (p0_5)) 3)))), (12, .int .i64 (w64 ((w64 ((w64 (p2)) + 1)) + (w64 (p0_4))))), (13, .pointer (some ⟨b16, 0, none⟩)), (14, .func (.func 21) #[] #[.pointer (some ⟨b8, 0, none⟩), .pointer (some ⟨b4, 0, none⟩), .pointer (some ⟨b9, 0, none⟩), .pointer (some ⟨b5, 0, none⟩)])] rfl ⟨rfl, rfl, rfl, rfl, rfl, rfl, rfl, trivial⟩ ?_
        refine WO_end ?_
        refine WK_seq ?_
        refine WK_seq ?_
        refine WK_region ?_
        refine WO_pure tbok 1 [(1, .int .i16 p1), (2, .int .u8 p2), (6, .bool false), (7, .int .i64 (w64 (1 + (Int.tmod (w64 (p0_5)) 3)))), (12, .int .i64 (w64 ((w64 ((w64 (p2)) + 1)) + (w64 (p0_4))))), (13, .pointer (some ⟨b16, 0, none⟩)), (14, .func (.func 21) #[] #[.pointer (some ⟨b8, 0, none⟩), .pointer (some ⟨b4, 0, none⟩), .pointer (some ⟨b9, 0, none⟩), .pointer (some ⟨b5, 0, none⟩)]), (64, .pointer (some ⟨b16, 5, none⟩))] rfl ⟨rfl, rfl, rfl, rfl, rfl, rfl, rfl, rfl, trivial⟩ ?_
        refine WO_loadB tbok 6 rfl rfl rfl rfl (fun _ h => h) rfl rfl ?_
        refine WO_pure tbok 2 [(1, .int .i16 p1), (2, .int .u8 p2), (6, .bool false), (7, .int .i64 (w64 (1 + (Int.tmod (w64 (p0_5)) 3)))), (12, .int .i64 (w64 ((w64 ((w64 (p2)) + 1)) + (w64 (p0_4))))), (13, .pointer (some ⟨b16, 0, none⟩)), (14, .func (.func 21) #[] #[.pointer (some ⟨b8, 0, none⟩), .pointer (some ⟨b4, 0, none⟩), .pointer (some ⟨b9, 0, none⟩), .pointer (some ⟨b5, 0, none⟩)]), (66, .int .i64 ((List.replicate 400 (0 : Int)).length : Int)), (67, .int .i64 0)] rfl ⟨rfl, rfl, rfl, rfl, rfl, rfl, rfl, rfl, rfl, trivial⟩ ?_
        refine WO_end ?_
        obtain ⟨x19, hx20, hm⟩ := bind_some hm
        refine WK_join (β := (List Int) × (List Ent)) (fun p => p.1 = x19 ∧ OwnE 3 1 (I1 .i64) (.slice (some ⟨b13, 0, none⟩) ((List.replicate 400 (0 : Int)).length) c14) p.1 p.2) (fun p => [(2, .int .u8 p2), (6, .bool false), (7, .int .i64 (w64 (1 + (Int.tmod (w64 (p0_5)) 3)))), (13, .pointer (some ⟨b16, 0, none⟩)), (14, .func (.func 21) #[] #[.pointer (some ⟨b8, 0, none⟩), .pointer (some ⟨b4, 0, none⟩), .pointer (some ⟨b9, 0, none⟩), .pointer (some ⟨b5, 0, none⟩)])]) (fun p => St w0 m m [[⟨b1, 40, [.int .u8 p0_0, .int .u8 p0_1, .int .u8 p0_2, .int .u8 p0_3, .int .u8 p0_4, .int .u8 p0_5]⟩], [⟨b4, 3, [.int .i64 s_2]⟩], [⟨b5, 3, [.int .i64 s_3]⟩], [⟨b8, 3, [.int .i64 s_4]⟩], [⟨b9, 3, [.int .i64 s_5]⟩], p.2, [⟨b16, 25, [.int .i64 0, .int .i64 0, .int .i64 10, .int .i64 20, .int .i64 20, .slice (some ⟨b13, 0, none⟩) ((List.replicate 400 (0 : Int)).length) c14]⟩]]) ?_ (fun hk21 => ?_)
        · rintro ⟨l_8, L18⟩ ⟨hq27, hL18⟩
          subst hq27
          refine WK.sub (e' := [(2, .int .u8 p2), (6, .bool false), (7, .int .i64 (w64 (1 + (Int.tmod (w64 (p0_5)) 3)))), (13, .pointer (some ⟨b16, 0, none⟩)), (14, .func (.func 21) #[] #[.pointer (some ⟨b8, 0, none⟩), .pointer (some ⟨b4, 0, none⟩), .pointer (some ⟨b9, 0, none⟩), .pointer (some ⟨b5, 0, none⟩)])]) ⟨rfl, rfl, rfl, rfl, rfl, trivial⟩ (WK.cls (C' := St w0 m m [[⟨b1, 40, [.int .u8 p0_0, .int .u8 p0_1, .int .u8 p0_2, .int .u8 p0_3, .int .u8 p0_4, .int .u8 p0_5]⟩], [⟨b4, 3, [.int .i64 s_2]⟩], [⟨b5, 3, [.int .i64 s_3]⟩], [⟨b8, 3, [.int .i64 s_4]⟩], [⟨b9, 3, [.int .i64 s_5]⟩], L18, [⟨b16, 25, [.int .i64 0, .int .i64 0, .int .i64 10, .int .i64 20, .int .i64 20, .slice (some ⟨b13, 0, none⟩) ((List.replicate 400 (0 : Int)).length) c14]⟩]]) (fun _ h => h) ?_)
          refine WK_seq ?_
          refine WK_region ?_
          refine WO_loadB tbok 6 rfl rfl rfl rfl (fun _ h => h) rfl rfl ?_
          refine WO_pure tbok 1 [(2, .int .u8 p2), (6, .bool false), (14, .func (.func 21) #[] #[.pointer (some ⟨b8, 0, none⟩), .pointer (some ⟨b4, 0, none⟩), .pointer (some ⟨b9, 0, none⟩), .pointer (some ⟨b5, 0, none⟩)]), (89, .agg #[.int .i64 0, .int .i64 0, .int .i64 10, .int .i64 20, .int .i64 20, .slice (some ⟨b13, 0, none⟩) ((List.replicate 400 (0 : Int)).length) c14]), (90, .int .i64 (w64 (1 + (Int.tmod (w64 (p0_5)) 3))))] rfl ⟨rfl, rfl, rfl, rfl, rfl, trivial⟩ ?_
          refine WO_bslice (E := (I1 .i64)) tbok (fun _ => rfl) (by decide) [.int .i64 (w64 (1 + (Int.tmod (w64 (p0_5)) 3)))] ([w64 (1 + (Int.tmod (w64 (p0_5)) 3))] : List Int) rfl rfl trivial rfl rfl rfl rfl rfl rfl rfl rfl rfl rfl rfl rfl (fun b28 hb28 => ?_)
          refine WO.cls (C' := St w0 m m [[⟨b1, 40, [.int .u8 p0_0, .int .u8 p0_1, .int .u8 p0_2, .int .u8 p0_3, .int .u8 p0_4, .int .u8 p0_5]⟩], [⟨b4, 3, [.int .i64 s_2]⟩], [⟨b5, 3, [.int .i64 s_3]⟩], [⟨b8, 3, [.int .i64 s_4]⟩], [⟨b9, 3, [.int .i64 s_5]⟩], L18, [⟨b16, 25, [.int .i64 0, .int .i64 0, .int .i64 10, .int .i64 20, .int .i64 20, .slice (some ⟨b13, 0, none⟩) ((List.replicate 400 (0 : Int)).length) c14]⟩], [⟨b28, 3, ([w64 (1 + (Int.tmod (w64 (p0_5)) 3))] : List Int).flatMap (I1 .i64)⟩]]) (fun _ h => h) ?_
          refine WO_pure tbok 2 [(6, .bool false), (14, .func (.func 21) #[] #[.pointer (some ⟨b8, 0, none⟩), .pointer (some ⟨b4, 0, none⟩), .pointer (some ⟨b9, 0, none⟩), .pointer (some ⟨b5, 0, none⟩)]), (89, .agg #[.int .i64 0, .int .i64 0, .int .i64 10, .int .i64 20, .int .i64 20, .slice (some ⟨b13, 0, none⟩) ((List.replicate 400 (0 : Int)).length) c14]), (91, .slice (some ⟨b28, 0, none⟩) 1 1), (93, .int .i64 (w64 (p2)))] rfl ⟨rfl, rfl, rfl, rfl, rfl, trivial⟩ ?_
          refine WO_bslice (E := (I1 .i64)) tbok (fun _ => rfl) (by decide) [.int .i64 (w64 (p2))] ([w64 (p2)] : List Int) rfl rfl trivial rfl rfl rfl rfl rfl rfl rfl rfl rfl rfl rfl rfl (fun b29 hb29 => ?_)
          refine WO.cls (C' := St w0 m m [[⟨b1, 40, [.int .u8 p0_0, .int .u8 p0_1, .int .u8 p0_2, .int .u8 p0_3, .int .u8 p0_4, .int .u8 p0_5]⟩], [⟨b4, 3, [.int .i64 s_2]⟩], [⟨b5, 3, [.int .i64 s_3]⟩], [⟨b8, 3, [.int .i64 s_4]⟩], [⟨b9, 3, [.int .i64 s_5]⟩], L18, [⟨b16, 25, [.int .i64 0, .int .i64 0, .int .i64 10, .int .i64 20, .int .i64 20, .slice (some ⟨b13, 0, none⟩) ((List.replicate 400 (0 : Int)).length) c14]⟩], [⟨b28, 3, ([w64 (1 + (Int.tmod (w64 (p0_5)) 3))] : List Int).flatMap (I1 .i64)⟩], [⟨b29, 3, ([w64 (p2)] : List Int).flatMap (I1 .i64)⟩]]) (fun _ h => h) ?_
          obtain ⟨⟨y_9, y_10⟩, hc30, hm⟩ := bind_some hm
          refine WO_call1 (terrain_Ground_Q (y_9, y_10)) rfl rfl trivial rfl rfl rfl rfl ⟨18, #[], #[], rfl, callable_18, fun w hw => ⟨_, hw.satV, terrain_Ground_walk (OwnE.rd (E := (I1 .i64)) (k := 1) (fun _ => rfl) hL18 (fun _ hx => hw.memV (i := 5) rfl hx)) (OwnE.rd (E := (I1 .i64)) (k := 1) (fun _ => rfl) hb28 (fun _ hx => hw.memV (i := 7) rfl hx)) (OwnE.rd (E := (I1 .i64)) (k := 1) (fun _ => rfl) hb29 (fun _ hx => hw.memV (i := 8) rfl hx)) hc30⟩⟩ (fun v34 L33 hq => ?_)
          obtain ⟨a31, qa31, c32, rfl, hL33⟩ := hq
          obtain rfl := OwnE.qlen hL33
          refine WO.cls (C' := St w0 m m [[⟨b1, 40, [.int .u8 p0_0, .int .u8 p0_1, .int .u8 p0_2, .int .u8 p0_3, .int .u8 p0_4, .int .u8 p0_5]⟩], [⟨b4, 3, [.int .i64 s_2]⟩], [⟨b5, 3, [.int .i64 s_3]⟩], [⟨b8, 3, [.int .i64 s_4]⟩], [⟨b9, 3, [.int .i64 s_5]⟩], L18, [⟨b16, 25, [.int .i64 0, .int .i64 0, .int .i64 10, .int .i64 20, .int .i64 20, .slice (some ⟨b13, 0, none⟩) ((List.replicate 400 (0 : Int)).length) c14]⟩], [⟨b28, 3, ([w64 (1 + (Int.tmod (w64 (p0_5)) 3))] : List Int).flatMap (I1 .i64)⟩], [⟨b29, 3, ([w64 (p2)] : List Int).flatMap (I1 .i64)⟩], L33]) (fun _ h => h) ?_
          refine WO_pure tbok 5 [(6, .bool false), (14, .func (.func 21) #[] #[.pointer (some ⟨b8, 0, none⟩), .pointer (some ⟨b4, 0, none⟩), .pointer (some ⟨b9, 0, none⟩), .pointer (some ⟨b5, 0, none⟩)]), (16, .slice a31 ((y_9).length) c32), (17, .int .i64 y_10)] rfl ⟨rfl, rfl, rfl, rfl, trivial⟩ ?_
          refine WO_end ?_
          refine WK_seq ?_
          refine WK_seq ?_
          obtain ⟨s_11, hx35, hm⟩ := bind_some hm
          refine WK_meet [(6, .bool false), (14, .func (.func 21) #[] #[.pointer (some ⟨b8, 0, none⟩), .pointer (some ⟨b4, 0, none⟩), .pointer (some ⟨b9, 0, none⟩), .pointer (some ⟨b5, 0, none⟩)]), (16, .slice a31 ((y_9).length) c32), (104, .bool s_11)] (St w0 m m [[⟨b1, 40, [.int .u8 p0_0, .int .u8 p0_1, .int .u8 p0_2, .int .u8 p0_3, .int .u8 p0_4, .int .u8 p0_5]⟩], [⟨b4, 3, [.int .i64 s_2]⟩], [⟨b5, 3, [.int .i64 s_3]⟩], [⟨b8, 3, [.int .i64 s_4]⟩], [⟨b9, 3, [.int .i64 s_5]⟩], L18, [⟨b16, 25, [.int .i64 0, .int .i64 0, .int .i64 10, .int .i64 20, .int .i64 20, .slice (some ⟨b13, 0, none⟩) ((List.replicate 400 (0 : Int)).length) c14]⟩], [⟨b28, 3, ([w64 (1 + (Int.tmod (w64 (p0_5)) 3))] : List Int).flatMap (I1 .i64)⟩], [⟨b29, 3, ([w64 (p2)] : List Int).flatMap (I1 .i64)⟩], L33]) ?_ (fun hk36 => ?_)
          · refine WK_cond (b := s_11) rfl (fun hb37 => ?_) (fun hb37 => ?_)
            · have hm := ifT hb37 hm
              refine WK_seq ?_
              refine WK_region ?_
              refine WO_pure tbok 1 [(6, .bool false), (14, .func (.func 21) #[] #[.pointer (some ⟨b8, 0, none⟩), .pointer (some ⟨b4, 0, none⟩), .pointer (some ⟨b9, 0, none⟩), .pointer (some ⟨b5, 0, none⟩)]), (16, .slice a31 ((y_9).length) c32)] rfl ⟨rfl, rfl, rfl, trivial⟩ ?_
              refine WO_end ?_
              cases hm
              exact WK_ret (ret_out (L := []) (RLc_tmp rfl RLc_nil) (List.nil_sublist _) rfl)
            · have hm := ifF hb37 hm
              refine WK_skip ?_
              refine WK_seq ?_
              refine WK_seq ?_
              refine WK_region ?_
              refine WO_pure tbok 3 [(6, .bool false), (14, .func (.func 21) #[] #[.pointer (some ⟨b8, 0, none⟩), .pointer (some ⟨b4, 0, none⟩), .pointer (some ⟨b9, 0, none⟩), .pointer (some ⟨b5, 0, none⟩)]), (16, .slice a31 ((y_9).length) c32), (106, .int .i64 ((y_9).length : Int)), (107, .int .i64 0)] rfl ⟨rfl, rfl, rfl, rfl, rfl, trivial⟩ ?_
              refine WO_end ?_
              obtain ⟨x38, hx39, hm⟩ := bind_some hm
              refine WK_join (β := Unit × Unit) (fun p => Sum.inr p.1 = x38) (fun p => [(6, .bool false)]) (fun p => St w0 m m [[⟨b1, 40, [.int .u8 p0_0, .int .u8 p0_1, .int .u8 p0_2, .int .u8 p0_3, .int .u8 p0_4, .int .u8 p0_5]⟩], [⟨b4, 3, [.int .i64 s_2]⟩], [⟨b5, 3, [.int .i64 s_3]⟩], [⟨b8, 3, [.int .i64 s_4]⟩], [⟨b9, 3, [.int .i64 s_5]⟩], L18, [⟨b16, 25, [.int .i64 0, .int .i64 0, .int .i64 10, .int .i64 20, .int .i64 20, .slice (some ⟨b13, 0, none⟩) ((List.replicate 400 (0 : Int)).length) c14]⟩], [⟨b28, 3, ([w64 (1 + (Int.tmod (w64 (p0_5)) 3))] : List Int).flatMap (I1 .i64)⟩], [⟨b29, 3, ([w64 (p2)] : List Int).flatMap (I1 .i64)⟩], L33]) ?_ (fun hk40 => ?_)
              · rintro ⟨⟨⟩, ⟨⟩⟩ hq46
                subst hq46
                refine WK.sub (e' := [(6, .bool false)]) ⟨rfl, trivial⟩ (WK.cls (C' := St w0 m m [[⟨b1, 40, [.int .u8 p0_0, .int .u8 p0_1, .int .u8 p0_2, .int .u8 p0_3, .int .u8 p0_4, .int .u8 p0_5]⟩], [⟨b4, 3, [.int .i64 s_2]⟩], [⟨b5, 3, [.int .i64 s_3]⟩], [⟨b8, 3, [.int .i64 s_4]⟩], [⟨b9, 3, [.int .i64 s_5]⟩], L18, [⟨b16, 25, [.int .i64 0, .int .i64 0, .int .i64 10, .int .i64 20, .int .i64 20, .slice (some ⟨b13, 0, none⟩) ((List.replicate 400 (0 : Int)).length) c14]⟩], [⟨b28, 3, ([w64 (1 + (Int.tmod (w64 (p0_5)) 3))] : List Int).flatMap (I1 .i64)⟩], [⟨b29, 3, ([w64 (p2)] : List Int).flatMap (I1 .i64)⟩], L33]) (fun _ h => h) ?_)
                refine WK_seq ?_
                refine WK_region ?_
                refine WO_pure tbok 1 [(6, .bool true)] rfl ⟨rfl, trivial⟩ ?_
                refine WO_end ?_
                cases hm
                exact WK_ret (ret_out (L := []) (RLc_tmp rfl RLc_nil) (List.nil_sublist _) rfl)
              · refine WK_block ?_
                refine WK_loop (S := Int) (G := Unit) (fun s => fiduciallaw48_TerrainBlocks_s2 s_2 s_3 s_4 s_5 y_9 s) (fun s g => [(6, .bool false), (14, .func (.func 21) #[] #[.pointer (some ⟨b8, 0, none⟩), .pointer (some ⟨b4, 0, none⟩), .pointer (some ⟨b9, 0, none⟩), .pointer (some ⟨b5, 0, none⟩)]), (16, .slice a31 ((y_9).length) c32), (106, .int .i64 ((y_9).length : Int)), (107, .int .i64 s)]) (fun s g => St w0 m m [[⟨b1, 40, [.int .u8 p0_0, .int .u8 p0_1, .int .u8 p0_2, .int .u8 p0_3, .int .u8 p0_4, .int .u8 p0_5]⟩], [⟨b4, 3, [.int .i64 s_2]⟩], [⟨b5, 3, [.int .i64 s_3]⟩], [⟨b8, 3, [.int .i64 s_4]⟩], [⟨b9, 3, [.int .i64 s_5]⟩], L18, [⟨b16, 25, [.int .i64 0, .int .i64 0, .int .i64 10, .int .i64 20, .int .i64 20, .slice (some ⟨b13, 0, none⟩) ((List.replicate 400 (0 : Int)).length) c14]⟩], [⟨b28, 3, ([w64 (1 + (Int.tmod (w64 (p0_5)) 3))] : List Int).flatMap (I1 .i64)⟩], [⟨b29, 3, ([w64 (p2)] : List Int).flatMap (I1 .i64)⟩], L33]) (fun s g => True) FUEL 0 () x38 hx39 trivial ⟨rfl, rfl, rfl, rfl, rfl, trivial⟩ (fun _ h => h) ?_
                rintro s_12 ⟨⟩ o42 fl43 hm41 - hn44 hd45
                have hm41 : fiduciallaw48_TerrainBlocks_s2 s_2 s_3 s_4 s_5 y_9 s_12 = some o42 := hm41
                unfold fiduciallaw48_TerrainBlocks_s2 at hm41
                refine WK.sub (e' := [(6, .bool false), (14, .func (.func 21) #[] #[.pointer (some ⟨b8, 0, none⟩), .pointer (some ⟨b4, 0, none⟩), .pointer (some ⟨b9, 0, none⟩), .pointer (some ⟨b5, 0, none⟩)]), (16, .slice a31 ((y_9).length) c32), (106, .int .i64 ((y_9).length : Int)), (107, .int .i64 s_12)]) ⟨rfl, rfl, rfl, rfl, rfl, trivial⟩ (WK.cls (C' := St w0 m m [[⟨b1, 40, [.int .u8 p0_0, .int .u8 p0_1, .int .u8 p0_2, .int .u8 p0_3, .int .u8 p0_4, .int .u8 p0_5]⟩], [⟨b4, 3, [.int .i64 s_2]⟩], [⟨b5, 3, [.int .i64 s_3]⟩], [⟨b8, 3, [.int .i64 s_4]⟩], [⟨b9, 3, [.int .i64 s_5]⟩], L18, [⟨b16, 25, [.int .i64 0, .int .i64 0, .int .i64 10, .int .i64 20, .int .i64 20, .slice (some ⟨b13, 0, none⟩) ((List.replicate 400 (0 : Int)).length) c14]⟩], [⟨b28, 3, ([w64 (1 + (Int.tmod (w64 (p0_5)) 3))] : List Int).flatMap (I1 .i64)⟩], [⟨b29, 3, ([w64 (p2)] : List Int).flatMap (I1 .i64)⟩], L33]) (fun _ h => h) ?_)
                refine WK_seq ?_
                refine WK_region ?_
                refine WO_pure tbok 1 [(6, .bool false), (14, .func (.func 21) #[] #[.pointer (some ⟨b8, 0, none⟩), .pointer (some ⟨b4, 0, none⟩), .pointer (some ⟨b9, 0, none⟩), .pointer (some ⟨b5, 0, none⟩)]), (16, .slice a31 ((y_9).length) c32), (106, .int .i64 ((y_9).length : Int)), (107, .int .i64 s_12), (108, .bool (decide (s_12 < ((y_9).length : Int))))] rfl ⟨rfl, rfl, rfl, rfl, rfl, rfl, trivial⟩ ?_
                refine WO_end ?_
                refine WK_seq ?_
                refine WK_cond (b := decide (s_12 < ((y_9).length : Int))) rfl (fun hb47 => ?_) (fun hb47 => ?_)
                · have hm41 := ifT hb47 hm41
                  refine WK_skip ?_
                  refine WK_seq ?_
                  refine WK_block ?_
                  refine WK_seq ?_
                  refine WK_region ?_
                  refine WO_pure tbok 2 [(6, .bool false), (14, .func (.func 21) #[] #[.pointer (some ⟨b8, 0, none⟩), .pointer (some ⟨b4, 0, none⟩), .pointer (some ⟨b9, 0, none⟩), .pointer (some ⟨b5, 0, none⟩)]), (16, .slice a31 ((y_9).length) c32), (18, .int .i64 s_12), (106, .int .i64 ((y_9).length : Int)), (107, .int .i64 s_12)] rfl ⟨rfl, rfl, rfl, rfl, rfl, rfl, trivial⟩ ?_
                  refine WO_end ?_
                  refine WK_seq ?_
                  refine WK_draw 8 [0, 1, 2, 3, 4, 5, 6, 7] follows_ok (by kernel_rfl) St_closed ?_
                  refine WO_pure tbok 2 [(6, .bool false), (14, .func (.func 21) #[] #[.pointer (some ⟨b8, 0, none⟩), .pointer (some ⟨b4, 0, none⟩), .pointer (some ⟨b9, 0, none⟩), .pointer (some ⟨b5, 0, none⟩)]), (16, .slice a31 ((y_9).length) c32), (18, .int .i64 s_12), (106, .int .i64 ((y_9).length : Int)), (107, .int .i64 s_12), (110, .slice a31 ((y_9).length) c32), (111, .int .i64 s_12)] rfl ⟨rfl, rfl, rfl, rfl, rfl, rfl, rfl, rfl, trivial⟩ ?_
                  obtain ⟨v_13, hy48, hm41⟩ := bind_some hm41
                  obtain ⟨hc49, hy48⟩ := ix_some hy48
                  refine WO_index tbok rfl rfl rfl rfl rfl rfl rfl rfl (OwnE.addr hL33) (by simpa using hc49) ?_
                  refine WO_loadO (E := B1) tbok (fun _ => rfl) 9 rfl rfl rfl rfl (fun _ h => h) hL33 rfl hy48 rfl ?_
                  refine WO_pure tbok 2 [(6, .bool false), (14, .func (.func 21) #[] #[.pointer (some ⟨b8, 0, none⟩), .pointer (some ⟨b4, 0, none⟩), .pointer (some ⟨b9, 0, none⟩), .pointer (some ⟨b5, 0, none⟩)]), (16, .slice a31 ((y_9).length) c32), (106, .int .i64 ((y_9).length : Int)), (107, .int .i64 s_12), (113, .bool v_13), (114, .func (.func 21) #[] #[.pointer (some ⟨b8, 0, none⟩), .pointer (some ⟨b4, 0, none⟩), .pointer (some ⟨b9, 0, none⟩), .pointer (some ⟨b5, 0, none⟩)]), (115, .int .i64 s_12)] rfl ⟨rfl, rfl, rfl, rfl, rfl, rfl, rfl, rfl, trivial⟩ ?_
                  obtain ⟨y_14, hc50, hm41⟩ := bind_some hm41
                  refine WO_call0 (.bool y_14) rfl rfl St_closed rfl rfl rfl rfl St_closed ⟨21, #[], #[.pointer (some ⟨b8, 0, none⟩), .pointer (some ⟨b4, 0, none⟩), .pointer (some ⟨b9, 0, none⟩), .pointer (some ⟨b5, 0, none⟩)], rfl, callable_21, fun w hw => ⟨_, hw.satV, fiduciallaw48_TerrainBlocks_c1_walk (hw.memV (i := 3) rfl (List.mem_singleton.2 rfl)) (hw.memV (i := 1) rfl (List.mem_singleton.2 rfl)) (hw.memV (i := 4) rfl (List.mem_singleton.2 rfl)) (hw.memV (i := 2) rfl (List.mem_singleton.2 rfl)) hc50⟩⟩ ?_
                  refine WO_pure tbok 1 [(6, .bool false), (14, .func (.func 21) #[] #[.pointer (some ⟨b8, 0, none⟩), .pointer (some ⟨b4, 0, none⟩), .pointer (some ⟨b9, 0, none⟩), .pointer (some ⟨b5, 0, none⟩)]), (16, .slice a31 ((y_9).length) c32), (106, .int .i64 ((y_9).length : Int)), (107, .int .i64 s_12), (117, .bool (v_13 == y_14))] rfl ⟨rfl, rfl, rfl, rfl, rfl, rfl, trivial⟩ ?_
                  refine WO_tail ?_
                  refine WO_end ?_
                  refine WK_cond (b := v_13 == y_14) rfl (fun hb51 => ?_) (fun hb51 => ?_)
                  · have hm41 := ifT hb51 hm41
                    refine WK_seq ?_
                    refine WK_region ?_
                    refine WO_pure tbok 1 [(6, .bool false), (14, .func (.func 21) #[] #[.pointer (some ⟨b8, 0, none⟩), .pointer (some ⟨b4, 0, none⟩), .pointer (some ⟨b9, 0, none⟩), .pointer (some ⟨b5, 0, none⟩)]), (16, .slice a31 ((y_9).length) c32), (106, .int .i64 ((y_9).length : Int)), (107, .int .i64 s_12)] rfl ⟨rfl, rfl, rfl, rfl, rfl, trivial⟩ ?_
                    refine WO_end ?_
                    cases hm41
                    have hq := hd45 _ rfl
                    subst hq
                    have hm : some _ = some _ := hm
                    cases hm
                    exact WK_ret (ret_out (L := []) (RLc_tmp rfl RLc_nil) (List.nil_sublist _) rfl)
                  · have hm41 := ifF hb51 hm41
                    refine WK_skip ?_
                    refine WK_blk ?_
                    refine WK_region ?_
                    refine WO_pure tbok 2 [(6, .bool false), (14, .func (.func 21) #[] #[.pointer (some ⟨b8, 0, none⟩), .pointer (some ⟨b4, 0, none⟩), .pointer (some ⟨b9, 0, none⟩), .pointer (some ⟨b5, 0, none⟩)]), (16, .slice a31 ((y_9).length) c32), (106, .int .i64 ((y_9).length : Int)), (107, .int .i64 (w64 (s_12 + 1)))] rfl ⟨rfl, rfl, rfl, rfl, rfl, trivial⟩ ?_
                    refine WO_end ?_
                    cases hm41
                    refine WK.sub ?_ (WK.cls (fun _ h => h) (hn44 _ () rfl trivial))
                    exact ⟨rfl, rfl, rfl, rfl, rfl, trivial⟩
                · have hm41 := ifF hb47 hm41
                  refine WK_exit rfl ?_
                  cases hm41
                  refine WK.sub ?_ (WK.cls (fun _ h => h) (hk40 ((), ()) (hd45 _ rfl)))
                  exact ⟨rfl, trivial⟩
          · refine WK_region ?_
            refine WO_pure tbok 3 [(6, .bool false), (14, .func (.func 21) #[] #[.pointer (some ⟨b8, 0, none⟩), .pointer (some ⟨b4, 0, none⟩), .pointer (some ⟨b9, 0, none⟩), .pointer (some ⟨b5, 0, none⟩)]), (16, .slice a31 ((y_9).length) c32), (100, .bool (y_10 != 0))] rfl ⟨rfl, rfl, rfl, rfl, trivial⟩ ?_
            refine WO_split (d := 100) (b := y_10 != 0) rfl (fun hb52 => ?_) (fun hb52 => ?_)
            · have hx35 := ifT hb52 hx35
              refine WO_pure tbok 4 [(6, .bool false), (14, .func (.func 21) #[] #[.pointer (some ⟨b8, 0, none⟩), .pointer (some ⟨b4, 0, none⟩), .pointer (some ⟨b9, 0, none⟩), .pointer (some ⟨b5, 0, none⟩)]), (16, .slice a31 ((y_9).length) c32), (104, .bool true)] rfl ⟨rfl, rfl, rfl, rfl, trivial⟩ ?_
              refine WO_end ?_
              cases hx35
              refine WK.sub ?_ (WK.cls (fun _ h => h) hk36)
              exact ⟨rfl, rfl, rfl, rfl, trivial⟩
            · have hx35 := ifF hb52 hx35
              refine WO_pure tbok 4 [(6, .bool false), (14, .func (.func 21) #[] #[.pointer (some ⟨b8, 0, none⟩), .pointer (some ⟨b4, 0, none⟩), .pointer (some ⟨b9, 0, none⟩), .pointer (some ⟨b5, 0, none⟩)]), (16, .slice a31 ((y_9).length) c32), (104, .bool (((y_9).length : Int) != 400))] rfl ⟨rfl, rfl, rfl, rfl, trivial⟩ ?_
              refine WO_end ?_
              cases hx35
              refine WK.sub ?_ (WK.cls (fun _ h => h) hk36)
              exact ⟨rfl, rfl, rfl, rfl, trivial⟩
        · refine WK_block ?_
          refine WK_loop (S := List Int × Int) (G := List Ent) (fun s => fiduciallaw48_TerrainBlocks_s1 p0_4 p1 p2 s_2 s_3 s_4 s_5 s.1 s.2) (fun s g => [(1, .int .i16 p1), (2, .int .u8 p2), (6, .bool false), (7, .int .i64 (w64 (1 + (Int.tmod (w64 (p0_5)) 3)))), (12, .int .i64 (w64 ((w64 ((w64 (p2)) + 1)) + (w64 (p0_4))))), (13, .pointer (some ⟨b16, 0, none⟩)), (14, .func (.func 21) #[] #[.pointer (some ⟨b8, 0, none⟩), .pointer (some ⟨b4, 0, none⟩), .pointer (some ⟨b9, 0, none⟩), .pointer (some ⟨b5, 0, none⟩)]), (66, .int .i64 ((List.replicate 400 (0 : Int)).length : Int)), (67, .int .i64 s.2)]) (fun s g => St w0 m m [[⟨b1, 40, [.int .u8 p0_0, .int .u8 p0_1, .int .u8 p0_2, .int .u8 p0_3, .int .u8 p0_4, .int .u8 p0_5]⟩], [⟨b4, 3, [.int .i64 s_2]⟩], [⟨b5, 3, [.int .i64 s_3]⟩], [⟨b8, 3, [.int .i64 s_4]⟩], [⟨b9, 3, [.int .i64 s_5]⟩], g, [⟨b16, 25, [.int .i64 0, .int .i64 0, .int .i64 10, .int .i64 20, .int .i64 20, .slice (some ⟨b13, 0, none⟩) ((List.replicate 400 (0 : Int)).length) c14]⟩]]) (fun s g => OwnE 3 1 (I1 .i64) (.slice (some ⟨b13, 0, none⟩) ((List.replicate 400 (0 : Int)).length) c14) s.1 g) FUEL ((List.replicate 400 (0 : Int)), 0) L15 x19 hx20 hL15 ⟨rfl, rfl, rfl, rfl, rfl, rfl, rfl, rfl, rfl, trivial⟩ (fun _ h => h) ?_
          rintro ⟨l_6, s_7⟩ L17 o23 fl24 hm22 hL17 hn25 hd26
          have hm22 : fiduciallaw48_TerrainBlocks_s1 p0_4 p1 p2 s_2 s_3 s_4 s_5 l_6 s_7 = some o23 := hm22
          unfold fiduciallaw48_TerrainBlocks_s1 at hm22
          refine WK.sub (e' := [(1, .int .i16 p1), (2, .int .u8 p2), (6, .bool false), (7, .int .i64 (w64 (1 + (Int.tmod (w64 (p0_5)) 3)))), (12, .int .i64 (w64 ((w64 ((w64 (p2)) + 1)) + (w64 (p0_4))))), (13, .pointer (some ⟨b16, 0, none⟩)), (14, .func (.func 21) #[] #[.pointer (some ⟨b8, 0, none⟩), .pointer (some ⟨b4, 0, none⟩), .pointer (some ⟨b9, 0, none⟩), .pointer (some ⟨b5, 0, none⟩)]), (66, .int .i64 ((List.replicate 400 (0 : Int)).length : Int)), (67, .int .i64 s_7)]) ⟨rfl, rfl, rfl, rfl, rfl, rfl, rfl, rfl, rfl, trivial⟩ (WK.cls (C' := St w0 m m [[⟨b1, 40, [.int .u8 p0_0, .int .u8 p0_1, .int .u8 p0_2, .int .u8 p0_3, .int .u8 p0_4, .int .u8 p0_5]⟩], [⟨b4, 3, [.int .i64 s_2]⟩], [⟨b5, 3, [.int .i64 s_3]⟩], [⟨b8, 3, [.int .i64 s_4]⟩], [⟨b9, 3, [.int .i64 s_5]⟩], L17, [⟨b16, 25, [.int .i64 0, .int .i64 0, .int .i64 10, .int .i64 20, .int .i64 20, .slice (some ⟨b13, 0, none⟩) ((List.replicate 400 (0 : Int)).length) c14]⟩]]) (fun _ h => h) ?_)
          refine WK_seq ?_
          refine WK_region ?_
          refine WO_pure tbok 1 [(1, .int .i16 p1), (2, .int .u8 p2), (6, .bool false), (7, .int .i64 (w64 (1 + (Int.tmod (w64 (p0_5)) 3)))), (12, .int .i64 (w64 ((w64 ((w64 (p2)) + 1)) + (w64 (p0_4))))), (13, .pointer (some ⟨b16, 0, none⟩)), (14, .func (.func 21) #[] #[.pointer (some ⟨b8, 0, none⟩), .pointer (some ⟨b4, 0, none⟩), .pointer (some ⟨b9, 0, none⟩), .pointer (some ⟨b5, 0, none⟩)]), (66, .int .i64 ((List.replicate 400 (0 : Int)).length : Int)), (67, .int .i64 s_7), (68, .bool (decide (s_7 < ((List.replicate 400 (0 : Int)).length : Int))))] rfl ⟨rfl, rfl, rfl, rfl, rfl, rfl, rfl, rfl, rfl, rfl, trivial⟩ ?_
          refine WO_end ?_
          refine WK_seq ?_
          refine WK_cond (b := decide (s_7 < ((List.replicate 400 (0 : Int)).length : Int))) rfl (fun hb53 => ?_) (fun hb53 => ?_)
          · have hm22 := ifT hb53 hm22
            refine WK_skip ?_
            refine WK_seq ?_
            refine WK_block ?_
            refine WK_seq ?_
            refine WK_region ?_
            refine WO_pure tbok 2 [(1, .int .i16 p1), (2, .int .u8 p2), (6, .bool false), (7, .int .i64 (w64 (1 + (Int.tmod (w64 (p0_5)) 3)))), (12, .int .i64 (w64 ((w64 ((w64 (p2)) + 1)) + (w64 (p0_4))))), (13, .pointer (some ⟨b16, 0, none⟩)), (14, .func (.func 21) #[] #[.pointer (some ⟨b8, 0, none⟩), .pointer (some ⟨b4, 0, none⟩), .pointer (some ⟨b9, 0, none⟩), .pointer (some ⟨b5, 0, none⟩)]), (15, .int .i64 s_7), (66, .int .i64 ((List.replicate 400 (0 : Int)).length : Int)), (67, .int .i64 s_7)] rfl ⟨rfl, rfl, rfl, rfl, rfl, rfl, rfl, rfl, rfl, rfl, trivial⟩ ?_
            refine WO_end ?_
            refine WK_seq ?_
            refine WK_region ?_
            refine WO_pure tbok 1 [(1, .int .i16 p1), (2, .int .u8 p2), (6, .bool false), (7, .int .i64 (w64 (1 + (Int.tmod (w64 (p0_5)) 3)))), (12, .int .i64 (w64 ((w64 ((w64 (p2)) + 1)) + (w64 (p0_4))))), (13, .pointer (some ⟨b16, 0, none⟩)), (14, .func (.func 21) #[] #[.pointer (some ⟨b8, 0, none⟩), .pointer (some ⟨b4, 0, none⟩), .pointer (some ⟨b9, 0, none⟩), .pointer (some ⟨b5, 0, none⟩)]), (15, .int .i64 s_7), (66, .int .i64 ((List.replicate 400 (0 : Int)).length : Int)), (67, .int .i64 s_7), (70, .pointer (some ⟨b16, 5, none⟩))] rfl ⟨rfl, rfl, rfl, rfl, rfl, rfl, rfl, rfl, rfl, rfl, rfl, trivial⟩ ?_
            refine WO_loadB tbok 6 rfl rfl rfl rfl (fun _ h => h) rfl rfl ?_
            refine WO_pure tbok 3 [(1, .int .i16 p1), (2, .int .u8 p2), (6, .bool false), (7, .int .i64 (w64 (1 + (Int.tmod (w64 (p0_5)) 3)))), (12, .int .i64 (w64 ((w64 ((w64 (p2)) + 1)) + (w64 (p0_4))))), (13, .pointer (some ⟨b16, 0, none⟩)), (14, .func (.func 21) #[] #[.pointer (some ⟨b8, 0, none⟩), .pointer (some ⟨b4, 0, none⟩), .pointer (some ⟨b9, 0, none⟩), .pointer (some ⟨b5, 0, none⟩)]), (15, .int .i64 s_7), (66, .int .i64 ((List.replicate 400 (0 : Int)).length : Int)), (67, .int .i64 s_7), (71, .slice (some ⟨b13, 0, none⟩) ((List.replicate 400 (0 : Int)).length) c14), (72, .int .i64 s_7), (74, .int .i64 (w64 (p1)))] rfl ⟨rfl, rfl, rfl, rfl, rfl, rfl, rfl, rfl, rfl, rfl, rfl, rfl, rfl, trivial⟩ ?_
            obtain ⟨hc54, hm22⟩ := chk_some hm22
            refine WO_index tbok rfl rfl rfl rfl rfl rfl rfl rfl (OwnE.addr hL17) (by simpa using hc54) ?_
            refine WO_storeO (E := (I1 .i64)) tbok (fun _ => rfl) 5 (w64 (p1)) rfl rfl rfl rfl rfl hL17 rfl (by simpa using idx_lt hc54) rfl rfl rfl rfl (fun L55 hL55 => ?_)
            refine WO.cls (C' := St w0 m m [[⟨b1, 40, [.int .u8 p0_0, .int .u8 p0_1, .int .u8 p0_2, .int .u8 p0_3, .int .u8 p0_4, .int .u8 p0_5]⟩], [⟨b4, 3, [.int .i64 s_2]⟩], [⟨b5, 3, [.int .i64 s_3]⟩], [⟨b8, 3, [.int .i64 s_4]⟩], [⟨b9, 3, [.int .i64 s_5]⟩], L55, [⟨b16, 25, [.int .i64 0, .int .i64 0, .int .i64 10, .int .i64 20, .int .i64 20, .slice (some ⟨b13, 0, none⟩) ((List.replicate 400 (0 : Int)).length) c14]⟩]]) (fun _ h => h) ?_
            refine WO_end ?_
            refine WK_seq ?_
            refine WK_region ?_
            refine WO_pure tbok 2 [(1, .int .i16 p1), (2, .int .u8 p2), (6, .bool false), (7, .int .i64 (w64 (1 + (Int.tmod (w64 (p0_5)) 3)))), (12, .int .i64 (w64 ((w64 ((w64 (p2)) + 1)) + (w64 (p0_4))))), (13, .pointer (some ⟨b16, 0, none⟩)), (14, .func (.func 21) #[] #[.pointer (some ⟨b8, 0, none⟩), .pointer (some ⟨b4, 0, none⟩), .pointer (some ⟨b9, 0, none⟩), .pointer (some ⟨b5, 0, none⟩)]), (15, .int .i64 s_7), (66, .int .i64 ((List.replicate 400 (0 : Int)).length : Int)), (67, .int .i64 s_7), (76, .func (.func 21) #[] #[.pointer (some ⟨b8, 0, none⟩), .pointer (some ⟨b4, 0, none⟩), .pointer (some ⟨b9, 0, none⟩), .pointer (some ⟨b5, 0, none⟩)]), (77, .int .i64 s_7)] rfl ⟨rfl, rfl, rfl, rfl, rfl, rfl, rfl, rfl, rfl, rfl, rfl, rfl, trivial⟩ ?_
            obtain ⟨y_15, hc56, hm22⟩ := bind_some hm22
            refine WO_call0 (.bool y_15) rfl rfl trivial rfl rfl rfl rfl St_closed ⟨21, #[], #[.pointer (some ⟨b8, 0, none⟩), .pointer (some ⟨b4, 0, none⟩), .pointer (some ⟨b9, 0, none⟩), .pointer (some ⟨b5, 0, none⟩)], rfl, callable_21, fun w hw => ⟨_, hw.satV, fiduciallaw48_TerrainBlocks_c1_walk (hw.memV (i := 3) rfl (List.mem_singleton.2 rfl)) (hw.memV (i := 1) rfl (List.mem_singleton.2 rfl)) (hw.memV (i := 4) rfl (List.mem_singleton.2 rfl)) (hw.memV (i := 2) rfl (List.mem_singleton.2 rfl)) hc56⟩⟩ ?_
            refine WO_end ?_
            obtain ⟨l_16, hx58, hm22⟩ := bind_some hm22
            refine WK_join (β := List Ent) (fun p => OwnE 3 1 (I1 .i64) (.slice (some ⟨b13, 0, none⟩) ((List.replicate 400 (0 : Int)).length) c14) l_16 p) (fun p => [(1, .int .i16 p1), (2, .int .u8 p2), (6, .bool false), (7, .int .i64 (w64 (1 + (Int.tmod (w64 (p0_5)) 3)))), (12, .int .i64 (w64 ((w64 ((w64 (p2)) + 1)) + (w64 (p0_4))))), (13, .pointer (some ⟨b16, 0, none⟩)), (14, .func (.func 21) #[] #[.pointer (some ⟨b8, 0, none⟩), .pointer (some ⟨b4, 0, none⟩), .pointer (some ⟨b9, 0, none⟩), .pointer (some ⟨b5, 0, none⟩)]), (66, .int .i64 ((List.replicate 400 (0 : Int)).length : Int)), (67, .int .i64 s_7)]) (fun p => St w0 m m [[⟨b1, 40, [.int .u8 p0_0, .int .u8 p0_1, .int .u8 p0_2, .int .u8 p0_3, .int .u8 p0_4, .int .u8 p0_5]⟩], [⟨b4, 3, [.int .i64 s_2]⟩], [⟨b5, 3, [.int .i64 s_3]⟩], [⟨b8, 3, [.int .i64 s_4]⟩], [⟨b9, 3, [.int .i64 s_5]⟩], p, [⟨b16, 25, [.int .i64 0, .int .i64 0, .int .i64 10, .int .i64 20, .int .i64 20, .slice (some ⟨b13, 0, none⟩) ((List.replicate 400 (0 : Int)).length) c14]⟩]]) ?_ (fun hk59 => ?_)
            · rintro L57 hL57
              refine WK.sub (e' := [(1, .int .i16 p1), (2, .int .u8 p2), (6, .bool false), (7, .int .i64 (w64 (1 + (Int.tmod (w64 (p0_5)) 3)))), (12, .int .i64 (w64 ((w64 ((w64 (p2)) + 1)) + (w64 (p0_4))))), (13, .pointer (some ⟨b16, 0, none⟩)), (14, .func (.func 21) #[] #[.pointer (some ⟨b8, 0, none⟩), .pointer (some ⟨b4, 0, none⟩), .pointer (some ⟨b9, 0, none⟩), .pointer (some ⟨b5, 0, none⟩)]), (66, .int .i64 ((List.replicate 400 (0 : Int)).length : Int)), (67, .int .i64 s_7)]) ⟨rfl, rfl, rfl, rfl, rfl, rfl, rfl, rfl, rfl, trivial⟩ (WK.cls (C' := St w0 m m [[⟨b1, 40, [.int .u8 p0_0, .int .u8 p0_1, .int .u8 p0_2, .int .u8 p0_3, .int .u8 p0_4, .int .u8 p0_5]⟩], [⟨b4, 3, [.int .i64 s_2]⟩], [⟨b5, 3, [.int .i64 s_3]⟩], [⟨b8, 3, [.int .i64 s_4]⟩], [⟨b9, 3, [.int .i64 s_5]⟩], L57, [⟨b16, 25, [.int .i64 0, .int .i64 0, .int .i64 10, .int .i64 20, .int .i64 20, .slice (some ⟨b13, 0, none⟩) ((List.replicate 400 (0 : Int)).length) c14]⟩]]) (fun _ h => h) ?_)
              refine WK_blk ?_
              refine WK_region ?_
              refine WO_pure tbok 2 [(1, .int .i16 p1), (2, .int .u8 p2), (6, .bool false), (7, .int .i64 (w64 (1 + (Int.tmod (w64 (p0_5)) 3)))), (12, .int .i64 (w64 ((w64 ((w64 (p2)) + 1)) + (w64 (p0_4))))), (13, .pointer (some ⟨b16, 0, none⟩)), (14, .func (.func 21) #[] #[.pointer (some ⟨b8, 0, none⟩), .pointer (some ⟨b4, 0, none⟩), .pointer (some ⟨b9, 0, none⟩), .pointer (some ⟨b5, 0, none⟩)]), (66, .int .i64 ((List.replicate 400 (0 : Int)).length : Int)), (67, .int .i64 (w64 (s_7 + 1)))] rfl ⟨rfl, rfl, rfl, rfl, rfl, rfl, rfl, rfl, rfl, trivial⟩ ?_
              refine WO_end ?_
              cases hm22
              refine WK.sub ?_ (WK.cls (fun _ h => h) (hn25 _ L57 rfl hL57))
              exact ⟨rfl, rfl, rfl, rfl, rfl, rfl, rfl, rfl, rfl, trivial⟩
            · refine WK_cond (b := y_15) rfl (fun hb60 => ?_) (fun hb60 => ?_)
              · have hx58 := ifT hb60 hx58
                refine WK_region ?_
                refine WO_pure tbok 1 [(1, .int .i16 p1), (2, .int .u8 p2), (6, .bool false), (7, .int .i64 (w64 (1 + (Int.tmod (w64 (p0_5)) 3)))), (12, .int .i64 (w64 ((w64 ((w64 (p2)) + 1)) + (w64 (p0_4))))), (13, .pointer (some ⟨b16, 0, none⟩)), (14, .func (.func 21) #[] #[.pointer (some ⟨b8, 0, none⟩), .pointer (some ⟨b4, 0, none⟩), .pointer (some ⟨b9, 0, none⟩), .pointer (some ⟨b5, 0, none⟩)]), (15, .int .i64 s_7), (66, .int .i64 ((List.replicate 400 (0 : Int)).length : Int)), (67, .int .i64 s_7), (79, .pointer (some ⟨b16, 5, none⟩))] rfl ⟨rfl, rfl, rfl, rfl, rfl, rfl, rfl, rfl, rfl, rfl, rfl, trivial⟩ ?_
                refine WO_loadB tbok 6 rfl rfl rfl rfl (fun _ h => h) rfl rfl ?_
                refine WO_pure tbok 1 [(1, .int .i16 p1), (2, .int .u8 p2), (6, .bool false), (7, .int .i64 (w64 (1 + (Int.tmod (w64 (p0_5)) 3)))), (12, .int .i64 (w64 ((w64 ((w64 (p2)) + 1)) + (w64 (p0_4))))), (13, .pointer (some ⟨b16, 0, none⟩)), (14, .func (.func 21) #[] #[.pointer (some ⟨b8, 0, none⟩), .pointer (some ⟨b4, 0, none⟩), .pointer (some ⟨b9, 0, none⟩), .pointer (some ⟨b5, 0, none⟩)]), (66, .int .i64 ((List.replicate 400 (0 : Int)).length : Int)), (67, .int .i64 s_7), (80, .slice (some ⟨b13, 0, none⟩) ((List.replicate 400 (0 : Int)).length) c14), (81, .int .i64 s_7)] rfl ⟨rfl, rfl, rfl, rfl, rfl, rfl, rfl, rfl, rfl, rfl, rfl, trivial⟩ ?_
                obtain ⟨v_17, hy61, hx58⟩ := bind_some hx58
                obtain ⟨hc62, hy61⟩ := ix_some hy61
                refine WO_index tbok rfl rfl rfl rfl rfl rfl rfl rfl (OwnE.addr hL55) (by simpa using hc62) ?_
                refine WO_loadO (E := (I1 .i64)) tbok (fun _ => rfl) 5 rfl rfl rfl rfl (fun _ h => h) hL55 rfl hy61 rfl ?_
                refine WO_pure tbok 2 [(1, .int .i16 p1), (2, .int .u8 p2), (6, .bool false), (7, .int .i64 (w64 (1 + (Int.tmod (w64 (p0_5)) 3)))), (12, .int .i64 (w64 ((w64 ((w64 (p2)) + 1)) + (w64 (p0_4))))), (13, .pointer (some ⟨b16, 0, none⟩)), (14, .func (.func 21) #[] #[.pointer (some ⟨b8, 0, none⟩), .pointer (some ⟨b4, 0, none⟩), .pointer (some ⟨b9, 0, none⟩), .pointer (some ⟨b5, 0, none⟩)]), (66, .int .i64 ((List.replicate 400 (0 : Int)).length : Int)), (67, .int .i64 s_7), (80, .slice (some ⟨b13, 0, none⟩) ((List.replicate 400 (0 : Int)).length) c14), (81, .int .i64 s_7), (85, .int .i64 (w64 (v_17 + (w64 ((w64 ((w64 (p2)) + 1)) + (w64 (p0_4)))))))] rfl ⟨rfl, rfl, rfl, rfl, rfl, rfl, rfl, rfl, rfl, rfl, rfl, rfl, trivial⟩ ?_
                obtain ⟨hc63, hx58⟩ := chk_some hx58
                refine WO_index tbok rfl rfl rfl rfl rfl rfl rfl rfl (OwnE.addr hL55) (by simpa using hc63) ?_
                refine WO_storeO (E := (I1 .i64)) tbok (fun _ => rfl) 5 (w64 (v_17 + (w64 ((w64 ((w64 (p2)) + 1)) + (w64 (p0_4)))))) rfl rfl rfl rfl rfl hL55 rfl (by simpa using idx_lt hc63) rfl rfl rfl rfl (fun L64 hL64 => ?_)
                refine WO.cls (C' := St w0 m m [[⟨b1, 40, [.int .u8 p0_0, .int .u8 p0_1, .int .u8 p0_2, .int .u8 p0_3, .int .u8 p0_4, .int .u8 p0_5]⟩], [⟨b4, 3, [.int .i64 s_2]⟩], [⟨b5, 3, [.int .i64 s_3]⟩], [⟨b8, 3, [.int .i64 s_4]⟩], [⟨b9, 3, [.int .i64 s_5]⟩], L64, [⟨b16, 25, [.int .i64 0, .int .i64 0, .int .i64 10, .int .i64 20, .int .i64 20, .slice (some ⟨b13, 0, none⟩) ((List.replicate 400 (0 : Int)).length) c14]⟩]]) (fun _ h => h) ?_
                refine WO_end ?_
                cases hx58
                refine WK.sub ?_ (WK.cls (fun _ h => h) (hk59 L64 hL64))
                exact ⟨rfl, rfl, rfl, rfl, rfl, rfl, rfl, rfl, rfl, trivial⟩
              · have hx58 := ifF hb60 hx58
                refine WK_skip ?_
                cases hx58
                refine WK.sub ?_ (WK.cls (fun _ h => h) (hk59 L55 hL55))
                exact ⟨rfl, rfl, rfl, rfl, rfl, rfl, rfl, rfl, rfl, trivial⟩
          · have hm22 := ifF hb53 hm22
            refine WK_exit rfl ?_
            cases hm22
            refine WK.sub ?_ (WK.cls (fun _ h => h) (hk21 (l_6, L17) ⟨(hd26 _ rfl), hL17⟩))
            exact ⟨rfl, rfl, rfl, rfl, rfl, trivial⟩
      · refine WK_plan 20 [0, 8] (.run [1, 2, 3, 4, 5, 6, 7, 9, 10, 11, 12, 13, 14, 15] (.alt 16 (.run [17, 18, 19] .fin) (.alt 17 (.run [16, 18, 19] .fin) .none))) follows_ok (by kernel_rfl) St_closed ?_
        refine WO_pure tbok 2 [(1, .int .i16 p1), (2, .int .u8 p2), (3, .pointer (some ⟨b1, 0, none⟩)), (6, .bool false), (7, .int .i64 (w64 (1 + (Int.tmod (w64 (p0_5)) 3)))), (8, .pointer (some ⟨b4, 0, none⟩)), (9, .pointer (some ⟨b5, 0, none⟩)), (38, .pointer (some ⟨b1, 0, none⟩)), (46, .pointer (some ⟨b1, 1, none⟩))] rfl ⟨rfl, rfl, rfl, rfl, rfl, rfl, rfl, rfl, rfl, trivial⟩ ?_
        refine WO_plan ?_
        refine WT_run ?_
        refine WO_loadB tbok 0 rfl rfl rfl rfl (fun _ h => h) rfl rfl ?_
        refine WO_pure tbok 1 [(1, .int .i16 p1), (2, .int .u8 p2), (3, .pointer (some ⟨b1, 0, none⟩)), (6, .bool false), (7, .int .i64 (w64 (1 + (Int.tmod (w64 (p0_5)) 3)))), (8, .pointer (some ⟨b4, 0, none⟩)), (9, .pointer (some ⟨b5, 0, none⟩)), (40, .int .i64 (w64 (p0_0))), (46, .pointer (some ⟨b1, 1, none⟩))] rfl ⟨rfl, rfl, rfl, rfl, rfl, rfl, rfl, rfl, rfl, trivial⟩ ?_
        refine WO_loadB tbok 1 rfl rfl rfl rfl (fun _ h => h) rfl rfl ?_
        refine WO_pure tbok 2 [(1, .int .i16 p1), (2, .int .u8 p2), (3, .pointer (some ⟨b1, 0, none⟩)), (6, .bool false), (7, .int .i64 (w64 (1 + (Int.tmod (w64 (p0_5)) 3)))), (8, .pointer (some ⟨b4, 0, none⟩)), (9, .pointer (some ⟨b5, 0, none⟩)), (40, .int .i64 (w64 (p0_0))), (43, .int .i64 (w64 ((w64 (20 - s_2)) - 1))), (46, .pointer (some ⟨b1, 1, none⟩))] rfl ⟨rfl, rfl, rfl, rfl, rfl, rfl, rfl, rfl, rfl, rfl, trivial⟩ ?_
        obtain ⟨hc65, hx10⟩ := chk_some hx10
        refine WO_rem rfl rfl rfl rfl rfl hc65 ?_
        refine WO_pure tbok 1 [(1, .int .i16 p1), (2, .int .u8 p2), (3, .pointer (some ⟨b1, 0, none⟩)), (6, .bool false), (7, .int .i64 (w64 (1 + (Int.tmod (w64 (p0_5)) 3)))), (8, .pointer (some ⟨b4, 0, none⟩)), (9, .pointer (some ⟨b5, 0, none⟩)), (45, .int .i64 (w64 (1 + (Int.tmod (w64 (p0_0)) (w64 ((w64 (20 - s_2)) - 1)))))), (46, .pointer (some ⟨b1, 1, none⟩))] rfl ⟨rfl, rfl, rfl, rfl, rfl, rfl, rfl, rfl, rfl, trivial⟩ ?_
        refine WO_loadB tbok 0 rfl rfl rfl rfl (fun _ h => h) rfl rfl ?_
        refine WO_pure tbok 1 [(1, .int .i16 p1), (2, .int .u8 p2), (3, .pointer (some ⟨b1, 0, none⟩)), (6, .bool false), (7, .int .i64 (w64 (1 + (Int.tmod (w64 (p0_5)) 3)))), (8, .pointer (some ⟨b4, 0, none⟩)), (9, .pointer (some ⟨b5, 0, none⟩)), (45, .int .i64 (w64 (1 + (Int.tmod (w64 (p0_0)) (w64 ((w64 (20 - s_2)) - 1)))))), (48, .int .i64 (w64 (p0_1)))] rfl ⟨rfl, rfl, rfl, rfl, rfl, rfl, rfl, rfl, rfl, trivial⟩ ?_
        refine WO_loadB tbok 2 rfl rfl rfl rfl (fun _ h => h) rfl rfl ?_
        refine WO_pure tbok 2 [(1, .int .i16 p1), (2, .int .u8 p2), (3, .pointer (some ⟨b1, 0, none⟩)), (6, .bool false), (7, .int .i64 (w64 (1 + (Int.tmod (w64 (p0_5)) 3)))), (8, .pointer (some ⟨b4, 0, none⟩)), (9, .pointer (some ⟨b5, 0, none⟩)), (45, .int .i64 (w64 (1 + (Int.tmod (w64 (p0_0)) (w64 ((w64 (20 - s_2)) - 1)))))), (48, .int .i64 (w64 (p0_1))), (51, .int .i64 (w64 ((w64 (20 - s_3)) - 1)))] rfl ⟨rfl, rfl, rfl, rfl, rfl, rfl, rfl, rfl, rfl, rfl, trivial⟩ ?_
        obtain ⟨hc66, hx10⟩ := chk_some hx10
        refine WO_rem rfl rfl rfl rfl rfl hc66 ?_
        refine WO_pure tbok 1 [(1, .int .i16 p1), (2, .int .u8 p2), (3, .pointer (some ⟨b1, 0, none⟩)), (6, .bool false), (7, .int .i64 (w64 (1 + (Int.tmod (w64 (p0_5)) 3)))), (8, .pointer (some ⟨b4, 0, none⟩)), (9, .pointer (some ⟨b5, 0, none⟩)), (45, .int .i64 (w64 (1 + (Int.tmod (w64 (p0_0)) (w64 ((w64 (20 - s_2)) - 1)))))), (53, .int .i64 (w64 (1 + (Int.tmod (w64 (p0_1)) (w64 ((w64 (20 - s_3)) - 1))))))] rfl ⟨rfl, rfl, rfl, rfl, rfl, rfl, rfl, rfl, rfl, trivial⟩ ?_
        refine WO_tree rfl ?_
        refine WT_alt rfl ?_ ?_
        · refine WO_alloc tbok [.int .i64 0] rfl rfl St_closed rfl rfl rfl rfl (fun b67 => ?_)
          refine WO.cls (C' := St w0 m m [[⟨b1, 40, [.int .u8 p0_0, .int .u8 p0_1, .int .u8 p0_2, .int .u8 p0_3, .int .u8 p0_4, .int .u8 p0_5]⟩], [⟨b4, 3, [.int .i64 s_2]⟩], [⟨b5, 3, [.int .i64 s_3]⟩], [⟨b67, 3, [.int .i64 0]⟩]]) (fun _ h => h) ?_
          refine WO_tree rfl ?_
          refine WT_run ?_
          refine WO_alloc tbok [.int .i64 0] rfl rfl St_closed rfl rfl rfl rfl (fun b68 => ?_)
          refine WO.cls (C' := St w0 m m [[⟨b1, 40, [.int .u8 p0_0, .int .u8 p0_1, .int .u8 p0_2, .int .u8 p0_3, .int .u8 p0_4, .int .u8 p0_5]⟩], [⟨b4, 3, [.int .i64 s_2]⟩], [⟨b5, 3, [.int .i64 s_3]⟩], [⟨b67, 3, [.int .i64 0]⟩], [⟨b68, 3, [.int .i64 0]⟩]]) (fun _ h => h) ?_
          refine WO_storeBd tbok 3 [.int .i64 (w64 (1 + (Int.tmod (w64 (p0_0)) (w64 ((w64 (20 - s_2)) - 1)))))] rfl rfl rfl rfl rfl rfl rfl (fun _ h => St.take 3 h) ?_
          refine WO.cls (C' := St w0 m m [[⟨b1, 40, [.int .u8 p0_0, .int .u8 p0_1, .int .u8 p0_2, .int .u8 p0_3, .int .u8 p0_4, .int .u8 p0_5]⟩], [⟨b4, 3, [.int .i64 s_2]⟩], [⟨b5, 3, [.int .i64 s_3]⟩], [⟨b67, 3, [.int .i64 (w64 (1 + (Int.tmod (w64 (p0_0)) (w64 ((w64 (20 - s_2)) - 1)))))]⟩], [⟨b68, 3, [.int .i64 0]⟩]]) (fun _ h => h) ?_
          refine WO_storeBd tbok 4 [.int .i64 (w64 (1 + (Int.tmod (w64 (p0_1)) (w64 ((w64 (20 - s_3)) - 1)))))] rfl rfl rfl rfl rfl rfl rfl (fun _ h => St.take 3 h) ?_
          refine WO.cls (C' := St w0 m m [[⟨b1, 40, [.int .u8 p0_0, .int .u8 p0_1, .int .u8 p0_2, .int .u8 p0_3, .int .u8 p0_4, .int .u8 p0_5]⟩], [⟨b4, 3, [.int .i64 s_2]⟩], [⟨b5, 3, [.int .i64 s_3]⟩], [⟨b67, 3, [.int .i64 (w64 (1 + (Int.tmod (w64 (p0_0)) (w64 ((w64 (20 - s_2)) - 1)))))]⟩], [⟨b68, 3, [.int .i64 (w64 (1 + (Int.tmod (w64 (p0_1)) (w64 ((w64 (20 - s_3)) - 1)))))]⟩]]) (fun _ h => h) ?_
          refine WO_tree rfl ?_
          refine WT_fin ?_
          refine WO_end ?_
          cases hx10
          refine WK.sub ?_ (hk11 ⟨b67, b68⟩ trivial)
          exact ⟨rfl, rfl, rfl, rfl, rfl, rfl, rfl, rfl, rfl, trivial⟩
        · refine WT_alt rfl ?_ ?_
          · refine WO_alloc tbok [.int .i64 0] rfl rfl St_closed rfl rfl rfl rfl (fun b69 => ?_)
            refine WO.cls (C' := St w0 m m [[⟨b1, 40, [.int .u8 p0_0, .int .u8 p0_1, .int .u8 p0_2, .int .u8 p0_3, .int .u8 p0_4, .int .u8 p0_5]⟩], [⟨b4, 3, [.int .i64 s_2]⟩], [⟨b5, 3, [.int .i64 s_3]⟩], [⟨b69, 3, [.int .i64 0]⟩]]) (fun _ h => h) ?_
            refine WO_tree rfl ?_
            refine WT_run ?_
            refine WO_alloc tbok [.int .i64 0] rfl rfl St_closed rfl rfl rfl rfl (fun b70 => ?_)
            refine WO.cls (C' := St w0 m m [[⟨b1, 40, [.int .u8 p0_0, .int .u8 p0_1, .int .u8 p0_2, .int .u8 p0_3, .int .u8 p0_4, .int .u8 p0_5]⟩], [⟨b4, 3, [.int .i64 s_2]⟩], [⟨b5, 3, [.int .i64 s_3]⟩], [⟨b69, 3, [.int .i64 0]⟩], [⟨b70, 3, [.int .i64 0]⟩]]) (fun _ h => h) ?_
            refine WO_storeBd tbok 4 [.int .i64 (w64 (1 + (Int.tmod (w64 (p0_0)) (w64 ((w64 (20 - s_2)) - 1)))))] rfl rfl rfl rfl rfl rfl rfl (fun _ h => St.take 3 h) ?_
            refine WO.cls (C' := St w0 m m [[⟨b1, 40, [.int .u8 p0_0, .int .u8 p0_1, .int .u8 p0_2, .int .u8 p0_3, .int .u8 p0_4, .int .u8 p0_5]⟩], [⟨b4, 3, [.int .i64 s_2]⟩], [⟨b5, 3, [.int .i64 s_3]⟩], [⟨b69, 3, [.int .i64 0]⟩], [⟨b70, 3, [.int .i64 (w64 (1 + (Int.tmod (w64 (p0_0)) (w64 ((w64 (20 - s_2)) - 1)))))]⟩]]) (fun _ h => h) ?_
            refine WO_storeBd tbok 3 [.int .i64 (w64 (1 + (Int.tmod (w64 (p0_1)) (w64 ((w64 (20 - s_3)) - 1)))))] rfl rfl rfl rfl rfl rfl rfl (fun _ h => St.take 3 h) ?_
            refine WO.cls (C' := St w0 m m [[⟨b1, 40, [.int .u8 p0_0, .int .u8 p0_1, .int .u8 p0_2, .int .u8 p0_3, .int .u8 p0_4, .int .u8 p0_5]⟩], [⟨b4, 3, [.int .i64 s_2]⟩], [⟨b5, 3, [.int .i64 s_3]⟩], [⟨b69, 3, [.int .i64 (w64 (1 + (Int.tmod (w64 (p0_1)) (w64 ((w64 (20 - s_3)) - 1)))))]⟩], [⟨b70, 3, [.int .i64 (w64 (1 + (Int.tmod (w64 (p0_0)) (w64 ((w64 (20 - s_2)) - 1)))))]⟩]]) (fun _ h => h) ?_
            refine WO_tree rfl ?_
            refine WT_fin ?_
            refine WO_end ?_
            refine WK.cls (fun _ h => h.perm (Ls' := [[⟨b1, 40, [.int .u8 p0_0, .int .u8 p0_1, .int .u8 p0_2, .int .u8 p0_3, .int .u8 p0_4, .int .u8 p0_5]⟩], [⟨b4, 3, [.int .i64 s_2]⟩], [⟨b5, 3, [.int .i64 s_3]⟩], [⟨b70, 3, [.int .i64 (w64 (1 + (Int.tmod (w64 (p0_0)) (w64 ((w64 (20 - s_2)) - 1)))))]⟩], [⟨b69, 3, [.int .i64 (w64 (1 + (Int.tmod (w64 (p0_1)) (w64 ((w64 (20 - s_3)) - 1)))))]⟩]]) (List.Perm.flatten (List.Perm.cons _ (List.Perm.cons _ (List.Perm.cons _ (List.Perm.swap _ _ _)))))) ?_
            cases hx10
            refine WK.sub ?_ (hk11 ⟨b70, b69⟩ trivial)
            exact ⟨rfl, rfl, rfl, rfl, rfl, rfl, rfl, rfl, rfl, trivial⟩
          · exact WT_none
    · refine WK_plan 16 [0, 3, 4, 7] (.run [1, 2, 5, 6, 8, 9, 10, 11] (.alt 12 (.run [13, 14, 15] .fin) (.alt 13 (.run [12, 14, 15] .fin) .none))) follows_ok (by kernel_rfl) St_closed ?_
      refine WO_pure tbok 4 [(1, .int .i16 p1), (2, .int .u8 p2), (3, .pointer (some ⟨b1, 0, none⟩)), (6, .bool false), (7, .int .i64 (w64 (1 + (Int.tmod (w64 (p0_5)) 3)))), (26, .pointer (some ⟨b1, 2, none⟩)), (30, .int .i64 (w64 (2 * (w64 (1 + (Int.tmod (w64 (p0_5)) 3)))))), (33, .pointer (some ⟨b1, 3, none⟩))] rfl ⟨rfl, rfl, rfl, rfl, rfl, rfl, rfl, rfl, trivial⟩ ?_
      refine WO_plan ?_
      refine WT_run ?_
      refine WO_loadB tbok 0 rfl rfl rfl rfl (fun _ h => h) rfl rfl ?_
      refine WO_pure tbok 1 [(1, .int .i16 p1), (2, .int .u8 p2), (3, .pointer (some ⟨b1, 0, none⟩)), (6, .bool false), (7, .int .i64 (w64 (1 + (Int.tmod (w64 (p0_5)) 3)))), (28, .int .i64 (w64 (p0_2))), (30, .int .i64 (w64 (2 * (w64 (1 + (Int.tmod (w64 (p0_5)) 3)))))), (33, .pointer (some ⟨b1, 3, none⟩))] rfl ⟨rfl, rfl, rfl, rfl, rfl, rfl, rfl, rfl, trivial⟩ ?_
      obtain ⟨hc71, hx6⟩ := chk_some hx6
      refine WO_rem rfl rfl rfl rfl rfl hc71 ?_
      refine WO_pure tbok 1 [(1, .int .i16 p1), (2, .int .u8 p2), (3, .pointer (some ⟨b1, 0, none⟩)), (6, .bool false), (7, .int .i64 (w64 (1 + (Int.tmod (w64 (p0_5)) 3)))), (32, .int .i64 (w64 (1 + (Int.tmod (w64 (p0_2)) (w64 (2 * (w64 (1 + (Int.tmod (w64 (p0_5)) 3))))))))), (33, .pointer (some ⟨b1, 3, none⟩))] rfl ⟨rfl, rfl, rfl, rfl, rfl, rfl, rfl, trivial⟩ ?_
      refine WO_loadB tbok 0 rfl rfl rfl rfl (fun _ h => h) rfl rfl ?_
      refine WO_pure tbok 3 [(1, .int .i16 p1), (2, .int .u8 p2), (3, .pointer (some ⟨b1, 0, none⟩)), (6, .bool false), (7, .int .i64 (w64 (1 + (Int.tmod (w64 (p0_5)) 3)))), (32, .int .i64 (w64 (1 + (Int.tmod (w64 (p0_2)) (w64 (2 * (w64 (1 + (Int.tmod (w64 (p0_5)) 3))))))))), (37, .int .i64 (w64 (1 + (Int.tmod (w64 (p0_3)) 12))))] rfl ⟨rfl, rfl, rfl, rfl, rfl, rfl, rfl, trivial⟩ ?_
      refine WO_tree rfl ?_
      refine WT_alt rfl ?_ ?_
      · refine WO_alloc tbok [.int .i64 0] rfl rfl St_closed rfl rfl rfl rfl (fun b72 => ?_)
        refine WO.cls (C' := St w0 m m [[⟨b1, 40, [.int .u8 p0_0, .int .u8 p0_1, .int .u8 p0_2, .int .u8 p0_3, .int .u8 p0_4, .int .u8 p0_5]⟩], [⟨b72, 3, [.int .i64 0]⟩]]) (fun _ h => h) ?_
        refine WO_tree rfl ?_
        refine WT_run ?_
        refine WO_alloc tbok [.int .i64 0] rfl rfl St_closed rfl rfl rfl rfl (fun b73 => ?_)
        refine WO.cls (C' := St w0 m m [[⟨b1, 40, [.int .u8 p0_0, .int .u8 p0_1, .int .u8 p0_2, .int .u8 p0_3, .int .u8 p0_4, .int .u8 p0_5]⟩], [⟨b72, 3, [.int .i64 0]⟩], [⟨b73, 3, [.int .i64 0]⟩]]) (fun _ h => h) ?_
        refine WO_storeBd tbok 1 [.int .i64 (w64 (1 + (Int.tmod (w64 (p0_2)) (w64 (2 * (w64 (1 + (Int.tmod (w64 (p0_5)) 3))))))))] rfl rfl rfl rfl rfl rfl rfl (fun _ h => St.take 1 h) ?_
        refine WO.cls (C' := St w0 m m [[⟨b1, 40, [.int .u8 p0_0, .int .u8 p0_1, .int .u8 p0_2, .int .u8 p0_3, .int .u8 p0_4, .int .u8 p0_5]⟩], [⟨b72, 3, [.int .i64 (w64 (1 + (Int.tmod (w64 (p0_2)) (w64 (2 * (w64 (1 + (Int.tmod (w64 (p0_5)) 3))))))))]⟩], [⟨b73, 3, [.int .i64 0]⟩]]) (fun _ h => h) ?_
        refine WO_storeBd tbok 2 [.int .i64 (w64 (1 + (Int.tmod (w64 (p0_3)) 12)))] rfl rfl rfl rfl rfl rfl rfl (fun _ h => St.take 1 h) ?_
        refine WO.cls (C' := St w0 m m [[⟨b1, 40, [.int .u8 p0_0, .int .u8 p0_1, .int .u8 p0_2, .int .u8 p0_3, .int .u8 p0_4, .int .u8 p0_5]⟩], [⟨b72, 3, [.int .i64 (w64 (1 + (Int.tmod (w64 (p0_2)) (w64 (2 * (w64 (1 + (Int.tmod (w64 (p0_5)) 3))))))))]⟩], [⟨b73, 3, [.int .i64 (w64 (1 + (Int.tmod (w64 (p0_3)) 12)))]⟩]]) (fun _ h => h) ?_
        refine WO_tree rfl ?_
        refine WT_fin ?_
        refine WO_end ?_
        cases hx6
        refine WK.sub ?_ (hk7 ⟨b72, b73⟩ trivial)
        exact ⟨rfl, rfl, rfl, rfl, rfl, rfl, rfl, trivial⟩
      · refine WT_alt rfl ?_ ?_
        · refine WO_alloc tbok [.int .i64 0] rfl rfl St_closed rfl rfl rfl rfl (fun b74 => ?_)
          refine WO.cls (C' := St w0 m m [[⟨b1, 40, [.int .u8 p0_0, .int .u8 p0_1, .int .u8 p0_2, .int .u8 p0_3, .int .u8 p0_4, .int .u8 p0_5]⟩], [⟨b74, 3, [.int .i64 0]⟩]]) (fun _ h => h) ?_
          refine WO_tree rfl ?_
          refine WT_run ?_
          refine WO_alloc tbok [.int .i64 0] rfl rfl St_closed rfl rfl rfl rfl (fun b75 => ?_)
          refine WO.cls (C' := St w0 m m [[⟨b1, 40, [.int .u8 p0_0, .int .u8 p0_1, .int .u8 p0_2, .int .u8 p0_3, .int .u8 p0_4, .int .u8 p0_5]⟩], [⟨b74, 3, [.int .i64 0]⟩], [⟨b75, 3, [.int .i64 0]⟩]]) (fun _ h => h) ?_
          refine WO_storeBd tbok 2 [.int .i64 (w64 (1 + (Int.tmod (w64 (p0_2)) (w64 (2 * (w64 (1 + (Int.tmod (w64 (p0_5)) 3))))))))] rfl rfl rfl rfl rfl rfl rfl (fun _ h => St.take 1 h) ?_
          refine WO.cls (C' := St w0 m m [[⟨b1, 40, [.int .u8 p0_0, .int .u8 p0_1, .int .u8 p0_2, .int .u8 p0_3, .int .u8 p0_4, .int .u8 p0_5]⟩], [⟨b74, 3, [.int .i64 0]⟩], [⟨b75, 3, [.int .i64 (w64 (1 + (Int.tmod (w64 (p0_2)) (w64 (2 * (w64 (1 + (Int.tmod (w64 (p0_5)) 3))))))))]⟩]]) (fun _ h => h) ?_
          refine WO_storeBd tbok 1 [.int .i64 (w64 (1 + (Int.tmod (w64 (p0_3)) 12)))] rfl rfl rfl rfl rfl rfl rfl (fun _ h => St.take 1 h) ?_
          refine WO.cls (C' := St w0 m m [[⟨b1, 40, [.int .u8 p0_0, .int .u8 p0_1, .int .u8 p0_2, .int .u8 p0_3, .int .u8 p0_4, .int .u8 p0_5]⟩], [⟨b74, 3, [.int .i64 (w64 (1 + (Int.tmod (w64 (p0_3)) 12)))]⟩], [⟨b75, 3, [.int .i64 (w64 (1 + (Int.tmod (w64 (p0_2)) (w64 (2 * (w64 (1 + (Int.tmod (w64 (p0_5)) 3))))))))]⟩]]) (fun _ h => h) ?_
          refine WO_tree rfl ?_
          refine WT_fin ?_
          refine WO_end ?_
          refine WK.cls (fun _ h => h.perm (Ls' := [[⟨b1, 40, [.int .u8 p0_0, .int .u8 p0_1, .int .u8 p0_2, .int .u8 p0_3, .int .u8 p0_4, .int .u8 p0_5]⟩], [⟨b75, 3, [.int .i64 (w64 (1 + (Int.tmod (w64 (p0_2)) (w64 (2 * (w64 (1 + (Int.tmod (w64 (p0_5)) 3))))))))]⟩], [⟨b74, 3, [.int .i64 (w64 (1 + (Int.tmod (w64 (p0_3)) 12)))]⟩]]) (List.Perm.flatten (List.Perm.cons _ (List.Perm.swap _ _ _)))) ?_
          cases hx6
          refine WK.sub ?_ (hk7 ⟨b75, b74⟩ trivial)
          exact ⟨rfl, rfl, rfl, rfl, rfl, rfl, rfl, trivial⟩
        · exact WT_none
theorem fiduciallaw48_TerrainLocal_walk {m : Mu} {p0_0 : Int} {p0_1 : Int} {p0_2 : Int} {p0_3 : Int} {p0_4 : Int} {p0_5 : List Int} {p1 : Int} {p2 : List Int} {a_p0_5 : Option Addr} {q_p0_5 c_p0_5 : Nat} {a_p2 : Option Addr} {q_p2 c_p2 : Nat} (h_p0_5 : SlR (FE (I1 .i64)) 1 m (.slice a_p0_5 q_p0_5 c_p0_5) p0_5) (h_p2 : SlR (FE (I1 .i64)) 1 m (.slice a_p2 q_p2 c_p2) p2) {r : Bool} (hm : fiduciallaw48_TerrainLocal p0_0 p0_1 p0_2 p0_3 p0_4 p0_5 p1 p2 = some r) :
    Go.E.Spec Try.prog 6 [.agg #[.int .i64 p0_0, .int .i64 p0_1, .int .i64 p0_2, .int .i64 p0_3, .int .i64 p0_4, .slice a_p0_5 q_p0_5 c_p0_5], .int .u8 p1, .slice a_p2 q_p2 c_p2] m (fun v _ _ => v = .bool r) := by
  refine Spec_enter Try.func6 rfl rfl rfl (fun w0 => ?_)
  refine WK.sub (e' := [(0, .agg #[.int .i64 p0_0, .int .i64 p0_1, .int .i64 p0_2, .int .i64 p0_3, .int .i64 p0_4, .slice a_p0_5 q_p0_5 c_p0_5]), (1, .int .u8 p1), (2, .slice a_p2 q_p2 c_p2)]) ⟨rfl, rfl, rfl, trivial⟩ ?_
  obtain rfl := SlR.qlen h_p0_5
  obtain rfl := SlR.qlen h_p2
  refine WK.sub (e' := [(0, .agg #[.int .i64 p0_0, .int .i64 p0_1, .int .i64 p0_2, .int .i64 p0_3, .int .i64 p0_4, .slice a_p0_5 p0_5.length c_p0_5]), (1, .int .u8 p1), (2, .slice a_p2 p2.length c_p2)]) ⟨rfl, rfl, rfl, trivial⟩ ?_
  unfold fiduciallaw48_TerrainLocal at hm
  refine WK_seq ?_
  refine WK_region ?_
  refine WO_box [.int .i64 p0_0, .int .i64 p0_1, .int .i64 p0_2, .int .i64 p0_3, .int .i64 p0_4, .slice a_p0_5 p0_5.length c_p0_5] rfl rfl trivial rfl rfl rfl (fun b1 => ?_)
  refine WO.cls (C' := St w0 m m [[⟨b1, 25, [.int .i64 p0_0, .int .i64 p0_1, .int .i64 p0_2, .int .i64 p0_3, .int .i64 p0_4, .slice a_p0_5 p0_5.length c_p0_5]⟩]]) (fun _ h => h) ?_
  refine WO_pure tbok 1 [(1, .int .u8 p1), (2, .slice a_p2 p2.length c_p2), (3, .pointer (some ⟨b1, 0, none⟩)), (6, .bool false)] rfl ⟨rfl, rfl, rfl, rfl, trivial⟩ ?_
  refine WO_end ?_
  refine WK_seq ?_
  refine WK_seq ?_
  refine WK_region ?_
  obtain ⟨y_1, hc2, hm⟩ := bind_some hm
  refine WO_call0 (.bool y_1) rfl rfl trivial rfl rfl rfl rfl St_closed ⟨11, #[], #[], rfl, callable_11, fun w hw => ⟨_, hw.sat, fiduciallaw48_known_walk hc2⟩⟩ ?_
  refine WO_pure tbok 1 [(1, .int .u8 p1), (2, .slice a_p2 p2.length c_p2), (3, .pointer (some ⟨b1, 0, none⟩)), (6, .bool false), (17, .bool (!y_1))] rfl ⟨rfl, rfl, rfl, rfl, rfl, trivial⟩ ?_
  refine WO_end ?_
  refine WK_cond (b := !y_1) rfl (fun hb3 => ?_) (fun hb3 => ?_)
  · have hm := ifT hb3 hm
    refine WK_seq ?_
    refine WK_region ?_
    refine WO_pure tbok 1 [(1, .int .u8 p1), (2, .slice a_p2 p2.length c_p2), (3, .pointer (some ⟨b1, 0, none⟩)), (6, .bool false)] rfl ⟨rfl, rfl, rfl, rfl, trivial⟩ ?_
    refine WO_end ?_
    cases hm
    exact WK_ret (ret_out (L := []) (RLc_tmp rfl RLc_nil) (List.nil_sublist _) rfl)
  · have hm := ifF hb3 hm
    refine WK_skip ?_
    refine WK_seq ?_
    refine WK_seq ?_
    obtain ⟨s_2, hx4, hm⟩ := bind_some hm
    refine WK_meet [(1, .int .u8 p1), (2, .slice a_p2 p2.length c_p2), (3, .pointer (some ⟨b1, 0, none⟩)), (6, .bool false), (30, .bool s_2)] (St w0 m m [[⟨b1, 25, [.int .i64 p0_0, .int .i64 p0_1, .int .i64 p0_2, .int .i64 p0_3, .int .i64 p0_4, .slice a_p0_5 p0_5.length c_p0_5]⟩]]) ?_ (fun hk5 => ?_)
    · refine WK_cond (b := s_2) rfl (fun hb6 => ?_) (fun hb6 => ?_)
      · have hm := ifT hb6 hm
        refine WK_seq ?_
        refine WK_region ?_
        refine WO_pure tbok 1 [(1, .int .u8 p1), (2, .slice a_p2 p2.length c_p2), (3, .pointer (some ⟨b1, 0, none⟩)), (6, .bool true)] rfl ⟨rfl, rfl, rfl, rfl, trivial⟩ ?_
        refine WO_end ?_
        cases hm
        exact WK_ret (ret_out (L := []) (RLc_tmp rfl RLc_nil) (List.nil_sublist _) rfl)
      · have hm := ifF hb6 hm
        refine WK_skip ?_
        refine WK_seq ?_
        refine WK_region ?_
        refine WO_pure tbok 3 [(2, .slice a_p2 p2.length c_p2), (3, .pointer (some ⟨b1, 0, none⟩)), (6, .bool false), (32, .int .i64 (w64 (p1))), (33, .pointer (some ⟨b1, 5, none⟩))] rfl ⟨rfl, rfl, rfl, rfl, rfl, trivial⟩ ?_
        refine WO_loadB tbok 0 rfl rfl rfl rfl (fun _ h => h) rfl rfl ?_
        refine WO_pure tbok 1 [(2, .slice a_p2 p2.length c_p2), (3, .pointer (some ⟨b1, 0, none⟩)), (6, .bool false), (32, .int .i64 (w64 (p1))), (35, .int .i64 (p0_5.length : Int))] rfl ⟨rfl, rfl, rfl, rfl, rfl, trivial⟩ ?_
        obtain ⟨hc7, hm⟩ := chk_some hm
        refine WO_rem rfl rfl rfl rfl rfl hc7 ?_
        refine WO_pure tbok 1 [(2, .slice a_p2 p2.length c_p2), (3, .pointer (some ⟨b1, 0, none⟩)), (6, .bool false), (7, .int .i64 (Int.tmod (w64 (p1)) (p0_5.length : Int)))] rfl ⟨rfl, rfl, rfl, rfl, trivial⟩ ?_
        refine WO_end ?_
        refine WK_seq ?_
        obtain ⟨⟨l_3, s_4, s_5, s_6, s_7, s_8⟩, hx12, hm⟩ := bind_some hm
        refine WK_join (β := Option Addr × Nat × List Ent × Nat) (fun p => OwnE 3 1 (I1 .i64) (.slice p.1 ((l_3).length) p.2.1) l_3 p.2.2.1) (fun p => [(2, .slice a_p2 p2.length c_p2), (3, .pointer (some ⟨b1, 0, none⟩)), (6, .bool false), (7, .int .i64 (Int.tmod (w64 (p1)) (p0_5.length : Int))), (8, .pointer (some ⟨p.2.2.2, 0, none⟩))]) (fun p => St w0 m m [[⟨b1, 25, [.int .i64 p0_0, .int .i64 p0_1, .int .i64 p0_2, .int .i64 p0_3, .int .i64 p0_4, .slice a_p0_5 p0_5.length c_p0_5]⟩], [⟨p.2.2.2, 25, [.int .i64 s_4, .int .i64 s_5, .int .i64 s_6, .int .i64 s_7, .int .i64 s_8, .slice p.1 ((l_3).length) p.2.1]⟩], p.2.2.1]) ?_ (fun hk13 => ?_)
        · rintro ⟨a8, c9, L10, b11⟩ hL10
          refine WK.sub (e' := [(2, .slice a_p2 p2.length c_p2), (3, .pointer (some ⟨b1, 0, none⟩)), (6, .bool false), (7, .int .i64 (Int.tmod (w64 (p1)) (p0_5.length : Int))), (8, .pointer (some ⟨b11, 0, none⟩))]) ⟨rfl, rfl, rfl, rfl, rfl, trivial⟩ (WK.cls (C' := St w0 m m [[⟨b1, 25, [.int .i64 p0_0, .int .i64 p0_1, .int .i64 p0_2, .int .i64 p0_3, .int .i64 p0_4, .slice a_p0_5 p0_5.length c_p0_5]⟩], [⟨b11, 25, [.int .i64 s_4, .int .i64 s_5, .int .i64 s_6, .int .i64 s_7, .int .i64 s_8, .slice a8 ((l_3).length) c9]⟩], L10]) (fun _ h => h) ?_)
          refine WK_seq ?_
          refine WK_seq ?_
          refine WK_region ?_
          refine WO_pure tbok 1 [(2, .slice a_p2 p2.length c_p2), (3, .pointer (some ⟨b1, 0, none⟩)), (6, .bool false), (7, .int .i64 (Int.tmod (w64 (p1)) (p0_5.length : Int))), (8, .pointer (some ⟨b11, 0, none⟩)), (42, .pointer (some ⟨b11, 5, none⟩))] rfl ⟨rfl, rfl, rfl, rfl, rfl, rfl, trivial⟩ ?_
          refine WO_loadB tbok 1 rfl rfl rfl rfl (fun _ h => h) rfl rfl ?_
          refine WO_pure tbok 2 [(2, .slice a_p2 p2.length c_p2), (3, .pointer (some ⟨b1, 0, none⟩)), (6, .bool false), (7, .int .i64 (Int.tmod (w64 (p1)) (p0_5.length : Int))), (8, .pointer (some ⟨b11, 0, none⟩)), (44, .int .i64 ((l_3).length : Int)), (45, .int .i64 0)] rfl ⟨rfl, rfl, rfl, rfl, rfl, rfl, rfl, trivial⟩ ?_
          refine WO_end ?_
          obtain ⟨x16, hx17, hm⟩ := bind_some hm
          refine WK_join (β := (List Int) × (List Ent)) (fun p => p.1 = x16 ∧ OwnE 3 1 (I1 .i64) (.slice a8 ((l_3).length) c9) p.1 p.2) (fun p => [(3, .pointer (some ⟨b1, 0, none⟩)), (6, .bool false), (7, .int .i64 (Int.tmod (w64 (p1)) (p0_5.length : Int))), (8, .pointer (some ⟨b11, 0, none⟩))]) (fun p => St w0 m m [[⟨b1, 25, [.int .i64 p0_0, .int .i64 p0_1, .int .i64 p0_2, .int .i64 p0_3, .int .i64 p0_4, .slice a_p0_5 p0_5.length c_p0_5]⟩], [⟨b11, 25, [.int .i64 s_4, .int .i64 s_5, .int .i64 s_6, .int .i64 s_7, .int .i64 s_8, .slice a8 ((l_3).length) c9]⟩], p.2]) ?_ (fun hk18 => ?_)
          · rintro ⟨l_11, L15⟩ ⟨hq24, hL15⟩
            subst hq24
            refine WK.sub (e' := [(3, .pointer (some ⟨b1, 0, none⟩)), (6, .bool false), (7, .int .i64 (Int.tmod (w64 (p1)) (p0_5.length : Int))), (8, .pointer (some ⟨b11, 0, none⟩))]) ⟨rfl, rfl, rfl, rfl, trivial⟩ (WK.cls (C' := St w0 m m [[⟨b1, 25, [.int .i64 p0_0, .int .i64 p0_1, .int .i64 p0_2, .int .i64 p0_3, .int .i64 p0_4, .slice a_p0_5 p0_5.length c_p0_5]⟩], [⟨b11, 25, [.int .i64 s_4, .int .i64 s_5, .int .i64 s_6, .int .i64 s_7, .int .i64 s_8, .slice a8 ((l_3).length) c9]⟩], L15]) (fun _ h => h) ?_)
            refine WK_seq ?_
            refine WK_region ?_
            refine WO_loadB tbok 0 rfl rfl rfl rfl (fun _ h => h) rfl rfl ?_
            refine WO_bslice (E := (I1 .i64)) tbok (fun _ => rfl) (by decide) [.int .i64 1, .int .i64 2] ([1, 2] : List Int) rfl rfl trivial rfl rfl rfl rfl rfl rfl rfl rfl rfl rfl rfl rfl (fun b25 hb25 => ?_)
            refine WO.cls (C' := St w0 m m [[⟨b1, 25, [.int .i64 p0_0, .int .i64 p0_1, .int .i64 p0_2, .int .i64 p0_3, .int .i64 p0_4, .slice a_p0_5 p0_5.length c_p0_5]⟩], [⟨b11, 25, [.int .i64 s_4, .int .i64 s_5, .int .i64 s_6, .int .i64 s_7, .int .i64 s_8, .slice a8 ((l_3).length) c9]⟩], L15, [⟨b25, 3, ([1, 2] : List Int).flatMap (I1 .i64)⟩]]) (fun _ h => h) ?_
            refine WO_bslice (E := (I1 .i64)) tbok (fun _ => rfl) (by decide) [.int .i64 4, .int .i64 9] ([4, 9] : List Int) rfl rfl trivial rfl rfl rfl rfl rfl rfl rfl rfl rfl rfl rfl rfl (fun b26 hb26 => ?_)
            refine WO.cls (C' := St w0 m m [[⟨b1, 25, [.int .i64 p0_0, .int .i64 p0_1, .int .i64 p0_2, .int .i64 p0_3, .int .i64 p0_4, .slice a_p0_5 p0_5.length c_p0_5]⟩], [⟨b11, 25, [.int .i64 s_4, .int .i64 s_5, .int .i64 s_6, .int .i64 s_7, .int .i64 s_8, .slice a8 ((l_3).length) c9]⟩], L15, [⟨b25, 3, ([1, 2] : List Int).flatMap (I1 .i64)⟩], [⟨b26, 3, ([4, 9] : List Int).flatMap (I1 .i64)⟩]]) (fun _ h => h) ?_
            obtain ⟨⟨y_12, y_13⟩, hc27, hm⟩ := bind_some hm
            refine WO_call1 (terrain_Ground_Q (y_12, y_13)) rfl rfl trivial rfl rfl rfl rfl ⟨18, #[], #[], rfl, callable_18, fun w hw => ⟨_, hw.satV, terrain_Ground_walk (h_p0_5.mono (mono_FE _) hw.leV) (OwnE.rd (E := (I1 .i64)) (k := 1) (fun _ => rfl) hb25 (fun _ hx => hw.memV (i := 3) rfl hx)) (OwnE.rd (E := (I1 .i64)) (k := 1) (fun _ => rfl) hb26 (fun _ hx => hw.memV (i := 4) rfl hx)) hc27⟩⟩ (fun v31 L30 hq => ?_)
            obtain ⟨a28, qa28, c29, rfl, hL30⟩ := hq
            obtain rfl := OwnE.qlen hL30
            refine WO.cls (C' := St w0 m m [[⟨b1, 25, [.int .i64 p0_0, .int .i64 p0_1, .int .i64 p0_2, .int .i64 p0_3, .int .i64 p0_4, .slice a_p0_5 p0_5.length c_p0_5]⟩], [⟨b11, 25, [.int .i64 s_4, .int .i64 s_5, .int .i64 s_6, .int .i64 s_7, .int .i64 s_8, .slice a8 ((l_3).length) c9]⟩], L15, [⟨b25, 3, ([1, 2] : List Int).flatMap (I1 .i64)⟩], [⟨b26, 3, ([4, 9] : List Int).flatMap (I1 .i64)⟩], L30]) (fun _ h => h) ?_
            refine WO_pure tbok 5 [(3, .pointer (some ⟨b1, 0, none⟩)), (6, .bool false), (7, .int .i64 (Int.tmod (w64 (p1)) (p0_5.length : Int))), (8, .pointer (some ⟨b11, 0, none⟩)), (12, .slice a28 ((y_12).length) c29), (13, .int .i64 y_13)] rfl ⟨rfl, rfl, rfl, rfl, rfl, rfl, trivial⟩ ?_
            refine WO_end ?_
            refine WK_seq ?_
            refine WK_region ?_
            refine WO_loadB tbok 1 rfl rfl rfl rfl (fun _ h => h) rfl rfl ?_
            refine WO_bslice (E := (I1 .i64)) tbok (fun _ => rfl) (by decide) [.int .i64 1, .int .i64 2] ([1, 2] : List Int) rfl rfl trivial rfl rfl rfl rfl rfl rfl rfl rfl rfl rfl rfl rfl (fun b32 hb32 => ?_)
            refine WO.cls (C' := St w0 m m [[⟨b1, 25, [.int .i64 p0_0, .int .i64 p0_1, .int .i64 p0_2, .int .i64 p0_3, .int .i64 p0_4, .slice a_p0_5 p0_5.length c_p0_5]⟩], [⟨b11, 25, [.int .i64 s_4, .int .i64 s_5, .int .i64 s_6, .int .i64 s_7, .int .i64 s_8, .slice a8 ((l_3).length) c9]⟩], L15, [⟨b25, 3, ([1, 2] : List Int).flatMap (I1 .i64)⟩], [⟨b26, 3, ([4, 9] : List Int).flatMap (I1 .i64)⟩], L30, [⟨b32, 3, ([1, 2] : List Int).flatMap (I1 .i64)⟩]]) (fun _ h => h) ?_
            refine WO_bslice (E := (I1 .i64)) tbok (fun _ => rfl) (by decide) [.int .i64 4, .int .i64 9] ([4, 9] : List Int) rfl rfl trivial rfl rfl rfl rfl rfl rfl rfl rfl rfl rfl rfl rfl (fun b33 hb33 => ?_)
            refine WO.cls (C' := St w0 m m [[⟨b1, 25, [.int .i64 p0_0, .int .i64 p0_1, .int .i64 p0_2, .int .i64 p0_3, .int .i64 p0_4, .slice a_p0_5 p0_5.length c_p0_5]⟩], [⟨b11, 25, [.int .i64 s_4, .int .i64 s_5, .int .i64 s_6, .int .i64 s_7, .int .i64 s_8, .slice a8 ((l_3).length) c9]⟩], L15, [⟨b25, 3, ([1, 2] : List Int).flatMap (I1 .i64)⟩], [⟨b26, 3, ([4, 9] : List Int).flatMap (I1 .i64)⟩], L30, [⟨b32, 3, ([1, 2] : List Int).flatMap (I1 .i64)⟩], [⟨b33, 3, ([4, 9] : List Int).flatMap (I1 .i64)⟩]]) (fun _ h => h) ?_
            obtain ⟨⟨y_14, y_15⟩, hc34, hm⟩ := bind_some hm
            refine WO_call1 (terrain_Ground_Q (y_14, y_15)) rfl rfl trivial rfl rfl rfl rfl ⟨18, #[], #[], rfl, callable_18, fun w hw => ⟨_, hw.satV, terrain_Ground_walk (OwnE.rd (E := (I1 .i64)) (k := 1) (fun _ => rfl) hL15 (fun _ hx => hw.memV (i := 2) rfl hx)) (OwnE.rd (E := (I1 .i64)) (k := 1) (fun _ => rfl) hb32 (fun _ hx => hw.memV (i := 6) rfl hx)) (OwnE.rd (E := (I1 .i64)) (k := 1) (fun _ => rfl) hb33 (fun _ hx => hw.memV (i := 7) rfl hx)) hc34⟩⟩ (fun v38 L37 hq => ?_)
            obtain ⟨a35, qa35, c36, rfl, hL37⟩ := hq
            obtain rfl := OwnE.qlen hL37
            refine WO.cls (C' := St w0 m m [[⟨b1, 25, [.int .i64 p0_0, .int .i64 p0_1, .int .i64 p0_2, .int .i64 p0_3, .int .i64 p0_4, .slice a_p0_5 p0_5.length c_p0_5]⟩], [⟨b11, 25, [.int .i64 s_4, .int .i64 s_5, .int .i64 s_6, .int .i64 s_7, .int .i64 s_8, .slice a8 ((l_3).length) c9]⟩], L15, [⟨b25, 3, ([1, 2] : List Int).flatMap (I1 .i64)⟩], [⟨b26, 3, ([4, 9] : List Int).flatMap (I1 .i64)⟩], L30, [⟨b32, 3, ([1, 2] : List Int).flatMap (I1 .i64)⟩], [⟨b33, 3, ([4, 9] : List Int).flatMap (I1 .i64)⟩], L37]) (fun _ h => h) ?_
            refine WO_pure tbok 5 [(3, .pointer (some ⟨b1, 0, none⟩)), (6, .bool false), (7, .int .i64 (Int.tmod (w64 (p1)) (p0_5.length : Int))), (12, .slice a28 ((y_12).length) c29), (13, .int .i64 y_13), (14, .slice a35 ((y_14).length) c36), (15, .int .i64 y_15)] rfl ⟨rfl, rfl, rfl, rfl, rfl, rfl, rfl, trivial⟩ ?_
            refine WO_end ?_
            refine WK_seq ?_
            refine WK_draw 34 [0, 1, 2, 3, 4, 5, 6, 7, 8, 9, 10, 11, 12, 13, 14, 15, 16, 17, 18, 19, 20, 21, 22, 23, 24, 25, 26, 27, 28, 29, 30, 31, 32, 33] follows_ok (by kernel_rfl) St_closed ?_
            refine WO_pure tbok 3 [(3, .pointer (some ⟨b1, 0, none⟩)), (6, .bool false), (7, .int .i64 (Int.tmod (w64 (p1)) (p0_5.length : Int))), (12, .slice a28 ((y_12).length) c29), (14, .slice a35 ((y_14).length) c36), (15, .int .i64 y_15), (106, .bool (y_13 == 0))] rfl ⟨rfl, rfl, rfl, rfl, rfl, rfl, rfl, trivial⟩ ?_
            refine WO_split (d := 106) (b := y_13 == 0) rfl (fun hb39 => ?_) (fun hb39 => ?_)
            · have hm := ifT hb39 hm
              refine WO_pure tbok 4 [(3, .pointer (some ⟨b1, 0, none⟩)), (6, .bool false), (7, .int .i64 (Int.tmod (w64 (p1)) (p0_5.length : Int))), (12, .slice a28 ((y_12).length) c29), (14, .slice a35 ((y_14).length) c36), (110, .bool (y_15 == 0))] rfl ⟨rfl, rfl, rfl, rfl, rfl, rfl, trivial⟩ ?_
              refine WO_split (d := 110) (b := y_15 == 0) rfl (fun hb40 => ?_) (fun hb40 => ?_)
              · have hm := ifT hb40 hm
                refine WO_pure tbok 3 [(3, .pointer (some ⟨b1, 0, none⟩)), (6, .bool false), (7, .int .i64 (Int.tmod (w64 (p1)) (p0_5.length : Int))), (12, .slice a28 ((y_12).length) c29), (14, .slice a35 ((y_14).length) c36), (110, .bool true), (112, .int .i64 ((y_12).length : Int)), (113, .pointer (some ⟨b1, 5, none⟩))] rfl ⟨rfl, rfl, rfl, rfl, rfl, rfl, rfl, rfl, trivial⟩ ?_
                refine WO_loadB tbok 0 rfl rfl rfl rfl (fun _ h => h) rfl rfl ?_
                refine WO_pure tbok 4 [(3, .pointer (some ⟨b1, 0, none⟩)), (6, .bool false), (7, .int .i64 (Int.tmod (w64 (p1)) (p0_5.length : Int))), (12, .slice a28 ((y_12).length) c29), (14, .slice a35 ((y_14).length) c36), (118, .bool (((y_12).length : Int) == (p0_5.length : Int)))] rfl ⟨rfl, rfl, rfl, rfl, rfl, rfl, trivial⟩ ?_
                refine WO_split (d := 118) (b := ((y_12).length : Int) == (p0_5.length : Int)) rfl (fun hb41 => ?_) (fun hb41 => ?_)
                · have hm := ifT hb41 hm
                  refine WO_pure tbok 3 [(6, .bool false), (7, .int .i64 (Int.tmod (w64 (p1)) (p0_5.length : Int))), (12, .slice a28 ((y_12).length) c29), (14, .slice a35 ((y_14).length) c36), (118, .bool true), (120, .int .i64 ((y_14).length : Int)), (121, .pointer (some ⟨b1, 5, none⟩))] rfl ⟨rfl, rfl, rfl, rfl, rfl, rfl, rfl, trivial⟩ ?_
                  refine WO_loadB tbok 0 rfl rfl rfl rfl (fun _ h => h) rfl rfl ?_
                  refine WO_pure tbok 4 [(6, .bool false), (7, .int .i64 (Int.tmod (w64 (p1)) (p0_5.length : Int))), (12, .slice a28 ((y_12).length) c29), (14, .slice a35 ((y_14).length) c36), (126, .bool (((y_14).length : Int) == (p0_5.length : Int)))] rfl ⟨rfl, rfl, rfl, rfl, rfl, trivial⟩ ?_
                  refine WO_split (d := 126) (b := ((y_14).length : Int) == (p0_5.length : Int)) rfl (fun hb42 => ?_) (fun hb42 => ?_)
                  · have hm := ifT hb42 hm
                    refine WO_pure tbok 2 [(6, .bool false), (7, .int .i64 (Int.tmod (w64 (p1)) (p0_5.length : Int))), (14, .slice a35 ((y_14).length) c36), (126, .bool true), (127, .slice a28 ((y_12).length) c29), (128, .int .i64 (Int.tmod (w64 (p1)) (p0_5.length : Int)))] rfl ⟨rfl, rfl, rfl, rfl, rfl, rfl, trivial⟩ ?_
                    obtain ⟨v_16, hy43, hm⟩ := bind_some hm
                    obtain ⟨hc44, hy43⟩ := ix_some hy43
                    refine WO_index tbok rfl rfl rfl rfl rfl rfl rfl rfl (OwnE.addr hL30) (by simpa using hc44) ?_
                    refine WO_loadO (E := B1) tbok (fun _ => rfl) 5 rfl rfl rfl rfl (fun _ h => h) hL30 rfl hy43 rfl ?_
                    refine WO_pure tbok 2 [(6, .bool false), (126, .bool true), (130, .bool v_16), (131, .slice a35 ((y_14).length) c36), (132, .int .i64 (Int.tmod (w64 (p1)) (p0_5.length : Int)))] rfl ⟨rfl, rfl, rfl, rfl, rfl, trivial⟩ ?_
                    obtain ⟨v_17, hy45, hm⟩ := bind_some hm
                    obtain ⟨hc46, hy45⟩ := ix_some hy45
                    refine WO_index tbok rfl rfl rfl rfl rfl rfl rfl rfl (OwnE.addr hL37) (by simpa using hc46) ?_
                    refine WO_loadO (E := B1) tbok (fun _ => rfl) 8 rfl rfl rfl rfl (fun _ h => h) hL37 rfl hy45 rfl ?_
                    refine WO_pure tbok 3 [(6, .bool (v_16 == v_17))] rfl ⟨rfl, trivial⟩ ?_
                    refine WO_tail ?_
                    refine WO_end ?_
                    cases hm
                    exact WK_ret (ret_out (L := []) (RLc_tmp rfl RLc_nil) (List.nil_sublist _) rfl)
                  · have hm := ifF hb42 hm
                    refine WO_pure tbok 11 [(6, .bool false)] rfl ⟨rfl, trivial⟩ ?_
                    refine WO_tail ?_
                    refine WO_end ?_
                    cases hm
                    exact WK_ret (ret_out (L := []) (RLc_tmp rfl RLc_nil) (List.nil_sublist _) rfl)
                · have hm := ifF hb41 hm
                  refine WO_pure tbok 19 [(6, .bool false)] rfl ⟨rfl, trivial⟩ ?_
                  refine WO_tail ?_
                  refine WO_end ?_
                  cases hm
                  exact WK_ret (ret_out (L := []) (RLc_tmp rfl RLc_nil) (List.nil_sublist _) rfl)
              · have hm := ifF hb40 hm
                refine WO_pure tbok 27 [(6, .bool false)] rfl ⟨rfl, trivial⟩ ?_
                refine WO_tail ?_
                refine WO_end ?_
                cases hm
                exact WK_ret (ret_out (L := []) (RLc_tmp rfl RLc_nil) (List.nil_sublist _) rfl)
            · have hm := ifF hb39 hm
              refine WO_pure tbok 31 [(6, .bool false)] rfl ⟨rfl, trivial⟩ ?_
              refine WO_tail ?_
              refine WO_end ?_
              cases hm
              exact WK_ret (ret_out (L := []) (RLc_tmp rfl RLc_nil) (List.nil_sublist _) rfl)
          · refine WK_block ?_
            refine WK_loop (S := List Int × Int) (G := List Ent) (fun s => fiduciallaw48_TerrainLocal_s1 p0_3 p0_5 p1 p2 l_3 s.1 s.2) (fun s g => [(2, .slice a_p2 p2.length c_p2), (3, .pointer (some ⟨b1, 0, none⟩)), (6, .bool false), (7, .int .i64 (Int.tmod (w64 (p1)) (p0_5.length : Int))), (8, .pointer (some ⟨b11, 0, none⟩)), (44, .int .i64 ((l_3).length : Int)), (45, .int .i64 s.2)]) (fun s g => St w0 m m [[⟨b1, 25, [.int .i64 p0_0, .int .i64 p0_1, .int .i64 p0_2, .int .i64 p0_3, .int .i64 p0_4, .slice a_p0_5 p0_5.length c_p0_5]⟩], [⟨b11, 25, [.int .i64 s_4, .int .i64 s_5, .int .i64 s_6, .int .i64 s_7, .int .i64 s_8, .slice a8 ((l_3).length) c9]⟩], g]) (fun s g => OwnE 3 1 (I1 .i64) (.slice a8 ((l_3).length) c9) s.1 g) FUEL (l_3, 0) L10 x16 hx17 hL10 ⟨rfl, rfl, rfl, rfl, rfl, rfl, rfl, trivial⟩ (fun _ h => h) ?_
            rintro ⟨l_9, s_10⟩ L14 o20 fl21 hm19 hL14 hn22 hd23
            have hm19 : fiduciallaw48_TerrainLocal_s1 p0_3 p0_5 p1 p2 l_3 l_9 s_10 = some o20 := hm19
            unfold fiduciallaw48_TerrainLocal_s1 at hm19
            refine WK.sub (e' := [(2, .slice a_p2 p2.length c_p2), (3, .pointer (some ⟨b1, 0, none⟩)), (6, .bool false), (7, .int .i64 (Int.tmod (w64 (p1)) (p0_5.length : Int))), (8, .pointer (some ⟨b11, 0, none⟩)), (44, .int .i64 ((l_3).length : Int)), (45, .int .i64 s_10)]) ⟨rfl, rfl, rfl, rfl, rfl, rfl, rfl, trivial⟩ (WK.cls (C' := St w0 m m [[⟨b1, 25, [.int .i64 p0_0, .int .i64 p0_1, .int .i64 p0_2, .int .i64 p0_3, .int .i64 p0_4, .slice a_p0_5 p0_5.length c_p0_5]⟩], [⟨b11, 25, [.int .i64 s_4, .int .i64 s_5, .int .i64 s_6, .int .i64 s_7, .int .i64 s_8, .slice a8 ((l_3).length) c9]⟩], L14]) (fun _ h => h) ?_)
            refine WK_seq ?_
            refine WK_region ?_
            refine WO_pure tbok 1 [(2, .slice a_p2 p2.length c_p2), (3, .pointer (some ⟨b1, 0, none⟩)), (6, .bool false), (7, .int .i64 (Int.tmod (w64 (p1)) (p0_5.length : Int))), (8, .pointer (some ⟨b11, 0, none⟩)), (44, .int .i64 ((l_3).length : Int)), (45, .int .i64 s_10), (46, .bool (decide (s_10 < ((l_3).length : Int))))] rfl ⟨rfl, rfl, rfl, rfl, rfl, rfl, rfl, rfl, trivial⟩ ?_
            refine WO_end ?_
            refine WK_seq ?_
            refine WK_cond (b := decide (s_10 < ((l_3).length : Int))) rfl (fun hb47 => ?_) (fun hb47 => ?_)
            · have hm19 := ifT hb47 hm19
              refine WK_skip ?_
              refine WK_seq ?_
              refine WK_block ?_
              refine WK_seq ?_
              refine WK_region ?_
              refine WO_pure tbok 2 [(2, .slice a_p2 p2.length c_p2), (3, .pointer (some ⟨b1, 0, none⟩)), (6, .bool false), (7, .int .i64 (Int.tmod (w64 (p1)) (p0_5.length : Int))), (8, .pointer (some ⟨b11, 0, none⟩)), (9, .int .i64 s_10), (44, .int .i64 ((l_3).length : Int)), (45, .int .i64 s_10)] rfl ⟨rfl, rfl, rfl, rfl, rfl, rfl, rfl, rfl, trivial⟩ ?_
              refine WO_end ?_
              refine WK_seq ?_
              refine WK_draw 20 [0, 1, 2, 3, 4, 5, 6, 7, 8, 9, 10, 11, 12, 13, 14, 15, 16, 17, 18, 19] follows_ok (by kernel_rfl) St_closed ?_
              refine WO_pure tbok 2 [(2, .slice a_p2 p2.length c_p2), (3, .pointer (some ⟨b1, 0, none⟩)), (6, .bool false), (7, .int .i64 (Int.tmod (w64 (p1)) (p0_5.length : Int))), (8, .pointer (some ⟨b11, 0, none⟩)), (9, .int .i64 s_10), (44, .int .i64 ((l_3).length : Int)), (45, .int .i64 s_10), (48, .int .i64 (Int.tmod (w64 (p1)) (p0_5.length : Int))), (49, .pointer (some ⟨b1, 3, none⟩))] rfl ⟨rfl, rfl, rfl, rfl, rfl, rfl, rfl, rfl, rfl, rfl, trivial⟩ ?_
              refine WO_loadB tbok 0 rfl rfl rfl rfl (fun _ h => h) rfl rfl ?_
              obtain ⟨hc48, hm19⟩ := chk_some hm19
              refine WO_rem rfl rfl rfl rfl rfl hc48 ?_
              refine WO_pure tbok 2 [(2, .slice a_p2 p2.length c_p2), (3, .pointer (some ⟨b1, 0, none⟩)), (6, .bool false), (7, .int .i64 (Int.tmod (w64 (p1)) (p0_5.length : Int))), (8, .pointer (some ⟨b11, 0, none⟩)), (9, .int .i64 s_10), (44, .int .i64 ((l_3).length : Int)), (45, .int .i64 s_10), (51, .int .i64 (Int.tmod (Int.tmod (w64 (p1)) (p0_5.length : Int)) p0_3)), (52, .int .i64 s_10), (53, .pointer (some ⟨b1, 3, none⟩))] rfl ⟨rfl, rfl, rfl, rfl, rfl, rfl, rfl, rfl, rfl, rfl, rfl, trivial⟩ ?_
              refine WO_loadB tbok 0 rfl rfl rfl rfl (fun _ h => h) rfl rfl ?_
              obtain ⟨hc49, hm19⟩ := chk_some hm19
              refine WO_rem rfl rfl rfl rfl rfl hc49 ?_
              refine WO_pure tbok 3 [(2, .slice a_p2 p2.length c_p2), (3, .pointer (some ⟨b1, 0, none⟩)), (6, .bool false), (7, .int .i64 (Int.tmod (w64 (p1)) (p0_5.length : Int))), (8, .pointer (some ⟨b11, 0, none⟩)), (9, .int .i64 s_10), (44, .int .i64 ((l_3).length : Int)), (45, .int .i64 s_10), (56, .int .i64 (w64 ((Int.tmod (Int.tmod (w64 (p1)) (p0_5.length : Int)) p0_3) - (Int.tmod s_10 p0_3)))), (57, .int .i64 (Int.tmod (w64 (p1)) (p0_5.length : Int))), (58, .pointer (some ⟨b1, 3, none⟩))] rfl ⟨rfl, rfl, rfl, rfl, rfl, rfl, rfl, rfl, rfl, rfl, rfl, trivial⟩ ?_
              refine WO_loadB tbok 0 rfl rfl rfl rfl (fun _ h => h) rfl rfl ?_
              obtain ⟨hc50, hm19⟩ := chk_some hm19
              refine WO_quo rfl rfl rfl rfl rfl hc50 ?_
              refine WO_pure tbok 2 [(2, .slice a_p2 p2.length c_p2), (3, .pointer (some ⟨b1, 0, none⟩)), (6, .bool false), (7, .int .i64 (Int.tmod (w64 (p1)) (p0_5.length : Int))), (8, .pointer (some ⟨b11, 0, none⟩)), (9, .int .i64 s_10), (44, .int .i64 ((l_3).length : Int)), (45, .int .i64 s_10), (56, .int .i64 (w64 ((Int.tmod (Int.tmod (w64 (p1)) (p0_5.length : Int)) p0_3) - (Int.tmod s_10 p0_3)))), (60, .int .i64 (w64 (Int.tdiv (Int.tmod (w64 (p1)) (p0_5.length : Int)) p0_3))), (61, .int .i64 s_10), (62, .pointer (some ⟨b1, 3, none⟩))] rfl ⟨rfl, rfl, rfl, rfl, rfl, rfl, rfl, rfl, rfl, rfl, rfl, rfl, trivial⟩ ?_
              refine WO_loadB tbok 0 rfl rfl rfl rfl (fun _ h => h) rfl rfl ?_
              obtain ⟨hc51, hm19⟩ := chk_some hm19
              refine WO_quo rfl rfl rfl rfl rfl hc51 ?_
              refine WO_pure tbok 3 [(2, .slice a_p2 p2.length c_p2), (3, .pointer (some ⟨b1, 0, none⟩)), (6, .bool false), (7, .int .i64 (Int.tmod (w64 (p1)) (p0_5.length : Int))), (8, .pointer (some ⟨b11, 0, none⟩)), (9, .int .i64 s_10), (10, .int .i64 (w64 ((Int.tmod (Int.tmod (w64 (p1)) (p0_5.length : Int)) p0_3) - (Int.tmod s_10 p0_3)))), (11, .int .i64 (w64 ((w64 (Int.tdiv (Int.tmod (w64 (p1)) (p0_5.length : Int)) p0_3)) - (w64 (Int.tdiv s_10 p0_3))))), (44, .int .i64 ((l_3).length : Int)), (45, .int .i64 s_10)] rfl ⟨rfl, rfl, rfl, rfl, rfl, rfl, rfl, rfl, rfl, rfl, trivial⟩ ?_
              refine WO_tail ?_
              refine WO_end ?_
              refine WK_seq ?_
              obtain ⟨s_18, hx52, hm19⟩ := bind_some hm19
              refine WK_meet [(2, .slice a_p2 p2.length c_p2), (3, .pointer (some ⟨b1, 0, none⟩)), (6, .bool false), (7, .int .i64 (Int.tmod (w64 (p1)) (p0_5.length : Int))), (8, .pointer (some ⟨b11, 0, none⟩)), (9, .int .i64 s_10), (44, .int .i64 ((l_3).length : Int)), (45, .int .i64 s_10), (79, .bool s_18)] (St w0 m m [[⟨b1, 25, [.int .i64 p0_0, .int .i64 p0_1, .int .i64 p0_2, .int .i64 p0_3, .int .i64 p0_4, .slice a_p0_5 p0_5.length c_p0_5]⟩], [⟨b11, 25, [.int .i64 s_4, .int .i64 s_5, .int .i64 s_6, .int .i64 s_7, .int .i64 s_8, .slice a8 ((l_3).length) c9]⟩], L14]) ?_ (fun hk53 => ?_)
              · obtain ⟨l_19, hx55, hm19⟩ := bind_some hm19
                refine WK_join (β := List Ent) (fun p => OwnE 3 1 (I1 .i64) (.slice a8 ((l_3).length) c9) l_19 p) (fun p => [(2, .slice a_p2 p2.length c_p2), (3, .pointer (some ⟨b1, 0, none⟩)), (6, .bool false), (7, .int .i64 (Int.tmod (w64 (p1)) (p0_5.length : Int))), (8, .pointer (some ⟨b11, 0, none⟩)), (44, .int .i64 ((l_3).length : Int)), (45, .int .i64 s_10)]) (fun p => St w0 m m [[⟨b1, 25, [.int .i64 p0_0, .int .i64 p0_1, .int .i64 p0_2, .int .i64 p0_3, .int .i64 p0_4, .slice a_p0_5 p0_5.length c_p0_5]⟩], [⟨b11, 25, [.int .i64 s_4, .int .i64 s_5, .int .i64 s_6, .int .i64 s_7, .int .i64 s_8, .slice a8 ((l_3).length) c9]⟩], p]) ?_ (fun hk56 => ?_)
                · rintro L54 hL54
                  refine WK.sub (e' := [(2, .slice a_p2 p2.length c_p2), (3, .pointer (some ⟨b1, 0, none⟩)), (6, .bool false), (7, .int .i64 (Int.tmod (w64 (p1)) (p0_5.length : Int))), (8, .pointer (some ⟨b11, 0, none⟩)), (44, .int .i64 ((l_3).length : Int)), (45, .int .i64 s_10)]) ⟨rfl, rfl, rfl, rfl, rfl, rfl, rfl, trivial⟩ (WK.cls (C' := St w0 m m [[⟨b1, 25, [.int .i64 p0_0, .int .i64 p0_1, .int .i64 p0_2, .int .i64 p0_3, .int .i64 p0_4, .slice a_p0_5 p0_5.length c_p0_5]⟩], [⟨b11, 25, [.int .i64 s_4, .int .i64 s_5, .int .i64 s_6, .int .i64 s_7, .int .i64 s_8, .slice a8 ((l_3).length) c9]⟩], L54]) (fun _ h => h) ?_)
                  refine WK_blk ?_
                  refine WK_region ?_
                  refine WO_pure tbok 2 [(2, .slice a_p2 p2.length c_p2), (3, .pointer (some ⟨b1, 0, none⟩)), (6, .bool false), (7, .int .i64 (Int.tmod (w64 (p1)) (p0_5.length : Int))), (8, .pointer (some ⟨b11, 0, none⟩)), (44, .int .i64 ((l_3).length : Int)), (45, .int .i64 (w64 (s_10 + 1)))] rfl ⟨rfl, rfl, rfl, rfl, rfl, rfl, rfl, trivial⟩ ?_
                  refine WO_end ?_
                  cases hm19
                  refine WK.sub ?_ (WK.cls (fun _ h => h) (hn22 _ L54 rfl hL54))
                  exact ⟨rfl, rfl, rfl, rfl, rfl, rfl, rfl, trivial⟩
                · refine WK_cond (b := s_18) rfl (fun hb57 => ?_) (fun hb57 => ?_)
                  · have hx55 := ifT hb57 hx55
                    refine WK_draw 9 [0, 1, 2, 3, 4, 5, 6, 7, 8] follows_ok (by kernel_rfl) St_closed ?_
                    refine WO_pure tbok 1 [(2, .slice a_p2 p2.length c_p2), (3, .pointer (some ⟨b1, 0, none⟩)), (6, .bool false), (7, .int .i64 (Int.tmod (w64 (p1)) (p0_5.length : Int))), (8, .pointer (some ⟨b11, 0, none⟩)), (9, .int .i64 s_10), (44, .int .i64 ((l_3).length : Int)), (45, .int .i64 s_10), (80, .pointer (some ⟨b11, 5, none⟩))] rfl ⟨rfl, rfl, rfl, rfl, rfl, rfl, rfl, rfl, rfl, trivial⟩ ?_
                    refine WO_loadB tbok 1 rfl rfl rfl rfl (fun _ h => h) rfl rfl ?_
                    refine WO_pure tbok 3 [(2, .slice a_p2 p2.length c_p2), (3, .pointer (some ⟨b1, 0, none⟩)), (6, .bool false), (7, .int .i64 (Int.tmod (w64 (p1)) (p0_5.length : Int))), (8, .pointer (some ⟨b11, 0, none⟩)), (44, .int .i64 ((l_3).length : Int)), (45, .int .i64 s_10), (81, .slice a8 ((l_3).length) c9), (82, .int .i64 s_10), (83, .slice a_p2 p2.length c_p2), (84, .int .i64 s_10)] rfl ⟨rfl, rfl, rfl, rfl, rfl, rfl, rfl, rfl, rfl, rfl, rfl, trivial⟩ ?_
                    obtain ⟨v_20, hy58, hx55⟩ := bind_some hx55
                    obtain ⟨hc59, hy58⟩ := ix_some hy58
                    refine WO_index tbok rfl rfl rfl rfl rfl rfl rfl rfl (SlR.addr h_p2) hc59 ?_
                    refine WO_loadE tbok rfl rfl rfl rfl (fun _ h => St.sat h) h_p2 hy58 rfl ?_
                    refine WO_pure tbok 1 [(2, .slice a_p2 p2.length c_p2), (3, .pointer (some ⟨b1, 0, none⟩)), (6, .bool false), (7, .int .i64 (Int.tmod (w64 (p1)) (p0_5.length : Int))), (8, .pointer (some ⟨b11, 0, none⟩)), (44, .int .i64 ((l_3).length : Int)), (45, .int .i64 s_10), (81, .slice a8 ((l_3).length) c9), (82, .int .i64 s_10), (87, .int .i64 (Int.tmod v_20 1000))] rfl ⟨rfl, rfl, rfl, rfl, rfl, rfl, rfl, rfl, rfl, rfl, trivial⟩ ?_
                    obtain ⟨hc60, hx55⟩ := chk_some hx55
                    refine WO_index tbok rfl rfl rfl rfl rfl rfl rfl rfl (OwnE.addr hL14) (by simpa using hc60) ?_
                    refine WO_tail ?_
                    refine WO_storeO (E := (I1 .i64)) tbok (fun _ => rfl) 2 (Int.tmod v_20 1000) rfl rfl rfl rfl rfl hL14 rfl (by simpa using idx_lt hc60) rfl rfl rfl rfl (fun L61 hL61 => ?_)
                    refine WO.cls (C' := St w0 m m [[⟨b1, 25, [.int .i64 p0_0, .int .i64 p0_1, .int .i64 p0_2, .int .i64 p0_3, .int .i64 p0_4, .slice a_p0_5 p0_5.length c_p0_5]⟩], [⟨b11, 25, [.int .i64 s_4, .int .i64 s_5, .int .i64 s_6, .int .i64 s_7, .int .i64 s_8, .slice a8 ((l_3).length) c9]⟩], L61]) (fun _ h => h) ?_
                    refine WO_end ?_
                    cases hx55
                    refine WK.sub ?_ (WK.cls (fun _ h => h) (hk56 L61 hL61))
                    exact ⟨rfl, rfl, rfl, rfl, rfl, rfl, rfl, trivial⟩
                  · have hx55 := ifF hb57 hx55
                    refine WK_skip ?_
                    cases hx55
                    refine WK.sub ?_ (WK.cls (fun _ h => h) (hk56 L14 hL14))
                    exact ⟨rfl, rfl, rfl, rfl, rfl, rfl, rfl, trivial⟩
              · refine WK_region ?_
                refine WO_pure tbok 9 [(2, .slice a_p2 p2.length c_p2), (3, .pointer (some ⟨b1, 0, none⟩)), (6, .bool false), (7, .int .i64 (Int.tmod (w64 (p1)) (p0_5.length : Int))), (8, .pointer (some ⟨b11, 0, none⟩)), (9, .int .i64 s_10), (44, .int .i64 ((l_3).length : Int)), (45, .int .i64 s_10), (74, .bool (decide (6 < (if (if (if (w64 ((Int.tmod (Int.tmod (w64 (p1)) (p0_5.length : Int)) p0_3) - (Int.tmod s_10 p0_3))) < (w64 (0 - (w64 ((Int.tmod (Int.tmod (w64 (p1)) (p0_5.length : Int)) p0_3) - (Int.tmod s_10 p0_3))))) then (w64 (0 - (w64 ((Int.tmod (Int.tmod (w64 (p1)) (p0_5.length : Int)) p0_3) - (Int.tmod s_10 p0_3))))) else (w64 ((Int.tmod (Int.tmod (w64 (p1)) (p0_5.length : Int)) p0_3) - (Int.tmod s_10 p0_3)))) < (w64 ((w64 (Int.tdiv (Int.tmod (w64 (p1)) (p0_5.length : Int)) p0_3)) - (w64 (Int.tdiv s_10 p0_3)))) then (w64 ((w64 (Int.tdiv (Int.tmod (w64 (p1)) (p0_5.length : Int)) p0_3)) - (w64 (Int.tdiv s_10 p0_3)))) else (if (w64 ((Int.tmod (Int.tmod (w64 (p1)) (p0_5.length : Int)) p0_3) - (Int.tmod s_10 p0_3))) < (w64 (0 - (w64 ((Int.tmod (Int.tmod (w64 (p1)) (p0_5.length : Int)) p0_3) - (Int.tmod s_10 p0_3))))) then (w64 (0 - (w64 ((Int.tmod (Int.tmod (w64 (p1)) (p0_5.length : Int)) p0_3) - (Int.tmod s_10 p0_3))))) else (w64 ((Int.tmod (Int.tmod (w64 (p1)) (p0_5.length : Int)) p0_3) - (Int.tmod s_10 p0_3))))) < (w64 (0 - (w64 ((w64 (Int.tdiv (Int.tmod (w64 (p1)) (p0_5.length : Int)) p0_3)) - (w64 (Int.tdiv s_10 p0_3)))))) then (w64 (0 - (w64 ((w64 (Int.tdiv (Int.tmod (w64 (p1)) (p0_5.length : Int)) p0_3)) - (w64 (Int.tdiv s_10 p0_3)))))) else (if (if (w64 ((Int.tmod (Int.tmod (w64 (p1)) (p0_5.length : Int)) p0_3) - (Int.tmod s_10 p0_3))) < (w64 (0 - (w64 ((Int.tmod (Int.tmod (w64 (p1)) (p0_5.length : Int)) p0_3) - (Int.tmod s_10 p0_3))))) then (w64 (0 - (w64 ((Int.tmod (Int.tmod (w64 (p1)) (p0_5.length : Int)) p0_3) - (Int.tmod s_10 p0_3))))) else (w64 ((Int.tmod (Int.tmod (w64 (p1)) (p0_5.length : Int)) p0_3) - (Int.tmod s_10 p0_3)))) < (w64 ((w64 (Int.tdiv (Int.tmod (w64 (p1)) (p0_5.length : Int)) p0_3)) - (w64 (Int.tdiv s_10 p0_3)))) then (w64 ((w64 (Int.tdiv (Int.tmod (w64 (p1)) (p0_5.length : Int)) p0_3)) - (w64 (Int.tdiv s_10 p0_3)))) else (if (w64 ((Int.tmod (Int.tmod (w64 (p1)) (p0_5.length : Int)) p0_3) - (Int.tmod s_10 p0_3))) < (w64 (0 - (w64 ((Int.tmod (Int.tmod (w64 (p1)) (p0_5.length : Int)) p0_3) - (Int.tmod s_10 p0_3))))) then (w64 (0 - (w64 ((Int.tmod (Int.tmod (w64 (p1)) (p0_5.length : Int)) p0_3) - (Int.tmod s_10 p0_3))))) else (w64 ((Int.tmod (Int.tmod (w64 (p1)) (p0_5.length : Int)) p0_3) - (Int.tmod s_10 p0_3)))))))))] rfl ⟨rfl, rfl, rfl, rfl, rfl, rfl, rfl, rfl, rfl, trivial⟩ ?_
                refine WO_split (d := 74) (b := decide (6 < (if (if (if (w64 ((Int.tmod (Int.tmod (w64 (p1)) (p0_5.length : Int)) p0_3) - (Int.tmod s_10 p0_3))) < (w64 (0 - (w64 ((Int.tmod (Int.tmod (w64 (p1)) (p0_5.length : Int)) p0_3) - (Int.tmod s_10 p0_3))))) then (w64 (0 - (w64 ((Int.tmod (Int.tmod (w64 (p1)) (p0_5.length : Int)) p0_3) - (Int.tmod s_10 p0_3))))) else (w64 ((Int.tmod (Int.tmod (w64 (p1)) (p0_5.length : Int)) p0_3) - (Int.tmod s_10 p0_3)))) < (w64 ((w64 (Int.tdiv (Int.tmod (w64 (p1)) (p0_5.length : Int)) p0_3)) - (w64 (Int.tdiv s_10 p0_3)))) then (w64 ((w64 (Int.tdiv (Int.tmod (w64 (p1)) (p0_5.length : Int)) p0_3)) - (w64 (Int.tdiv s_10 p0_3)))) else (if (w64 ((Int.tmod (Int.tmod (w64 (p1)) (p0_5.length : Int)) p0_3) - (Int.tmod s_10 p0_3))) < (w64 (0 - (w64 ((Int.tmod (Int.tmod (w64 (p1)) (p0_5.length : Int)) p0_3) - (Int.tmod s_10 p0_3))))) then (w64 (0 - (w64 ((Int.tmod (Int.tmod (w64 (p1)) (p0_5.length : Int)) p0_3) - (Int.tmod s_10 p0_3))))) else (w64 ((Int.tmod (Int.tmod (w64 (p1)) (p0_5.length : Int)) p0_3) - (Int.tmod s_10 p0_3))))) < (w64 (0 - (w64 ((w64 (Int.tdiv (Int.tmod (w64 (p1)) (p0_5.length : Int)) p0_3)) - (w64 (Int.tdiv s_10 p0_3)))))) then (w64 (0 - (w64 ((w64 (Int.tdiv (Int.tmod (w64 (p1)) (p0_5.length : Int)) p0_3)) - (w64 (Int.tdiv s_10 p0_3)))))) else (if (if (w64 ((Int.tmod (Int.tmod (w64 (p1)) (p0_5.length : Int)) p0_3) - (Int.tmod s_10 p0_3))) < (w64 (0 - (w64 ((Int.tmod (Int.tmod (w64 (p1)) (p0_5.length : Int)) p0_3) - (Int.tmod s_10 p0_3))))) then (w64 (0 - (w64 ((Int.tmod (Int.tmod (w64 (p1)) (p0_5.length : Int)) p0_3) - (Int.tmod s_10 p0_3))))) else (w64 ((Int.tmod (Int.tmod (w64 (p1)) (p0_5.length : Int)) p0_3) - (Int.tmod s_10 p0_3)))) < (w64 ((w64 (Int.tdiv (Int.tmod (w64 (p1)) (p0_5.length : Int)) p0_3)) - (w64 (Int.tdiv s_10 p0_3)))) then (w64 ((w64 (Int.tdiv (Int.tmod (w64 (p1)) (p0_5.length : Int)) p0_3)) - (w64 (Int.tdiv s_10 p0_3)))) else (if (w64 ((Int.tmod (Int.tmod (w64 (p1)) (p0_5.length : Int)) p0_3) - (Int.tmod s_10 p0_3))) < (w64 (0 - (w64 ((Int.tmod (Int.tmod (w64 (p1)) (p0_5.length : Int)) p0_3) - (Int.tmod s_10 p0_3))))) then (w64 (0 - (w64 ((Int.tmod (Int.tmod (w64 (p1)) (p0_5.length : Int)) p0_3) - (Int.tmod s_10 p0_3))))) else (w64 ((Int.tmod (Int.tmod (w64 (p1)) (p0_5.length : Int)) p0_3) - (Int.tmod s_10 p0_3)))))))) rfl (fun hb62 => ?_) (fun hb62 => ?_)
                · have hx52 := ifT hb62 hx52
                  refine WO_pure tbok 5 [(2, .slice a_p2 p2.length c_p2), (3, .pointer (some ⟨b1, 0, none⟩)), (6, .bool false), (7, .int .i64 (Int.tmod (w64 (p1)) (p0_5.length : Int))), (8, .pointer (some ⟨b11, 0, none⟩)), (9, .int .i64 s_10), (44, .int .i64 ((l_3).length : Int)), (45, .int .i64 s_10), (79, .bool (decide (s_10 < (p2.length : Int))))] rfl ⟨rfl, rfl, rfl, rfl, rfl, rfl, rfl, rfl, rfl, trivial⟩ ?_
                  refine WO_end ?_
                  cases hx52
                  refine WK.sub ?_ (WK.cls (fun _ h => h) hk53)
                  exact ⟨rfl, rfl, rfl, rfl, rfl, rfl, rfl, rfl, rfl, trivial⟩
                · have hx52 := ifF hb62 hx52
                  refine WO_pure tbok 5 [(2, .slice a_p2 p2.length c_p2), (3, .pointer (some ⟨b1, 0, none⟩)), (6, .bool false), (7, .int .i64 (Int.tmod (w64 (p1)) (p0_5.length : Int))), (8, .pointer (some ⟨b11, 0, none⟩)), (9, .int .i64 s_10), (44, .int .i64 ((l_3).length : Int)), (45, .int .i64 s_10), (79, .bool false)] rfl ⟨rfl, rfl, rfl, rfl, rfl, rfl, rfl, rfl, rfl, trivial⟩ ?_
                  refine WO_end ?_
                  cases hx52
                  refine WK.sub ?_ (WK.cls (fun _ h => h) hk53)
                  exact ⟨rfl, rfl, rfl, rfl, rfl, rfl, rfl, rfl, rfl, trivial⟩
            · have hm19 := ifF hb47 hm19
              refine WK_exit rfl ?_
              cases hm19
              refine WK.sub ?_ (WK.cls (fun _ h => h) (hk18 (l_9, L14) ⟨(hd23 _ rfl), hL14⟩))
              exact ⟨rfl, rfl, rfl, rfl, trivial⟩
        · refine WK_plan 6 [1] (.run [0, 2] (.alt 3 (.alt 4 (.run [5] .fin) (.alt 5 (.run [4] .fin) .none)) (.alt 5 (.run [3, 4] .fin) .none))) follows_ok (by kernel_rfl) St_closed ?_
          refine WO_pure tbok 1 [(2, .slice a_p2 p2.length c_p2), (3, .pointer (some ⟨b1, 0, none⟩)), (6, .bool false), (7, .int .i64 (Int.tmod (w64 (p1)) (p0_5.length : Int))), (38, .pointer (some ⟨b1, 5, none⟩))] rfl ⟨rfl, rfl, rfl, rfl, rfl, trivial⟩ ?_
          refine WO_plan ?_
          refine WT_run ?_
          refine WO_loadB tbok 0 rfl rfl rfl rfl (fun _ h => h) rfl rfl ?_
          refine WO_loadB tbok 0 rfl rfl rfl rfl (fun _ h => h) rfl rfl ?_
          refine WO_tree rfl ?_
          refine WT_alt rfl ?_ ?_
          · obtain ⟨y_21, hc63, hx12⟩ := bind_some hx12
            refine WO_call1 (slices_Clone_sint_Q y_21) rfl rfl St_closed rfl rfl rfl rfl ⟨23, #[], #[], rfl, callable_23, fun w hw => ⟨_, hw.sat, slices_Clone_sint_walk h_p0_5 hc63⟩⟩ (fun v67 L66 hq => ?_)
            obtain ⟨a64, qa64, c65, rfl, hL66⟩ := hq
            obtain rfl := OwnE.qlen hL66
            refine WO.cls (C' := St w0 m m [[⟨b1, 25, [.int .i64 p0_0, .int .i64 p0_1, .int .i64 p0_2, .int .i64 p0_3, .int .i64 p0_4, .slice a_p0_5 p0_5.length c_p0_5]⟩], L66]) (fun _ h => h) ?_
            refine WO_tree rfl ?_
            refine WT_alt rfl ?_ ?_
            · refine WO_inline rfl rfl rfl rfl rfl rfl callable_22 Try.func22 rfl rfl rfl ?_
              refine WK.sub (e' := [(0, .agg #[.int .i64 p0_0, .int .i64 p0_1, .int .i64 p0_2, .int .i64 p0_3, .int .i64 p0_4, .slice a_p0_5 p0_5.length c_p0_5]), (1, .slice a64 ((y_21).length) c65)]) ⟨rfl, rfl, trivial⟩ ?_
              refine WK_seq ?_
              refine WK_region ?_
              refine WO_box [.int .i64 p0_0, .int .i64 p0_1, .int .i64 p0_2, .int .i64 p0_3, .int .i64 p0_4, .slice a_p0_5 p0_5.length c_p0_5] rfl rfl trivial rfl rfl rfl (fun b68 => ?_)
              refine WO.cls (C' := St w0 m m [[⟨b1, 25, [.int .i64 p0_0, .int .i64 p0_1, .int .i64 p0_2, .int .i64 p0_3, .int .i64 p0_4, .slice a_p0_5 p0_5.length c_p0_5]⟩], L66, [⟨b68, 25, [.int .i64 p0_0, .int .i64 p0_1, .int .i64 p0_2, .int .i64 p0_3, .int .i64 p0_4, .slice a_p0_5 p0_5.length c_p0_5]⟩]]) (fun _ h => h) ?_
              refine WO_alloc tbok [.int .i64 0, .int .i64 0, .int .i64 0, .int .i64 0, .int .i64 0, .slice none 0 0] rfl rfl trivial rfl rfl rfl rfl (fun b69 => ?_)
              refine WO.cls (C' := St w0 m m [[⟨b1, 25, [.int .i64 p0_0, .int .i64 p0_1, .int .i64 p0_2, .int .i64 p0_3, .int .i64 p0_4, .slice a_p0_5 p0_5.length c_p0_5]⟩], L66, [⟨b68, 25, [.int .i64 p0_0, .int .i64 p0_1, .int .i64 p0_2, .int .i64 p0_3, .int .i64 p0_4, .slice a_p0_5 p0_5.length c_p0_5]⟩], [⟨b69, 25, [.int .i64 0, .int .i64 0, .int .i64 0, .int .i64 0, .int .i64 0, .slice none 0 0]⟩]]) (fun _ h => h) ?_
              refine WO_end ?_
              refine WK_seq ?_
              refine WK_region ?_
              refine WO_pure tbok 1 [(1, .slice a64 ((y_21).length) c65), (2, .pointer (some ⟨b68, 0, none⟩)), (4, .pointer (some ⟨b69, 0, none⟩)), (5, .pointer (some ⟨b68, 0, none⟩))] rfl ⟨rfl, rfl, rfl, rfl, trivial⟩ ?_
              refine WO_loadB tbok 2 rfl rfl rfl rfl (fun _ h => h) rfl rfl ?_
              refine WO_pure tbok 1 [(1, .slice a64 ((y_21).length) c65), (2, .pointer (some ⟨b68, 0, none⟩)), (4, .pointer (some ⟨b69, 0, none⟩)), (6, .int .i64 p0_0), (7, .pointer (some ⟨b68, 1, none⟩))] rfl ⟨rfl, rfl, rfl, rfl, rfl, trivial⟩ ?_
              refine WO_loadB tbok 2 rfl rfl rfl rfl (fun _ h => h) rfl rfl ?_
              refine WO_pure tbok 1 [(1, .slice a64 ((y_21).length) c65), (2, .pointer (some ⟨b68, 0, none⟩)), (4, .pointer (some ⟨b69, 0, none⟩)), (6, .int .i64 p0_0), (8, .int .i64 p0_1), (9, .pointer (some ⟨b68, 2, none⟩))] rfl ⟨rfl, rfl, rfl, rfl, rfl, rfl, trivial⟩ ?_
              refine WO_loadB tbok 2 rfl rfl rfl rfl (fun _ h => h) rfl rfl ?_
              refine WO_pure tbok 1 [(1, .slice a64 ((y_21).length) c65), (2, .pointer (some ⟨b68, 0, none⟩)), (4, .pointer (some ⟨b69, 0, none⟩)), (6, .int .i64 p0_0), (8, .int .i64 p0_1), (10, .int .i64 p0_2), (11, .pointer (some ⟨b68, 3, none⟩))] rfl ⟨rfl, rfl, rfl, rfl, rfl, rfl, rfl, trivial⟩ ?_
              refine WO_loadB tbok 2 rfl rfl rfl rfl (fun _ h => h) rfl rfl ?_
              refine WO_pure tbok 1 [(1, .slice a64 ((y_21).length) c65), (4, .pointer (some ⟨b69, 0, none⟩)), (6, .int .i64 p0_0), (8, .int .i64 p0_1), (10, .int .i64 p0_2), (12, .int .i64 p0_3), (13, .pointer (some ⟨b68, 4, none⟩))] rfl ⟨rfl, rfl, rfl, rfl, rfl, rfl, rfl, trivial⟩ ?_
              refine WO_loadB tbok 2 rfl rfl rfl rfl (fun _ h => h) rfl rfl ?_
              refine WO_pure tbok 2 [(4, .pointer (some ⟨b69, 0, none⟩)), (16, .agg #[.int .i64 p0_0, .int .i64 p0_1, .int .i64 p0_2, .int .i64 p0_3, .int .i64 p0_4, .slice a64 ((y_21).length) c65])] rfl ⟨rfl, rfl, trivial⟩ ?_
              refine WO_storeB tbok 3 [.int .i64 p0_0, .int .i64 p0_1, .int .i64 p0_2, .int .i64 p0_3, .int .i64 p0_4, .slice a64 ((y_21).length) c65] rfl rfl rfl rfl rfl rfl rfl ?_
              refine WO.cls (C' := St w0 m m [[⟨b1, 25, [.int .i64 p0_0, .int .i64 p0_1, .int .i64 p0_2, .int .i64 p0_3, .int .i64 p0_4, .slice a_p0_5 p0_5.length c_p0_5]⟩], L66, [⟨b68, 25, [.int .i64 p0_0, .int .i64 p0_1, .int .i64 p0_2, .int .i64 p0_3, .int .i64 p0_4, .slice a_p0_5 p0_5.length c_p0_5]⟩], [⟨b69, 25, [.int .i64 p0_0, .int .i64 p0_1, .int .i64 p0_2, .int .i64 p0_3, .int .i64 p0_4, .slice a64 ((y_21).length) c65]⟩]]) (fun _ h => h) ?_
              refine WO_end ?_
              refine WK_retI (RLc_cell tbok 3 rfl rfl rfl RLc_nil) (fun _ h => St.back (Ls := [[⟨b1, 25, [.int .i64 p0_0, .int .i64 p0_1, .int .i64 p0_2, .int .i64 p0_3, .int .i64 p0_4, .slice a_p0_5 p0_5.length c_p0_5]⟩]]) (X := [L66, [⟨b68, 25, [.int .i64 p0_0, .int .i64 p0_1, .int .i64 p0_2, .int .i64 p0_3, .int .i64 p0_4, .slice a_p0_5 p0_5.length c_p0_5]⟩], [⟨b69, 25, [.int .i64 p0_0, .int .i64 p0_1, .int .i64 p0_2, .int .i64 p0_3, .int .i64 p0_4, .slice a64 ((y_21).length) c65]⟩]]) h (Le.refl _) (Le.refl _)) ?_
              refine WO.cls (C' := St w0 m m [[⟨b1, 25, [.int .i64 p0_0, .int .i64 p0_1, .int .i64 p0_2, .int .i64 p0_3, .int .i64 p0_4, .slice a_p0_5 p0_5.length c_p0_5]⟩], L66]) (fun _ h => St.take 2 h) ?_
              refine WO_tree rfl ?_
              refine WT_run ?_
              refine WO_alloc tbok [.int .i64 0, .int .i64 0, .int .i64 0, .int .i64 0, .int .i64 0, .slice none 0 0] rfl rfl St_closed rfl rfl rfl rfl (fun b70 => ?_)
              refine WO.cls (C' := St w0 m m [[⟨b1, 25, [.int .i64 p0_0, .int .i64 p0_1, .int .i64 p0_2, .int .i64 p0_3, .int .i64 p0_4, .slice a_p0_5 p0_5.length c_p0_5]⟩], L66, [⟨b70, 25, [.int .i64 0, .int .i64 0, .int .i64 0, .int .i64 0, .int .i64 0, .slice none 0 0]⟩]]) (fun _ h => h) ?_
              refine WO_tree rfl ?_
              refine WT_fin ?_
              refine WO_storeB tbok 2 [.int .i64 p0_0, .int .i64 p0_1, .int .i64 p0_2, .int .i64 p0_3, .int .i64 p0_4, .slice a64 ((y_21).length) c65] rfl rfl rfl rfl rfl rfl rfl ?_
              refine WO.cls (C' := St w0 m m [[⟨b1, 25, [.int .i64 p0_0, .int .i64 p0_1, .int .i64 p0_2, .int .i64 p0_3, .int .i64 p0_4, .slice a_p0_5 p0_5.length c_p0_5]⟩], L66, [⟨b70, 25, [.int .i64 p0_0, .int .i64 p0_1, .int .i64 p0_2, .int .i64 p0_3, .int .i64 p0_4, .slice a64 ((y_21).length) c65]⟩]]) (fun _ h => h) ?_
              refine WO_end ?_
              refine WK.cls (fun _ h => h.perm (Ls' := [[⟨b1, 25, [.int .i64 p0_0, .int .i64 p0_1, .int .i64 p0_2, .int .i64 p0_3, .int .i64 p0_4, .slice a_p0_5 p0_5.length c_p0_5]⟩], [⟨b70, 25, [.int .i64 p0_0, .int .i64 p0_1, .int .i64 p0_2, .int .i64 p0_3, .int .i64 p0_4, .slice a64 ((y_21).length) c65]⟩], L66]) (List.Perm.flatten (List.Perm.cons _ (List.Perm.swap _ _ _)))) ?_
              cases hx12
              refine WK.sub ?_ (hk13 ⟨a64, c65, L66, b70⟩ hL66)
              exact ⟨rfl, rfl, rfl, rfl, rfl, trivial⟩
            · refine WT_alt rfl ?_ ?_
              · refine WO_alloc tbok [.int .i64 0, .int .i64 0, .int .i64 0, .int .i64 0, .int .i64 0, .slice none 0 0] rfl rfl St_closed rfl rfl rfl rfl (fun b71 => ?_)
                refine WO.cls (C' := St w0 m m [[⟨b1, 25, [.int .i64 p0_0, .int .i64 p0_1, .int .i64 p0_2, .int .i64 p0_3, .int .i64 p0_4, .slice a_p0_5 p0_5.length c_p0_5]⟩], L66, [⟨b71, 25, [.int .i64 0, .int .i64 0, .int .i64 0, .int .i64 0, .int .i64 0, .slice none 0 0]⟩]]) (fun _ h => h) ?_
                refine WO_tree rfl ?_
                refine WT_run ?_
                refine WO_inline rfl rfl rfl rfl rfl rfl callable_22 Try.func22 rfl rfl rfl ?_
                refine WK.sub (e' := [(0, .agg #[.int .i64 p0_0, .int .i64 p0_1, .int .i64 p0_2, .int .i64 p0_3, .int .i64 p0_4, .slice a_p0_5 p0_5.length c_p0_5]), (1, .slice a64 ((y_21).length) c65)]) ⟨rfl, rfl, trivial⟩ ?_
                refine WK_seq ?_
                refine WK_region ?_
                refine WO_box [.int .i64 p0_0, .int .i64 p0_1, .int .i64 p0_2, .int .i64 p0_3, .int .i64 p0_4, .slice a_p0_5 p0_5.length c_p0_5] rfl rfl trivial rfl rfl rfl (fun b72 => ?_)
                refine WO.cls (C' := St w0 m m [[⟨b1, 25, [.int .i64 p0_0, .int .i64 p0_1, .int .i64 p0_2, .int .i64 p0_3, .int .i64 p0_4, .slice a_p0_5 p0_5.length c_p0_5]⟩], L66, [⟨b71, 25, [.int .i64 0, .int .i64 0, .int .i64 0, .int .i64 0, .int .i64 0, .slice none 0 0]⟩], [⟨b72, 25, [.int .i64 p0_0, .int .i64 p0_1, .int .i64 p0_2, .int .i64 p0_3, .int .i64 p0_4, .slice a_p0_5 p0_5.length c_p0_5]⟩]]) (fun _ h => h) ?_
                refine WO_alloc tbok [.int .i64 0, .int .i64 0, .int .i64 0, .int .i64 0, .int .i64 0, .slice none 0 0] rfl rfl trivial rfl rfl rfl rfl (fun b73 => ?_)
                refine WO.cls (C' := St w0 m m [[⟨b1, 25, [.int .i64 p0_0, .int .i64 p0_1, .int .i64 p0_2, .int .i64 p0_3, .int .i64 p0_4, .slice a_p0_5 p0_5.length c_p0_5]⟩], L66, [⟨b71, 25, [.int .i64 0, .int .i64 0, .int .i64 0, .int .i64 0, .int .i64 0, .slice none 0 0]⟩], [⟨b72, 25, [.int .i64 p0_0, .int .i64 p0_1, .int .i64 p0_2, .int .i64 p0_3, .int .i64 p0_4, .slice a_p0_5 p0_5.length c_p0_5]⟩], [⟨b73, 25, [.int .i64 0, .int .i64 0, .int .i64 0, .int .i64 0, .int .i64 0, .slice none 0 0]⟩]]) (fun _ h => h) ?_
                refine WO_end ?_
                refine WK_seq ?_
                refine WK_region ?_
                refine WO_pure tbok 1 [(1, .slice a64 ((y_21).length) c65), (2, .pointer (some ⟨b72, 0, none⟩)), (4, .pointer (some ⟨b73, 0, none⟩)), (5, .pointer (some ⟨b72, 0, none⟩))] rfl ⟨rfl, rfl, rfl, rfl, trivial⟩ ?_
                refine WO_loadB tbok 3 rfl rfl rfl rfl (fun _ h => h) rfl rfl ?_
                refine WO_pure tbok 1 [(1, .slice a64 ((y_21).length) c65), (2, .pointer (some ⟨b72, 0, none⟩)), (4, .pointer (some ⟨b73, 0, none⟩)), (6, .int .i64 p0_0), (7, .pointer (some ⟨b72, 1, none⟩))] rfl ⟨rfl, rfl, rfl, rfl, rfl, trivial⟩ ?_
                refine WO_loadB tbok 3 rfl rfl rfl rfl (fun _ h => h) rfl rfl ?_
                refine WO_pure tbok 1 [(1, .slice a64 ((y_21).length) c65), (2, .pointer (some ⟨b72, 0, none⟩)), (4, .pointer (some ⟨b73, 0, none⟩)), (6, .int .i64 p0_0), (8, .int .i64 p0_1), (9, .pointer (some ⟨b72, 2, none⟩))] rfl ⟨rfl, rfl, rfl, rfl, rfl, rfl, trivial⟩ ?_
                refine WO_loadB tbok 3 rfl rfl rfl rfl (fun _ h => h) rfl rfl ?_
                refine WO_pure tbok 1 [(1, .slice a64 ((y_21).length) c65), (2, .pointer (some ⟨b72, 0, none⟩)), (4, .pointer (some ⟨b73, 0, none⟩)), (6, .int .i64 p0_0), (8, .int .i64 p0_1), (10, .int .i64 p0_2), (11, .pointer (some ⟨b72, 3, none⟩))] rfl ⟨rfl, rfl, rfl, rfl, rfl, rfl, rfl, trivial⟩ ?_
                refine WO_loadB tbok 3 rfl rfl rfl rfl (fun _ h => h) rfl rfl ?_
                refine WO_pure tbok 1 [(1, .slice a64 ((y_21).length) c65), (4, .pointer (some ⟨b73, 0, none⟩)), (6, .int .i64 p0_0), (8, .int .i64 p0_1), (10, .int .i64 p0_2), (12, .int .i64 p0_3), (13, .pointer (some ⟨b72, 4, none⟩))] rfl ⟨rfl, rfl, rfl, rfl, rfl, rfl, rfl, trivial⟩ ?_
                refine WO_loadB tbok 3 rfl rfl rfl rfl (fun _ h => h) rfl rfl ?_
                refine WO_pure tbok 2 [(4, .pointer (some ⟨b73, 0, none⟩)), (16, .agg #[.int .i64 p0_0, .int .i64 p0_1, .int .i64 p0_2, .int .i64 p0_3, .int .i64 p0_4, .slice a64 ((y_21).length) c65])] rfl ⟨rfl, rfl, trivial⟩ ?_
                refine WO_storeB tbok 4 [.int .i64 p0_0, .int .i64 p0_1, .int .i64 p0_2, .int .i64 p0_3, .int .i64 p0_4, .slice a64 ((y_21).length) c65] rfl rfl rfl rfl rfl rfl rfl ?_
                refine WO.cls (C' := St w0 m m [[⟨b1, 25, [.int .i64 p0_0, .int .i64 p0_1, .int .i64 p0_2, .int .i64 p0_3, .int .i64 p0_4, .slice a_p0_5 p0_5.length c_p0_5]⟩], L66, [⟨b71, 25, [.int .i64 0, .int .i64 0, .int .i64 0, .int .i64 0, .int .i64 0, .slice none 0 0]⟩], [⟨b72, 25, [.int .i64 p0_0, .int .i64 p0_1, .int .i64 p0_2, .int .i64 p0_3, .int .i64 p0_4, .slice a_p0_5 p0_5.length c_p0_5]⟩], [⟨b73, 25, [.int .i64 p0_0, .int .i64 p0_1, .int .i64 p0_2, .int .i64 p0_3, .int .i64 p0_4, .slice a64 ((y_21).length) c65]⟩]]) (fun _ h => h) ?_
                refine WO_end ?_
                refine WK_retI (RLc_cell tbok 4 rfl rfl rfl RLc_nil) (fun _ h => St.back (Ls := [[⟨b1, 25, [.int .i64 p0_0, .int .i64 p0_1, .int .i64 p0_2, .int .i64 p0_3, .int .i64 p0_4, .slice a_p0_5 p0_5.length c_p0_5]⟩]]) (X := [L66, [⟨b71, 25, [.int .i64 0, .int .i64 0, .int .i64 0, .int .i64 0, .int .i64 0, .slice none 0 0]⟩], [⟨b72, 25, [.int .i64 p0_0, .int .i64 p0_1, .int .i64 p0_2, .int .i64 p0_3, .int .i64 p0_4, .slice a_p0_5 p0_5.length c_p0_5]⟩], [⟨b73, 25, [.int .i64 p0_0, .int .i64 p0_1, .int .i64 p0_2, .int .i64 p0_3, .int .i64 p0_4, .slice a64 ((y_21).length) c65]⟩]]) h (Le.refl _) (Le.refl _)) ?_
                refine WO.cls (C' := St w0 m m [[⟨b1, 25, [.int .i64 p0_0, .int .i64 p0_1, .int .i64 p0_2, .int .i64 p0_3, .int .i64 p0_4, .slice a_p0_5 p0_5.length c_p0_5]⟩], L66, [⟨b71, 25, [.int .i64 0, .int .i64 0, .int .i64 0, .int .i64 0, .int .i64 0, .slice none 0 0]⟩]]) (fun _ h => St.take 3 h) ?_
                refine WO_tree rfl ?_
                refine WT_fin ?_
                refine WO_storeB tbok 2 [.int .i64 p0_0, .int .i64 p0_1, .int .i64 p0_2, .int .i64 p0_3, .int .i64 p0_4, .slice a64 ((y_21).length) c65] rfl rfl rfl rfl rfl rfl rfl ?_
                refine WO.cls (C' := St w0 m m [[⟨b1, 25, [.int .i64 p0_0, .int .i64 p0_1, .int .i64 p0_2, .int .i64 p0_3, .int .i64 p0_4, .slice a_p0_5 p0_5.length c_p0_5]⟩], L66, [⟨b71, 25, [.int .i64 p0_0, .int .i64 p0_1, .int .i64 p0_2, .int .i64 p0_3, .int .i64 p0_4, .slice a64 ((y_21).length) c65]⟩]]) (fun _ h => h) ?_
                refine WO_end ?_
                refine WK.cls (fun _ h => h.perm (Ls' := [[⟨b1, 25, [.int .i64 p0_0, .int .i64 p0_1, .int .i64 p0_2, .int .i64 p0_3, .int .i64 p0_4, .slice a_p0_5 p0_5.length c_p0_5]⟩], [⟨b71, 25, [.int .i64 p0_0, .int .i64 p0_1, .int .i64 p0_2, .int .i64 p0_3, .int .i64 p0_4, .slice a64 ((y_21).length) c65]⟩], L66]) (List.Perm.flatten (List.Perm.cons _ (List.Perm.swap _ _ _)))) ?_
                cases hx12
                refine WK.sub ?_ (hk13 ⟨a64, c65, L66, b71⟩ hL66)
                exact ⟨rfl, rfl, rfl, rfl, rfl, trivial⟩
              · exact WT_none
          · refine WT_alt rfl ?_ ?_
            · refine WO_alloc tbok [.int .i64 0, .int .i64 0, .int .i64 0, .int .i64 0, .int .i64 0, .slice none 0 0] rfl rfl St_closed rfl rfl rfl rfl (fun b74 => ?_)
              refine WO.cls (C' := St w0 m m [[⟨b1, 25, [.int .i64 p0_0, .int .i64 p0_1, .int .i64 p0_2, .int .i64 p0_3, .int .i64 p0_4, .slice a_p0_5 p0_5.length c_p0_5]⟩], [⟨b74, 25, [.int .i64 0, .int .i64 0, .int .i64 0, .int .i64 0, .int .i64 0, .slice none 0 0]⟩]]) (fun _ h => h) ?_
              refine WO_tree rfl ?_
              refine WT_run ?_
              obtain ⟨y_21, hc75, hx12⟩ := bind_some hx12
              refine WO_call1 (slices_Clone_sint_Q y_21) rfl rfl St_closed rfl rfl rfl rfl ⟨23, #[], #[], rfl, callable_23, fun w hw => ⟨_, hw.sat, slices_Clone_sint_walk h_p0_5 hc75⟩⟩ (fun v79 L78 hq => ?_)
              obtain ⟨a76, qa76, c77, rfl, hL78⟩ := hq
              obtain rfl := OwnE.qlen hL78
              refine WO.cls (C' := St w0 m m [[⟨b1, 25, [.int .i64 p0_0, .int .i64 p0_1, .int .i64 p0_2, .int .i64 p0_3, .int .i64 p0_4, .slice a_p0_5 p0_5.length c_p0_5]⟩], [⟨b74, 25, [.int .i64 0, .int .i64 0, .int .i64 0, .int .i64 0, .int .i64 0, .slice none 0 0]⟩], L78]) (fun _ h => h) ?_
              refine WO_inline rfl rfl rfl rfl rfl rfl callable_22 Try.func22 rfl rfl rfl ?_
              refine WK.sub (e' := [(0, .agg #[.int .i64 p0_0, .int .i64 p0_1, .int .i64 p0_2, .int .i64 p0_3, .int .i64 p0_4, .slice a_p0_5 p0_5.length c_p0_5]), (1, .slice a76 ((y_21).length) c77)]) ⟨rfl, rfl, trivial⟩ ?_
              refine WK_seq ?_
              refine WK_region ?_
              refine WO_box [.int .i64 p0_0, .int .i64 p0_1, .int .i64 p0_2, .int .i64 p0_3, .int .i64 p0_4, .slice a_p0_5 p0_5.length c_p0_5] rfl rfl trivial rfl rfl rfl (fun b80 => ?_)
              refine WO.cls (C' := St w0 m m [[⟨b1, 25, [.int .i64 p0_0, .int .i64 p0_1, .int .i64 p0_2, .int .i64 p0_3, .int .i64 p0_4, .slice a_p0_5 p0_5.length c_p0_5]⟩], [⟨b74, 25, [.int .i64 0, .int .i64 0, .int .i64 0, .int .i64 0, .int .i64 0, .slice none 0 0]⟩], L78, [⟨b80, 25, [.int .i64 p0_0, .int .i64 p0_1, .int .i64 p0_2, .int .i64 p0_3, .int .i64 p0_4, .slice a_p0_5 p0_5.length c_p0_5]⟩]]) (fun _ h => h) ?_
              refine WO_alloc tbok [.int .i64 0, .int .i64 0, .int .i64 0, .int .i64 0, .int .i64 0, .slice none 0 0] rfl rfl trivial rfl rfl rfl rfl (fun b81 => ?_)
              refine WO.cls (C' := St w0 m m [[⟨b1, 25, [.int .i64 p0_0, .int .i64 p0_1, .int .i64 p0_2, .int .i64 p0_3, .int .i64 p0_4, .slice a_p0_5 p0_5.length c_p0_5]⟩], [⟨b74, 25, [.int .i64 0, .int .i64 0, .int .i64 0, .int .i64 0, .int .i64 0, .slice none 0 0]⟩], L78, [⟨b80, 25, [.int .i64 p0_0, .int .i64 p0_1, .int .i64 p0_2, .int .i64 p0_3, .int .i64 p0_4, .slice a_p0_5 p0_5.length c_p0_5]⟩], [⟨b81, 25, [.int .i64 0, .int .i64 0, .int .i64 0, .int .i64 0, .int .i64 0, .slice none 0 0]⟩]]) (fun _ h => h) ?_
              refine WO_end ?_
              refine WK_seq ?_
              refine WK_region ?_
              refine WO_pure tbok 1 [(1, .slice a76 ((y_21).length) c77), (2, .pointer (some ⟨b80, 0, none⟩)), (4, .pointer (some ⟨b81, 0, none⟩)), (5, .pointer (some ⟨b80, 0, none⟩))] rfl ⟨rfl, rfl, rfl, rfl, trivial⟩ ?_
              refine WO_loadB tbok 3 rfl rfl rfl rfl (fun _ h => h) rfl rfl ?_
              refine WO_pure tbok 1 [(1, .slice a76 ((y_21).length) c77), (2, .pointer (some ⟨b80, 0, none⟩)), (4, .pointer (some ⟨b81, 0, none⟩)), (6, .int .i64 p0_0), (7, .pointer (some ⟨b80, 1, none⟩))] rfl ⟨rfl, rfl, rfl, rfl, rfl, trivial⟩ ?_
              refine WO_loadB tbok 3 rfl rfl rfl rfl (fun _ h => h) rfl rfl ?_
              refine WO_pure tbok 1 [(1, .slice a76 ((y_21).length) c77), (2, .pointer (some ⟨b80, 0, none⟩)), (4, .pointer (some ⟨b81, 0, none⟩)), (6, .int .i64 p0_0), (8, .int .i64 p0_1), (9, .pointer (some ⟨b80, 2, none⟩))] rfl ⟨rfl, rfl, rfl, rfl, rfl, rfl, trivial⟩ ?_
              refine WO_loadB tbok 3 rfl rfl rfl rfl (fun _ h => h) rfl rfl ?_
              refine WO_pure tbok 1 [(1, .slice a76 ((y_21).length) c77), (2, .pointer (some ⟨b80, 0, none⟩)), (4, .pointer (some ⟨b81, 0, none⟩)), (6, .int .i64 p0_0), (8, .int .i64 p0_1), (10, .int .i64 p0_2), (11, .pointer (some ⟨b80, 3, none⟩))] rfl ⟨rfl, rfl, rfl, rfl, rfl, rfl, rfl, trivial⟩ ?_
              refine WO_loadB tbok 3 rfl rfl rfl rfl (fun _ h => h) rfl rfl ?_
              refine WO_pure tbok 1 [(1, .slice a76 ((y_21).length) c77), (4, .pointer (some ⟨b81, 0, none⟩)), (6, .int .i64 p0_0), (8, .int .i64 p0_1), (10, .int .i64 p0_2), (12, .int .i64 p0_3), (13, .pointer (some ⟨b80, 4, none⟩))] rfl ⟨rfl, rfl, rfl, rfl, rfl, rfl, rfl, trivial⟩ ?_
              refine WO_loadB tbok 3 rfl rfl rfl rfl (fun _ h => h) rfl rfl ?_
              refine WO_pure tbok 2 [(4, .pointer (some ⟨b81, 0, none⟩)), (16, .agg #[.int .i64 p0_0, .int .i64 p0_1, .int .i64 p0_2, .int .i64 p0_3, .int .i64 p0_4, .slice a76 ((y_21).length) c77])] rfl ⟨rfl, rfl, trivial⟩ ?_
              refine WO_storeB tbok 4 [.int .i64 p0_0, .int .i64 p0_1, .int .i64 p0_2, .int .i64 p0_3, .int .i64 p0_4, .slice a76 ((y_21).length) c77] rfl rfl rfl rfl rfl rfl rfl ?_
              refine WO.cls (C' := St w0 m m [[⟨b1, 25, [.int .i64 p0_0, .int .i64 p0_1, .int .i64 p0_2, .int .i64 p0_3, .int .i64 p0_4, .slice a_p0_5 p0_5.length c_p0_5]⟩], [⟨b74, 25, [.int .i64 0, .int .i64 0, .int .i64 0, .int .i64 0, .int .i64 0, .slice none 0 0]⟩], L78, [⟨b80, 25, [.int .i64 p0_0, .int .i64 p0_1, .int .i64 p0_2, .int .i64 p0_3, .int .i64 p0_4, .slice a_p0_5 p0_5.length c_p0_5]⟩], [⟨b81, 25, [.int .i64 p0_0, .int .i64 p0_1, .int .i64 p0_2, .int .i64 p0_3, .int .i64 p0_4, .slice a76 ((y_21).length) c77]⟩]]) (fun _ h => h) ?_
              refine WO_end ?_
              refine WK_retI (RLc_cell tbok 4 rfl rfl rfl RLc_nil) (fun _ h => St.back (Ls := [[⟨b1, 25, [.int .i64 p0_0, .int .i64 p0_1, .int .i64 p0_2, .int .i64 p0_3, .int .i64 p0_4, .slice a_p0_5 p0_5.length c_p0_5]⟩]]) (X := [[⟨b74, 25, [.int .i64 0, .int .i64 0, .int .i64 0, .int .i64 0, .int .i64 0, .slice none 0 0]⟩], L78, [⟨b80, 25, [.int .i64 p0_0, .int .i64 p0_1, .int .i64 p0_2, .int .i64 p0_3, .int .i64 p0_4, .slice a_p0_5 p0_5.length c_p0_5]⟩], [⟨b81, 25, [.int .i64 p0_0, .int .i64 p0_1, .int .i64 p0_2, .int .i64 p0_3, .int .i64 p0_4, .slice a76 ((y_21).length) c77]⟩]]) h (Le.refl _) (Le.refl _)) ?_
              refine WO.cls (C' := St w0 m m [[⟨b1, 25, [.int .i64 p0_0, .int .i64 p0_1, .int .i64 p0_2, .int .i64 p0_3, .int .i64 p0_4, .slice a_p0_5 p0_5.length c_p0_5]⟩], [⟨b74, 25, [.int .i64 0, .int .i64 0, .int .i64 0, .int .i64 0, .int .i64 0, .slice none 0 0]⟩], L78]) (fun _ h => St.take 3 h) ?_
              refine WO_tree rfl ?_
              refine WT_fin ?_
              refine WO_storeB tbok 1 [.int .i64 p0_0, .int .i64 p0_1, .int .i64 p0_2, .int .i64 p0_3, .int .i64 p0_4, .slice a76 ((y_21).length) c77] rfl rfl rfl rfl rfl rfl rfl ?_
              refine WO.cls (C' := St w0 m m [[⟨b1, 25, [.int .i64 p0_0, .int .i64 p0_1, .int .i64 p0_2, .int .i64 p0_3, .int .i64 p0_4, .slice a_p0_5 p0_5.length c_p0_5]⟩], [⟨b74, 25, [.int .i64 p0_0, .int .i64 p0_1, .int .i64 p0_2, .int .i64 p0_3, .int .i64 p0_4, .slice a76 ((y_21).length) c77]⟩], L78]) (fun _ h => h) ?_
              refine WO_end ?_
              cases hx12
              refine WK.sub ?_ (hk13 ⟨a76, c77, L78, b74⟩ hL78)
              exact ⟨rfl, rfl, rfl, rfl, rfl, trivial⟩
            · exact WT_none
    · refine WK_region ?_
      refine WO_loadB tbok 0 rfl rfl rfl rfl (fun _ h => h) rfl rfl ?_
      obtain ⟨y_22, hc82, hx4⟩ := bind_some hx4
      refine WO_call0 (.bool y_22) rfl rfl trivial rfl rfl rfl rfl St_closed ⟨12, #[], #[], rfl, callable_12, fun w hw => ⟨_, hw.sat, fiduciallaw48_few_walk h_p0_5 hc82⟩⟩ ?_
      refine WO_pure tbok 2 [(1, .int .u8 p1), (2, .slice a_p2 p2.length c_p2), (3, .pointer (some ⟨b1, 0, none⟩)), (6, .bool false), (21, .bool (!y_22))] rfl ⟨rfl, rfl, rfl, rfl, rfl, trivial⟩ ?_
      refine WO_split (d := 21) (b := !y_22) rfl (fun hb83 => ?_) (fun hb83 => ?_)
      · have hx4 := ifT hb83 hx4
        refine WO_pure tbok 1 [(1, .int .u8 p1), (2, .slice a_p2 p2.length c_p2), (3, .pointer (some ⟨b1, 0, none⟩)), (6, .bool false), (21, .bool true)] rfl ⟨rfl, rfl, rfl, rfl, rfl, trivial⟩ ?_
        refine WO_skip rfl rfl ?_
        refine WO_pure tbok 7 [(1, .int .u8 p1), (2, .slice a_p2 p2.length c_p2), (3, .pointer (some ⟨b1, 0, none⟩)), (6, .bool false), (30, .bool true)] rfl ⟨rfl, rfl, rfl, rfl, rfl, trivial⟩ ?_
        refine WO_end ?_
        cases hx4
        refine WK.sub ?_ (WK.cls (fun _ h => h) hk5)
        exact ⟨rfl, rfl, rfl, rfl, rfl, trivial⟩
      · have hx4 := ifF hb83 hx4
        refine WO_loadB tbok 0 rfl rfl rfl rfl (fun _ h => h) rfl rfl ?_
        obtain ⟨y_23, hc84, hx4⟩ := bind_some hx4
        refine WO_call0 (.int .i64 y_23) rfl rfl trivial rfl rfl rfl rfl St_closed ⟨17, #[], #[], rfl, callable_17, fun w hw => ⟨_, hw.sat, fiduciallaw48_checked_walk h_p0_5 hc84⟩⟩ ?_
        refine WO_pure tbok 3 [(1, .int .u8 p1), (2, .slice a_p2 p2.length c_p2), (3, .pointer (some ⟨b1, 0, none⟩)), (6, .bool false), (26, .bool (y_23 != 0))] rfl ⟨rfl, rfl, rfl, rfl, rfl, trivial⟩ ?_
        refine WO_split (d := 26) (b := y_23 != 0) rfl (fun hb85 => ?_) (fun hb85 => ?_)
        · have hx4 := ifT hb85 hx4
          refine WO_pure tbok 4 [(1, .int .u8 p1), (2, .slice a_p2 p2.length c_p2), (3, .pointer (some ⟨b1, 0, none⟩)), (6, .bool false), (30, .bool true)] rfl ⟨rfl, rfl, rfl, rfl, rfl, trivial⟩ ?_
          refine WO_end ?_
          cases hx4
          refine WK.sub ?_ (WK.cls (fun _ h => h) hk5)
          exact ⟨rfl, rfl, rfl, rfl, rfl, trivial⟩
        · have hx4 := ifF hb85 hx4
          refine WO_pure tbok 4 [(1, .int .u8 p1), (2, .slice a_p2 p2.length c_p2), (3, .pointer (some ⟨b1, 0, none⟩)), (6, .bool false), (30, .bool (decide (150 < (p2.length : Int))))] rfl ⟨rfl, rfl, rfl, rfl, rfl, trivial⟩ ?_
          refine WO_end ?_
          cases hx4
          refine WK.sub ?_ (WK.cls (fun _ h => h) hk5)
          exact ⟨rfl, rfl, rfl, rfl, rfl, trivial⟩
def terrain_Erode_Q (r : Int × Int × Int × Int × Int × List Int × Int) : Value → Mu → List Ent → Prop := fun v m L => ∃ (a0 : Option Addr) (q0 c0 : Nat), v = .tuple #[.agg #[.int .i64 r.1, .int .i64 r.2.1, .int .i64 r.2.2.1, .int .i64 r.2.2.2.1, .int .i64 r.2.2.2.2.1, .slice a0 q0 c0], .int .i64 r.2.2.2.2.2.2] ∧ SlR (FE (I1 .i64)) 1 m (.slice a0 q0 c0) r.2.2.2.2.2.1
theorem terrain_Erode_walk {m : Mu} {p0_0 : Int} {p0_1 : Int} {p0_2 : Int} {p0_3 : Int} {p0_4 : Int} {p0_5 : List Int} {p1 : Int} {a_p0_5 : Option Addr} {q_p0_5 c_p0_5 : Nat} (h_p0_5 : SlR (FE (I1 .i64)) 1 m (.slice a_p0_5 q_p0_5 c_p0_5) p0_5) {r : Int × Int × Int × Int × Int × List Int × Int} (hm : terrain_Erode p0_0 p0_1 p0_2 p0_3 p0_4 p0_5 p1 = some r) :
    Go.E.Spec Try.prog 24 [.agg #[.int .i64 p0_0, .int .i64 p0_1, .int .i64 p0_2, .int .i64 p0_3, .int .i64 p0_4, .slice a_p0_5 q_p0_5 c_p0_5], .int .i64 p1] m (terrain_Erode_Q r) := by
  refine Spec_enter Try.func24 rfl rfl rfl (fun w0 => ?_)
  refine WK.sub (e' := [(0, .agg #[.int .i64 p0_0, .int .i64 p0_1, .int .i64 p0_2, .int .i64 p0_3, .int .i64 p0_4, .slice a_p0_5 q_p0_5 c_p0_5]), (1, .int .i64 p1)]) ⟨rfl, rfl, trivial⟩ ?_
  obtain rfl := SlR.qlen h_p0_5
  refine WK.sub (e' := [(0, .agg #[.int .i64 p0_0, .int .i64 p0_1, .int .i64 p0_2, .int .i64 p0_3, .int .i64 p0_4, .slice a_p0_5 p0_5.length c_p0_5]), (1, .int .i64 p1)]) ⟨rfl, rfl, trivial⟩ ?_
  unfold terrain_Erode at hm
  refine WK_seq ?_
  refine WK_region ?_
  refine WO_box [.int .i64 p0_0, .int .i64 p0_1, .int .i64 p0_2, .int .i64 p0_3, .int .i64 p0_4, .slice a_p0_5 p0_5.length c_p0_5] rfl rfl trivial rfl rfl rfl (fun b1 => ?_)
  refine WO.cls (C' := St w0 m m [[⟨b1, 25, [.int .i64 p0_0, .int .i64 p0_1, .int .i64 p0_2, .int .i64 p0_3, .int .i64 p0_4, .slice a_p0_5 p0_5.length c_p0_5]⟩]]) (fun _ h => h) ?_
  refine WO_alloc tbok [.int .i64 0, .int .i64 0, .int .i64 0, .int .i64 0, .int .i64 0, .slice none 0 0] rfl rfl trivial rfl rfl rfl rfl (fun b2 => ?_)
  refine WO.cls (C' := St w0 m m [[⟨b1, 25, [.int .i64 p0_0, .int .i64 p0_1, .int .i64 p0_2, .int .i64 p0_3, .int .i64 p0_4, .slice a_p0_5 p0_5.length c_p0_5]⟩], [⟨b2, 25, [.int .i64 0, .int .i64 0, .int .i64 0, .int .i64 0, .int .i64 0, .slice none 0 0]⟩]]) (fun _ h => h) ?_
  refine WO_pure tbok 1 [(1, .int .i64 p1), (2, .pointer (some ⟨b1, 0, none⟩)), (4, .pointer (some ⟨b2, 0, none⟩)), (5, .int .i64 0)] rfl ⟨rfl, rfl, rfl, rfl, trivial⟩ ?_
  refine WO_end ?_
  refine WK_seq ?_
  refine WK_seq ?_
  refine WK_region ?_
  refine WO_loadB tbok 0 rfl rfl rfl rfl (fun _ h => h) rfl rfl ?_
  refine WO_pure tbok 1 [(1, .int .i64 p1), (2, .pointer (some ⟨b1, 0, none⟩)), (4, .pointer (some ⟨b2, 0, none⟩)), (5, .int .i64 0), (7, .agg #[.int .i64 p0_0, .int .i64 p0_1, .int .i64 p0_2, .int .i64 p0_3, .int .i64 p0_4, .slice a_p0_5 p0_5.length c_p0_5]), (8, .int .i64 p1)] rfl ⟨rfl, rfl, rfl, rfl, rfl, rfl, trivial⟩ ?_
  obtain ⟨y_1, hc3, hm⟩ := bind_some hm
  refine WO_call0 (.int .i64 y_1) rfl rfl trivial rfl rfl rfl rfl St_closed ⟨51, #[], #[], rfl, callable_51, fun w hw => ⟨_, hw.sat, terrain_checked_walk h_p0_5 hc3⟩⟩ ?_
  refine WO_pure tbok 1 [(1, .int .i64 p1), (2, .pointer (some ⟨b1, 0, none⟩)), (4, .pointer (some ⟨b2, 0, none⟩)), (5, .int .i64 0), (6, .int .i64 y_1)] rfl ⟨rfl, rfl, rfl, rfl, rfl, trivial⟩ ?_
  refine WO_end ?_
  refine WK_seq ?_
  refine WK_region ?_
  refine WO_pure tbok 2 [(1, .int .i64 p1), (2, .pointer (some ⟨b1, 0, none⟩)), (4, .pointer (some ⟨b2, 0, none⟩)), (5, .int .i64 0), (6, .int .i64 y_1), (11, .bool (y_1 != 0))] rfl ⟨rfl, rfl, rfl, rfl, rfl, rfl, trivial⟩ ?_
  refine WO_end ?_
  refine WK_cond (b := y_1 != 0) rfl (fun hb4 => ?_) (fun hb4 => ?_)
  · have hm := ifT hb4 hm
    refine WK_seq ?_
    refine WK_region ?_
    refine WO_pure tbok 2 [(1, .int .i64 p1), (2, .pointer (some ⟨b1, 0, none⟩)), (4, .pointer (some ⟨b2, 0, none⟩)), (5, .int .i64 0), (12, .agg #[.int .i64 0, .int .i64 0, .int .i64 0, .int .i64 0, .int .i64 0, .slice none 0 0]), (13, .int .i64 y_1)] rfl ⟨rfl, rfl, rfl, rfl, rfl, rfl, trivial⟩ ?_
    refine WO_storeB tbok 1 [.int .i64 0, .int .i64 0, .int .i64 0, .int .i64 0, .int .i64 0, .slice none 0 0] rfl rfl rfl rfl rfl rfl rfl ?_
    refine WO.cls (C' := St w0 m m [[⟨b1, 25, [.int .i64 p0_0, .int .i64 p0_1, .int .i64 p0_2, .int .i64 p0_3, .int .i64 p0_4, .slice a_p0_5 p0_5.length c_p0_5]⟩], [⟨b2, 25, [.int .i64 0, .int .i64 0, .int .i64 0, .int .i64 0, .int .i64 0, .slice none 0 0]⟩]]) (fun _ h => h) ?_
    refine WO_pure tbok 1 [(1, .int .i64 p1), (2, .pointer (some ⟨b1, 0, none⟩)), (4, .pointer (some ⟨b2, 0, none⟩)), (5, .int .i64 y_1)] rfl ⟨rfl, rfl, rfl, rfl, trivial⟩ ?_
    refine WO_end ?_
    cases hm
    exact WK_ret (ret_out (L := []) (RLc_cell tbok 1 rfl rfl rfl (RLc_tmp rfl RLc_nil)) (List.nil_sublist _) ⟨none, 0, 0, rfl, SlR_nil⟩)
  · have hm := ifF hb4 hm
    refine WK_skip ?_
    refine WK_seq ?_
    refine WK_region ?_
    refine WO_loadB tbok 0 rfl rfl rfl rfl (fun _ h => h) rfl rfl ?_
    refine WO_pure tbok 1 [(4, .pointer (some ⟨b2, 0, none⟩)), (5, .int .i64 0), (14, .agg #[.int .i64 p0_0, .int .i64 p0_1, .int .i64 p0_2, .int .i64 p0_3, .int .i64 p0_4, .slice a_p0_5 p0_5.length c_p0_5]), (15, .int .i64 p1)] rfl ⟨rfl, rfl, rfl, rfl, trivial⟩ ?_
    obtain ⟨⟨y_4, y_5, y_6, y_7, y_8, y_9⟩, hc5, hm⟩ := bind_some hm
    refine WO_call2 (terrain_filtered_Q (y_4, y_5, y_6, y_7, y_8, y_9)) rfl rfl trivial rfl rfl rfl rfl ⟨52, #[], #[], rfl, callable_52, terrain_filtered_walk h_p0_5 (fun m1 hm1 z_2 z_3 _ h => specV_cap callable_53 (terrain_least_walk h)) hc5⟩ (fun v9 m10 L8 hle11 hq => ?_)
    obtain ⟨a6, qa6, c7, rfl, h12⟩ := hq
    obtain rfl := SlR.qlen h12
    refine WO.cls (C' := St w0 m m10 [[⟨b1, 25, [.int .i64 p0_0, .int .i64 p0_1, .int .i64 p0_2, .int .i64 p0_3, .int .i64 p0_4, .slice a_p0_5 p0_5.length c_p0_5]⟩], [⟨b2, 25, [.int .i64 0, .int .i64 0, .int .i64 0, .int .i64 0, .int .i64 0, .slice none 0 0]⟩], L8]) (fun _ h => h.sub (by simp)) ?_
    refine WO_storeB tbok 1 [.int .i64 y_4, .int .i64 y_5, .int .i64 y_6, .int .i64 y_7, .int .i64 y_8, .slice a6 ((y_9).length) c7] rfl rfl rfl rfl rfl rfl rfl ?_
    refine WO.cls (C' := St w0 m m10 [[⟨b1, 25, [.int .i64 p0_0, .int .i64 p0_1, .int .i64 p0_2, .int .i64 p0_3, .int .i64 p0_4, .slice a_p0_5 p0_5.length c_p0_5]⟩], [⟨b2, 25, [.int .i64 y_4, .int .i64 y_5, .int .i64 y_6, .int .i64 y_7, .int .i64 y_8, .slice a6 ((y_9).length) c7]⟩], L8]) (fun _ h => h) ?_
    refine WO_pure tbok 1 [(4, .pointer (some ⟨b2, 0, none⟩)), (5, .int .i64 0)] rfl ⟨rfl, rfl, trivial⟩ ?_
    refine WO_end ?_
    cases hm
    exact WK_ret (ret_out (L := []) (RLc_cell tbok 1 rfl rfl rfl (RLc_tmp rfl RLc_nil)) (List.nil_sublist _) ⟨a6, _, c7, rfl, h12⟩)
def terrain_Dilate_Q (r : Int × Int × Int × Int × Int × List Int × Int) : Value → Mu → List Ent → Prop := fun v m L => ∃ (a0 : Option Addr) (q0 c0 : Nat), v = .tuple #[.agg #[.int .i64 r.1, .int .i64 r.2.1, .int .i64 r.2.2.1, .int .i64 r.2.2.2.1, .int .i64 r.2.2.2.2.1, .slice a0 q0 c0], .int .i64 r.2.2.2.2.2.2] ∧ SlR (FE (I1 .i64)) 1 m (.slice a0 q0 c0) r.2.2.2.2.2.1
theorem terrain_Dilate_walk {m : Mu} {p0_0 : Int} {p0_1 : Int} {p0_2 : Int} {p0_3 : Int} {p0_4 : Int} {p0_5 : List Int} {p1 : Int} {a_p0_5 : Option Addr} {q_p0_5 c_p0_5 : Nat} (h_p0_5 : SlR (FE (I1 .i64)) 1 m (.slice a_p0_5 q_p0_5 c_p0_5) p0_5) {r : Int × Int × Int × Int × Int × List Int × Int} (hm : terrain_Dilate p0_0 p0_1 p0_2 p0_3 p0_4 p0_5 p1 = some r) :
    Go.E.Spec Try.prog 25 [.agg #[.int .i64 p0_0, .int .i64 p0_1, .int .i64 p0_2, .int .i64 p0_3, .int .i64 p0_4, .slice a_p0_5 q_p0_5 c_p0_5], .int .i64 p1] m (terrain_Dilate_Q r) := by
  refine Spec_enter Try.func25 rfl rfl rfl (fun w0 => ?_)
  refine WK.sub (e' := [(0, .agg #[.int .i64 p0_0, .int .i64 p0_1, .int .i64 p0_2, .int .i64 p0_3, .int .i64 p0_4, .slice a_p0_5 q_p0_5 c_p0_5]), (1, .int .i64 p1)]) ⟨rfl, rfl, trivial⟩ ?_
  obtain rfl := SlR.qlen h_p0_5
  refine WK.sub (e' := [(0, .agg #[.int .i64 p0_0, .int .i64 p0_1, .int .i64 p0_2, .int .i64 p0_3, .int .i64 p0_4, .slice a_p0_5 p0_5.length c_p0_5]), (1, .int .i64 p1)]) ⟨rfl, rfl, trivial⟩ ?_
  unfold terrain_Dilate at hm
  refine WK_seq ?_
  refine WK_region ?_
  refine WO_box [.int .i64 p0_0, .int .i64 p0_1, .int .i64 p0_2, .int .i64 p0_3, .int .i64 p0_4, .slice a_p0_5 p0_5.length c_p0_5] rfl rfl trivial rfl rfl rfl (fun b1 => ?_)
  refine WO.cls (C' := St w0 m m [[⟨b1, 25, [.int .i64 p0_0, .int .i64 p0_1, .int .i64 p0_2, .int .i64 p0_3, .int .i64 p0_4, .slice a_p0_5 p0_5.length c_p0_5]⟩]]) (fun _ h => h) ?_
  refine WO_alloc tbok [.int .i64 0, .int .i64 0, .int .i64 0, .int .i64 0, .int .i64 0, .slice none 0 0] rfl rfl trivial rfl rfl rfl rfl (fun b2 => ?_)
  refine WO.cls (C' := St w0 m m [[⟨b1, 25, [.int .i64 p0_0, .int .i64 p0_1, .int .i64 p0_2, .int .i64 p0_3, .int .i64 p0_4, .slice a_p0_5 p0_5.length c_p0_5]⟩], [⟨b2, 25, [.int .i64 0, .int .i64 0, .int .i64 0, .int .i64 0, .int .i64 0, .slice none 0 0]⟩]]) (fun _ h => h) ?_
  refine WO_pure tbok 1 [(1, .int .i64 p1), (2, .pointer (some ⟨b1, 0, none⟩)), (4, .pointer (some ⟨b2, 0, none⟩)), (5, .int .i64 0)] rfl ⟨rfl, rfl, rfl, rfl, trivial⟩ ?_
  refine WO_end ?_
  refine WK_seq ?_
  refine WK_seq ?_
  refine WK_region ?_
  refine WO_loadB tbok 0 rfl rfl rfl rfl (fun _ h => h) rfl rfl ?_
  refine WO_pure tbok 1 [(1, .int .i64 p1), (2, .pointer (some ⟨b1, 0, none⟩)), (4, .pointer (some ⟨b2, 0, none⟩)), (5, .int .i64 0), (7, .agg #[.int .i64 p0_0, .int .i64 p0_1, .int .i64 p0_2, .int .i64 p0_3, .int .i64 p0_4, .slice a_p0_5 p0_5.length c_p0_5]), (8, .int .i64 p1)] rfl ⟨rfl, rfl, rfl, rfl, rfl, rfl, trivial⟩ ?_
  obtain ⟨y_1, hc3, hm⟩ := bind_some hm
  refine WO_call0 (.int .i64 y_1) rfl rfl trivial rfl rfl rfl rfl St_closed ⟨51, #[], #[], rfl, callable_51, fun w hw => ⟨_, hw.sat, terrain_checked_walk h_p0_5 hc3⟩⟩ ?_
  refine WO_pure tbok 1 [(1, .int .i64 p1), (2, .pointer (some ⟨b1, 0, none⟩)), (4, .pointer (some ⟨b2, 0, none⟩)), (5, .int .i64 0), (6, .int .i64 y_1)] rfl ⟨rfl, rfl, rfl, rfl, rfl, trivial⟩ ?_
  refine WO_end ?_
  refine WK_seq ?_
  refine WK_region ?_
  refine WO_pure tbok 2 [(1, .int .i64 p1), (2, .pointer (some ⟨b1, 0, none⟩)), (4, .pointer (some ⟨b2, 0, none⟩)), (5, .int .i64 0), (6, .int .i64 y_1), (11, .bool (y_1 != 0))] rfl ⟨rfl, rfl, rfl, rfl, rfl, rfl, trivial⟩ ?_
  refine WO_end ?_
  refine WK_cond (b := y_1 != 0) rfl (fun hb4 => ?_) (fun hb4 => ?_)
  · have hm := ifT hb4 hm
    refine WK_seq ?_
    refine WK_region ?_
    refine WO_pure tbok 2 [(1, .int .i64 p1), (2, .pointer (some ⟨b1, 0, none⟩)), (4, .pointer (some ⟨b2, 0, none⟩)), (5, .int .i64 0), (12, .agg #[.int .i64 0, .int .i64 0, .int .i64 0, .int .i64 0, .int .i64 0, .slice none 0 0]), (13, .int .i64 y_1)] rfl ⟨rfl, rfl, rfl, rfl, rfl, rfl, trivial⟩ ?_
    refine WO_storeB tbok 1 [.int .i64 0, .int .i64 0, .int .i64 0, .int .i64 0, .int .i64 0, .slice none 0 0] rfl rfl rfl rfl rfl rfl rfl ?_
    refine WO.cls (C' := St w0 m m [[⟨b1, 25, [.int .i64 p0_0, .int .i64 p0_1, .int .i64 p0_2, .int .i64 p0_3, .int .i64 p0_4, .slice a_p0_5 p0_5.length c_p0_5]⟩], [⟨b2, 25, [.int .i64 0, .int .i64 0, .int .i64 0, .int .i64 0, .int .i64 0, .slice none 0 0]⟩]]) (fun _ h => h) ?_
    refine WO_pure tbok 1 [(1, .int .i64 p1), (2, .pointer (some ⟨b1, 0, none⟩)), (4, .pointer (some ⟨b2, 0, none⟩)), (5, .int .i64 y_1)] rfl ⟨rfl, rfl, rfl, rfl, trivial⟩ ?_
    refine WO_end ?_
    cases hm
    exact WK_ret (ret_out (L := []) (RLc_cell tbok 1 rfl rfl rfl (RLc_tmp rfl RLc_nil)) (List.nil_sublist _) ⟨none, 0, 0, rfl, SlR_nil⟩)
  · have hm := ifF hb4 hm
    refine WK_skip ?_
    refine WK_seq ?_
    refine WK_region ?_
    refine WO_loadB tbok 0 rfl rfl rfl rfl (fun _ h => h) rfl rfl ?_
    refine WO_pure tbok 1 [(4, .pointer (some ⟨b2, 0, none⟩)), (5, .int .i64 0), (14, .agg #[.int .i64 p0_0, .int .i64 p0_1, .int .i64 p0_2, .int .i64 p0_3, .int .i64 p0_4, .slice a_p0_5 p0_5.length c_p0_5]), (15, .int .i64 p1)] rfl ⟨rfl, rfl, rfl, rfl, trivial⟩ ?_
    obtain ⟨⟨y_4, y_5, y_6, y_7, y_8, y_9⟩, hc5, hm⟩ := bind_some hm
    refine WO_call2 (terrain_filtered_Q (y_4, y_5, y_6, y_7, y_8, y_9)) rfl rfl trivial rfl rfl rfl rfl ⟨52, #[], #[], rfl, callable_52, terrain_filtered_walk h_p0_5 (fun m1 hm1 z_2 z_3 _ h => specV_cap callable_54 (terrain_greatest_walk h)) hc5⟩ (fun v9 m10 L8 hle11 hq => ?_)
    obtain ⟨a6, qa6, c7, rfl, h12⟩ := hq
    obtain rfl := SlR.qlen h12
    refine WO.cls (C' := St w0 m m10 [[⟨b1, 25, [.int .i64 p0_0, .int .i64 p0_1, .int .i64 p0_2, .int .i64 p0_3, .int .i64 p0_4, .slice a_p0_5 p0_5.length c_p0_5]⟩], [⟨b2, 25, [.int .i64 0, .int .i64 0, .int .i64 0, .int .i64 0, .int .i64 0, .slice none 0 0]⟩], L8]) (fun _ h => h.sub (by simp)) ?_
    refine WO_storeB tbok 1 [.int .i64 y_4, .int .i64 y_5, .int .i64 y_6, .int .i64 y_7, .int .i64 y_8, .slice a6 ((y_9).length) c7] rfl rfl rfl rfl rfl rfl rfl ?_
    refine WO.cls (C' := St w0 m m10 [[⟨b1, 25, [.int .i64 p0_0, .int .i64 p0_1, .int .i64 p0_2, .int .i64 p0_3, .int .i64 p0_4, .slice a_p0_5 p0_5.length c_p0_5]⟩], [⟨b2, 25, [.int .i64 y_4, .int .i64 y_5, .int .i64 y_6, .int .i64 y_7, .int .i64 y_8, .slice a6 ((y_9).length) c7]⟩], L8]) (fun _ h => h) ?_
    refine WO_pure tbok 1 [(4, .pointer (some ⟨b2, 0, none⟩)), (5, .int .i64 0)] rfl ⟨rfl, rfl, trivial⟩ ?_
    refine WO_end ?_
    cases hm
    exact WK_ret (ret_out (L := []) (RLc_cell tbok 1 rfl rfl rfl (RLc_tmp rfl RLc_nil)) (List.nil_sublist _) ⟨a6, _, c7, rfl, h12⟩)
end Go.Proofs.Ytcaeieofjchpjaa
