import Derived.Test.YtcaeieofjchpjaaTab
import Derived.Test.YtcaeieofjchpjaaM
import Derived.Test.YtcaeieofjchpjaaW3
set_option linter.unusedVariables false
set_option maxRecDepth 100000
set_option maxHeartbeats 4000000
namespace Go.Proofs.Ytcaeieofjchpjaa
open Go.E Go.RowKit
attribute [local irreducible] Go.E.WO Go.E.WK
def fiduciallaw48_window_Q (r : List Int) : Value → List Ent → Prop := fun v L => ∃ (a0 : Option Addr) (q0 c0 : Nat), v = .slice a0 q0 c0 ∧ OwnE 3 1 (I1 .i64) (.slice a0 q0 c0) r L
theorem fiduciallaw48_window_walk {m : Mu} {p0_0 : Int} {p0_1 : Int} {p0_2 : Int} {p0_3 : Int} {p0_4 : Int} {p0_5 : List Int} {p1 : Int} {p2 : Int} {a_p0_5 : Option Addr} {q_p0_5 c_p0_5 : Nat} (h_p0_5 : SlR (FE (I1 .i64)) 1 m (.slice a_p0_5 q_p0_5 c_p0_5) p0_5) {r : List Int} (hm : fiduciallaw48_window p0_0 p0_1 p0_2 p0_3 p0_4 p0_5 p1 p2 = some r) :
    Go.E.Spec Try.prog 55 [.agg #[.int .i64 p0_0, .int .i64 p0_1, .int .i64 p0_2, .int .i64 p0_3, .int .i64 p0_4, .slice a_p0_5 q_p0_5 c_p0_5], .int .i64 p1, .int .i64 p2] m (fun v _ L => fiduciallaw48_window_Q r v L) := by
  refine Spec_enter Try.func55 rfl rfl rfl (fun w0 => ?_)
  refine WK.sub (e' := [(0, .agg #[.int .i64 p0_0, .int .i64 p0_1, .int .i64 p0_2, .int .i64 p0_3, .int .i64 p0_4, .slice a_p0_5 q_p0_5 c_p0_5]), (1, .int .i64 p1), (2, .int .i64 p2)]) ⟨rfl, rfl, rfl, trivial⟩ ?_
  obtain rfl := SlR.qlen h_p0_5
  refine WK.sub (e' := [(0, .agg #[.int .i64 p0_0, .int .i64 p0_1, .int .i64 p0_2, .int .i64 p0_3, .int .i64 p0_4, .slice a_p0_5 p0_5.length c_p0_5]), (1, .int .i64 p1), (2, .int .i64 p2)]) ⟨rfl, rfl, rfl, trivial⟩ ?_
  unfold fiduciallaw48_window at hm
  refine WK_seq ?_
  refine WK_region ?_
  refine WO_box [.int .i64 p0_0, .int .i64 p0_1, .int .i64 p0_2, .int .i64 p0_3, .int .i64 p0_4, .slice a_p0_5 p0_5.length c_p0_5] rfl rfl trivial rfl rfl rfl (fun b2 => ?_)
  refine WO.cls (C' := St w0 m m [[⟨b2, 25, [.int .i64 p0_0, .int .i64 p0_1, .int .i64 p0_2, .int .i64 p0_3, .int .i64 p0_4, .slice a_p0_5 p0_5.length c_p0_5]⟩]]) (fun _ h => h) ?_
  refine WO_pure tbok 1 [(1, .int .i64 p1), (2, .int .i64 p2), (3, .pointer (some ⟨b2, 0, none⟩)), (6, .slice none 0 0)] rfl ⟨rfl, rfl, rfl, rfl, trivial⟩ ?_
  refine WO_end ?_
  refine WK_seq ?_
  refine WK_region ?_
  refine WO_pure tbok 1 [(1, .int .i64 p1), (2, .int .i64 p2), (3, .pointer (some ⟨b2, 0, none⟩)), (6, .slice none 0 0), (7, .slice none 0 0)] rfl ⟨rfl, rfl, rfl, rfl, rfl, trivial⟩ ?_
  refine WO_end ?_
  refine WK_seq ?_
  refine WK_draw 10 [0, 1, 2, 3, 4, 5, 6, 7, 8, 9] follows_ok (by kernel_rfl) St_closed ?_
  refine WO_pure tbok 2 [(1, .int .i64 p1), (2, .int .i64 p2), (3, .pointer (some ⟨b2, 0, none⟩)), (6, .slice none 0 0), (7, .slice none 0 0), (13, .int .i64 p1), (14, .pointer (some ⟨b2, 3, none⟩))] rfl ⟨rfl, rfl, rfl, rfl, rfl, rfl, rfl, trivial⟩ ?_
  refine WO_loadB tbok 0 rfl rfl rfl rfl (fun _ h => h) rfl rfl ?_
  obtain ⟨hc3, hm⟩ := chk_some hm
  refine WO_rem rfl rfl rfl rfl rfl hc3 ?_
  refine WO_pure tbok 2 [(2, .int .i64 p2), (3, .pointer (some ⟨b2, 0, none⟩)), (6, .slice none 0 0), (7, .slice none 0 0), (16, .int .i64 (Int.tmod p1 p0_3)), (17, .int .i64 p1), (18, .pointer (some ⟨b2, 3, none⟩))] rfl ⟨rfl, rfl, rfl, rfl, rfl, rfl, rfl, trivial⟩ ?_
  refine WO_loadB tbok 0 rfl rfl rfl rfl (fun _ h => h) rfl rfl ?_
  obtain ⟨hc4, hm⟩ := chk_some hm
  refine WO_quo rfl rfl rfl rfl rfl hc4 ?_
  refine WO_pure tbok 2 [(2, .int .i64 p2), (3, .pointer (some ⟨b2, 0, none⟩)), (6, .slice none 0 0), (7, .slice none 0 0), (8, .int .i64 (Int.tmod p1 p0_3)), (9, .int .i64 (w64 (Int.tdiv p1 p0_3)))] rfl ⟨rfl, rfl, rfl, rfl, rfl, rfl, trivial⟩ ?_
  refine WO_tail ?_
  refine WO_end ?_
  refine WK_seq ?_
  refine WK_seq ?_
  refine WK_region ?_
  refine WO_pure tbok 5 [(2, .int .i64 p2), (3, .pointer (some ⟨b2, 0, none⟩)), (6, .slice none 0 0), (7, .slice none 0 0), (8, .int .i64 (Int.tmod p1 p0_3)), (9, .int .i64 (w64 (Int.tdiv p1 p0_3))), (10, .int .i64 (if (w64 ((w64 (Int.tdiv p1 p0_3)) - p2)) < 0 then 0 else (w64 ((w64 (Int.tdiv p1 p0_3)) - p2))))] rfl ⟨rfl, rfl, rfl, rfl, rfl, rfl, rfl, trivial⟩ ?_
  refine WO_end ?_
  refine WK_pad ?_
  obtain ⟨x16, hx17, hm⟩ := bind_some hm
  refine WK_join (β := (List Int) × (Option Addr × Nat × Nat × List Ent)) (fun p => p.1 = x16 ∧ OwnE 3 1 (I1 .i64) (.slice p.2.1 p.2.2.1 p.2.2.2.1) p.1 p.2.2.2.2) (fun p => [(6, .slice none 0 0), (7, .slice p.2.1 p.2.2.1 p.2.2.2.1)]) (fun p => St w0 m m [[⟨b2, 25, [.int .i64 p0_0, .int .i64 p0_1, .int .i64 p0_2, .int .i64 p0_3, .int .i64 p0_4, .slice a_p0_5 p0_5.length c_p0_5]⟩], p.2.2.2.2]) ?_ (fun hk18 => ?_)
  · rintro ⟨l_3, ⟨a13, q14, c15, L12⟩⟩ ⟨hq24, hL12⟩
    subst hq24
    have hqq : q14 = l_3.length := OwnE.qlen hL12
    subst hqq
    refine WK.sub (e' := [(6, .slice none 0 0), (7, .slice a13 ((l_3).length) c15)]) ⟨rfl, rfl, trivial⟩ (WK.cls (C' := St w0 m m [[⟨b2, 25, [.int .i64 p0_0, .int .i64 p0_1, .int .i64 p0_2, .int .i64 p0_3, .int .i64 p0_4, .slice a_p0_5 p0_5.length c_p0_5]⟩], L12]) (fun _ h => h) ?_)
    refine WK_seq ?_
    refine WK_region ?_
    refine WO_pure tbok 2 [(6, .slice a13 ((l_3).length) c15)] rfl ⟨rfl, trivial⟩ ?_
    refine WO_end ?_
    cases hm
    exact WK_ret (ret_out (L := L12) (RLc_tmp rfl RLc_nil) (seg_sub 1 rfl) ⟨a13, _, c15, rfl, hL12⟩)
  · refine WK_block ?_
    refine WK_loop (S := List Int × Int) (G := Option Addr × Nat × Nat × List Ent) (fun s => fiduciallaw48_window_s1 p0_3 p0_4 p0_5 p1 p2 s.1 s.2) (fun s g => [(2, .int .i64 p2), (3, .pointer (some ⟨b2, 0, none⟩)), (6, .slice none 0 0), (7, .slice g.1 g.2.1 g.2.2.1), (8, .int .i64 (Int.tmod p1 p0_3)), (9, .int .i64 (w64 (Int.tdiv p1 p0_3))), (10, .int .i64 s.2)]) (fun s g => St w0 m m [[⟨b2, 25, [.int .i64 p0_0, .int .i64 p0_1, .int .i64 p0_2, .int .i64 p0_3, .int .i64 p0_4, .slice a_p0_5 p0_5.length c_p0_5]⟩], g.2.2.2]) (fun s g => OwnE 3 1 (I1 .i64) (.slice g.1 g.2.1 g.2.2.1) s.1 g.2.2.2) FUEL (([] : List Int), (if (w64 ((w64 (Int.tdiv p1 p0_3)) - p2)) < 0 then 0 else (w64 ((w64 (Int.tdiv p1 p0_3)) - p2)))) (none, 0, 0, []) x16 hx17 (OwnE.nil (T := 3) (k := 1) (E := (I1 .i64)) none) ⟨rfl, rfl, rfl, rfl, rfl, rfl, rfl, trivial⟩ (fun _ h => h) ?_
    rintro ⟨l_1, s_2⟩ ⟨a8, q9, c10, L7⟩ o20 fl21 hm19 hL7 hn22 hd23
    have hm19 : fiduciallaw48_window_s1 p0_3 p0_4 p0_5 p1 p2 l_1 s_2 = some o20 := hm19
    unfold fiduciallaw48_window_s1 at hm19
    have hqq : q9 = l_1.length := OwnE.qlen hL7
    subst hqq
    refine WK.sub (e' := [(2, .int .i64 p2), (3, .pointer (some ⟨b2, 0, none⟩)), (6, .slice none 0 0), (7, .slice a8 ((l_1).length) c10), (8, .int .i64 (Int.tmod p1 p0_3)), (9, .int .i64 (w64 (Int.tdiv p1 p0_3))), (10, .int .i64 s_2)]) ⟨rfl, rfl, rfl, rfl, rfl, rfl, rfl, trivial⟩ (WK.cls (C' := St w0 m m [[⟨b2, 25, [.int .i64 p0_0, .int .i64 p0_1, .int .i64 p0_2, .int .i64 p0_3, .int .i64 p0_4, .slice a_p0_5 p0_5.length c_p0_5]⟩], L7]) (fun _ h => h) ?_)
    refine WK_seq ?_
    refine WK_seq ?_
    refine WK_region ?_
    refine WO_pure tbok 5 [(2, .int .i64 p2), (3, .pointer (some ⟨b2, 0, none⟩)), (6, .slice none 0 0), (7, .slice a8 ((l_1).length) c10), (8, .int .i64 (Int.tmod p1 p0_3)), (9, .int .i64 (w64 (Int.tdiv p1 p0_3))), (10, .int .i64 s_2), (25, .int .i64 s_2), (28, .int .i64 (w64 ((w64 (Int.tdiv p1 p0_3)) + p2))), (29, .pointer (some ⟨b2, 4, none⟩))] rfl ⟨rfl, rfl, rfl, rfl, rfl, rfl, rfl, rfl, rfl, rfl, trivial⟩ ?_
    refine WO_loadB tbok 0 rfl rfl rfl rfl (fun _ h => h) rfl rfl ?_
    refine WO_pure tbok 3 [(2, .int .i64 p2), (3, .pointer (some ⟨b2, 0, none⟩)), (6, .slice none 0 0), (7, .slice a8 ((l_1).length) c10), (8, .int .i64 (Int.tmod p1 p0_3)), (9, .int .i64 (w64 (Int.tdiv p1 p0_3))), (10, .int .i64 s_2), (33, .bool (decide (s_2 ≤ (if (w64 (p0_4 - 1)) < (w64 ((w64 (Int.tdiv p1 p0_3)) + p2)) then (w64 (p0_4 - 1)) else (w64 ((w64 (Int.tdiv p1 p0_3)) + p2))))))] rfl ⟨rfl, rfl, rfl, rfl, rfl, rfl, rfl, rfl, trivial⟩ ?_
    refine WO_end ?_
    refine WK_cond (b := decide (s_2 ≤ (if (w64 (p0_4 - 1)) < (w64 ((w64 (Int.tdiv p1 p0_3)) + p2)) then (w64 (p0_4 - 1)) else (w64 ((w64 (Int.tdiv p1 p0_3)) + p2))))) rfl (fun hb25 => ?_) (fun hb25 => ?_)
    · have hm19 := ifT hb25 hm19
      refine WK_skip ?_
      refine WK_seq ?_
      refine WK_block ?_
      refine WK_seq ?_
      refine WK_region ?_
      refine WO_pure tbok 5 [(2, .int .i64 p2), (3, .pointer (some ⟨b2, 0, none⟩)), (6, .slice none 0 0), (7, .slice a8 ((l_1).length) c10), (8, .int .i64 (Int.tmod p1 p0_3)), (9, .int .i64 (w64 (Int.tdiv p1 p0_3))), (10, .int .i64 s_2), (11, .int .i64 (if (w64 ((Int.tmod p1 p0_3) - p2)) < 0 then 0 else (w64 ((Int.tmod p1 p0_3) - p2))))] rfl ⟨rfl, rfl, rfl, rfl, rfl, rfl, rfl, rfl, trivial⟩ ?_
      refine WO_end ?_
      obtain ⟨x36, hx37, hm19⟩ := bind_some hm19
      refine WK_join (β := (List Int) × (Option Addr × Nat × Nat × List Ent)) (fun p => p.1 = x36 ∧ OwnE 3 1 (I1 .i64) (.slice p.2.1 p.2.2.1 p.2.2.2.1) p.1 p.2.2.2.2) (fun p => [(2, .int .i64 p2), (3, .pointer (some ⟨b2, 0, none⟩)), (6, .slice none 0 0), (7, .slice p.2.1 p.2.2.1 p.2.2.2.1), (8, .int .i64 (Int.tmod p1 p0_3)), (9, .int .i64 (w64 (Int.tdiv p1 p0_3))), (10, .int .i64 s_2)]) (fun p => St w0 m m [[⟨b2, 25, [.int .i64 p0_0, .int .i64 p0_1, .int .i64 p0_2, .int .i64 p0_3, .int .i64 p0_4, .slice a_p0_5 p0_5.length c_p0_5]⟩], p.2.2.2.2]) ?_ (fun hk38 => ?_)
      · rintro ⟨l_6, ⟨a33, q34, c35, L32⟩⟩ ⟨hq44, hL32⟩
        subst hq44
        have hqq : q34 = l_6.length := OwnE.qlen hL32
        subst hqq
        refine WK.sub (e' := [(2, .int .i64 p2), (3, .pointer (some ⟨b2, 0, none⟩)), (6, .slice none 0 0), (7, .slice a33 ((l_6).length) c35), (8, .int .i64 (Int.tmod p1 p0_3)), (9, .int .i64 (w64 (Int.tdiv p1 p0_3))), (10, .int .i64 s_2)]) ⟨rfl, rfl, rfl, rfl, rfl, rfl, rfl, trivial⟩ (WK.cls (C' := St w0 m m [[⟨b2, 25, [.int .i64 p0_0, .int .i64 p0_1, .int .i64 p0_2, .int .i64 p0_3, .int .i64 p0_4, .slice a_p0_5 p0_5.length c_p0_5]⟩], L32]) (fun _ h => h) ?_)
        refine WK_blk ?_
        refine WK_region ?_
        refine WO_pure tbok 3 [(2, .int .i64 p2), (3, .pointer (some ⟨b2, 0, none⟩)), (6, .slice none 0 0), (7, .slice a33 ((l_6).length) c35), (8, .int .i64 (Int.tmod p1 p0_3)), (9, .int .i64 (w64 (Int.tdiv p1 p0_3))), (10, .int .i64 (w64 (s_2 + 1)))] rfl ⟨rfl, rfl, rfl, rfl, rfl, rfl, rfl, trivial⟩ ?_
        refine WO_end ?_
        cases hm19
        refine WK.sub ?_ (WK.cls (fun _ h => h) (hn22 _ (a33, _, c35, L32) rfl hL32))
        exact ⟨rfl, rfl, rfl, rfl, rfl, rfl, rfl, trivial⟩
      · refine WK_block ?_
        refine WK_loop (S := List Int × Int) (G := Option Addr × Nat × Nat × List Ent) (fun s => fiduciallaw48_window_s2 p0_3 p0_5 p1 p2 s_2 s.1 s.2) (fun s g => [(2, .int .i64 p2), (3, .pointer (some ⟨b2, 0, none⟩)), (6, .slice none 0 0), (7, .slice g.1 g.2.1 g.2.2.1), (8, .int .i64 (Int.tmod p1 p0_3)), (9, .int .i64 (w64 (Int.tdiv p1 p0_3))), (10, .int .i64 s_2), (11, .int .i64 s.2)]) (fun s g => St w0 m m [[⟨b2, 25, [.int .i64 p0_0, .int .i64 p0_1, .int .i64 p0_2, .int .i64 p0_3, .int .i64 p0_4, .slice a_p0_5 p0_5.length c_p0_5]⟩], g.2.2.2]) (fun s g => OwnE 3 1 (I1 .i64) (.slice g.1 g.2.1 g.2.2.1) s.1 g.2.2.2) FUEL (l_1, (if (w64 ((Int.tmod p1 p0_3) - p2)) < 0 then 0 else (w64 ((Int.tmod p1 p0_3) - p2)))) (a8, _, c10, L7) x36 hx37 hL7 ⟨rfl, rfl, rfl, rfl, rfl, rfl, rfl, rfl, trivial⟩ (fun _ h => h) ?_
        rintro ⟨l_4, s_5⟩ ⟨a28, q29, c30, L27⟩ o40 fl41 hm39 hL27 hn42 hd43
        have hm39 : fiduciallaw48_window_s2 p0_3 p0_5 p1 p2 s_2 l_4 s_5 = some o40 := hm39
        unfold fiduciallaw48_window_s2 at hm39
        have hqq : q29 = l_4.length := OwnE.qlen hL27
        subst hqq
        refine WK.sub (e' := [(2, .int .i64 p2), (3, .pointer (some ⟨b2, 0, none⟩)), (6, .slice none 0 0), (7, .slice a28 ((l_4).length) c30), (8, .int .i64 (Int.tmod p1 p0_3)), (9, .int .i64 (w64 (Int.tdiv p1 p0_3))), (10, .int .i64 s_2), (11, .int .i64 s_5)]) ⟨rfl, rfl, rfl, rfl, rfl, rfl, rfl, rfl, trivial⟩ (WK.cls (C' := St w0 m m [[⟨b2, 25, [.int .i64 p0_0, .int .i64 p0_1, .int .i64 p0_2, .int .i64 p0_3, .int .i64 p0_4, .slice a_p0_5 p0_5.length c_p0_5]⟩], L27]) (fun _ h => h) ?_)
        refine WK_seq ?_
        refine WK_seq ?_
        refine WK_region ?_
        refine WO_pure tbok 5 [(2, .int .i64 p2), (3, .pointer (some ⟨b2, 0, none⟩)), (6, .slice none 0 0), (7, .slice a28 ((l_4).length) c30), (8, .int .i64 (Int.tmod p1 p0_3)), (9, .int .i64 (w64 (Int.tdiv p1 p0_3))), (10, .int .i64 s_2), (11, .int .i64 s_5), (40, .int .i64 s_5), (43, .int .i64 (w64 ((Int.tmod p1 p0_3) + p2))), (44, .pointer (some ⟨b2, 3, none⟩))] rfl ⟨rfl, rfl, rfl, rfl, rfl, rfl, rfl, rfl, rfl, rfl, rfl, trivial⟩ ?_
        refine WO_loadB tbok 0 rfl rfl rfl rfl (fun _ h => h) rfl rfl ?_
        refine WO_pure tbok 3 [(2, .int .i64 p2), (3, .pointer (some ⟨b2, 0, none⟩)), (6, .slice none 0 0), (7, .slice a28 ((l_4).length) c30), (8, .int .i64 (Int.tmod p1 p0_3)), (9, .int .i64 (w64 (Int.tdiv p1 p0_3))), (10, .int .i64 s_2), (11, .int .i64 s_5), (48, .bool (decide (s_5 ≤ (if (w64 (p0_3 - 1)) < (w64 ((Int.tmod p1 p0_3) + p2)) then (w64 (p0_3 - 1)) else (w64 ((Int.tmod p1 p0_3) + p2))))))] rfl ⟨rfl, rfl, rfl, rfl, rfl, rfl, rfl, rfl, rfl, trivial⟩ ?_
        refine WO_end ?_
        refine WK_cond (b := decide (s_5 ≤ (if (w64 (p0_3 - 1)) < (w64 ((Int.tmod p1 p0_3) + p2)) then (w64 (p0_3 - 1)) else (w64 ((Int.tmod p1 p0_3) + p2))))) rfl (fun hb45 => ?_) (fun hb45 => ?_)
        · have hm39 := ifT hb45 hm39
          refine WK_skip ?_
          refine WK_seq ?_
          refine WK_block ?_
          refine WK_seq ?_
          refine WK_region ?_
          refine WO_pure tbok 1 [(2, .int .i64 p2), (3, .pointer (some ⟨b2, 0, none⟩)), (6, .slice none 0 0), (7, .slice a28 ((l_4).length) c30), (8, .int .i64 (Int.tmod p1 p0_3)), (9, .int .i64 (w64 (Int.tdiv p1 p0_3))), (10, .int .i64 s_2), (11, .int .i64 s_5), (51, .pointer (some ⟨b2, 5, none⟩))] rfl ⟨rfl, rfl, rfl, rfl, rfl, rfl, rfl, rfl, rfl, trivial⟩ ?_
          refine WO_loadB tbok 0 rfl rfl rfl rfl (fun _ h => h) rfl rfl ?_
          refine WO_pure tbok 2 [(2, .int .i64 p2), (3, .pointer (some ⟨b2, 0, none⟩)), (6, .slice none 0 0), (7, .slice a28 ((l_4).length) c30), (8, .int .i64 (Int.tmod p1 p0_3)), (9, .int .i64 (w64 (Int.tdiv p1 p0_3))), (10, .int .i64 s_2), (11, .int .i64 s_5), (52, .slice a_p0_5 p0_5.length c_p0_5), (53, .int .i64 s_2), (54, .pointer (some ⟨b2, 3, none⟩))] rfl ⟨rfl, rfl, rfl, rfl, rfl, rfl, rfl, rfl, rfl, rfl, rfl, trivial⟩ ?_
          refine WO_loadB tbok 0 rfl rfl rfl rfl (fun _ h => h) rfl rfl ?_
          refine WO_pure tbok 3 [(2, .int .i64 p2), (3, .pointer (some ⟨b2, 0, none⟩)), (6, .slice none 0 0), (7, .slice a28 ((l_4).length) c30), (8, .int .i64 (Int.tmod p1 p0_3)), (9, .int .i64 (w64 (Int.tdiv p1 p0_3))), (10, .int .i64 s_2), (11, .int .i64 s_5), (52, .slice a_p0_5 p0_5.length c_p0_5), (58, .int .i64 (w64 ((w64 (s_2 * p0_3)) + s_5)))] rfl ⟨rfl, rfl, rfl, rfl, rfl, rfl, rfl, rfl, rfl, rfl, trivial⟩ ?_
          obtain ⟨v_7, hy46, hm39⟩ := bind_some hm39
          obtain ⟨hc47, hy46⟩ := ix_some hy46
          refine WO_index tbok rfl rfl rfl rfl rfl rfl rfl rfl (SlR.addr h_p0_5) hc47 ?_
          refine WO_loadE tbok rfl rfl rfl rfl (fun _ h => St.sat h) h_p0_5 hy46 rfl ?_
          refine WO_pure tbok 1 [(2, .int .i64 p2), (3, .pointer (some ⟨b2, 0, none⟩)), (6, .slice none 0 0), (7, .slice a28 ((l_4).length) c30), (8, .int .i64 (Int.tmod p1 p0_3)), (9, .int .i64 (w64 (Int.tdiv p1 p0_3))), (10, .int .i64 s_2), (11, .int .i64 s_5), (12, .int .i64 v_7)] rfl ⟨rfl, rfl, rfl, rfl, rfl, rfl, rfl, rfl, rfl, trivial⟩ ?_
          refine WO_end ?_
          refine WK_seq ?_
          refine WK_region ?_
          refine WO_pure tbok 2 [(2, .int .i64 p2), (3, .pointer (some ⟨b2, 0, none⟩)), (6, .slice none 0 0), (7, .slice a28 ((l_4).length) c30), (8, .int .i64 (Int.tmod p1 p0_3)), (9, .int .i64 (w64 (Int.tdiv p1 p0_3))), (10, .int .i64 s_2), (11, .int .i64 s_5), (12, .int .i64 v_7), (62, .bool (v_7 != (-2147483648)))] rfl ⟨rfl, rfl, rfl, rfl, rfl, rfl, rfl, rfl, rfl, rfl, trivial⟩ ?_
          refine WO_end ?_
          obtain ⟨l_8, hx53, hm39⟩ := bind_some hm39
          refine WK_join (β := Option Addr × Nat × Nat × List Ent) (fun p => OwnE 3 1 (I1 .i64) (.slice p.1 p.2.1 p.2.2.1) l_8 p.2.2.2) (fun p => [(2, .int .i64 p2), (3, .pointer (some ⟨b2, 0, none⟩)), (6, .slice none 0 0), (7, .slice p.1 p.2.1 p.2.2.1), (8, .int .i64 (Int.tmod p1 p0_3)), (9, .int .i64 (w64 (Int.tdiv p1 p0_3))), (10, .int .i64 s_2), (11, .int .i64 s_5)]) (fun p => St w0 m m [[⟨b2, 25, [.int .i64 p0_0, .int .i64 p0_1, .int .i64 p0_2, .int .i64 p0_3, .int .i64 p0_4, .slice a_p0_5 p0_5.length c_p0_5]⟩], p.2.2.2]) ?_ (fun hk54 => ?_)
          · rintro ⟨a50, q51, c52, L49⟩ hL49
            have hqq : q51 = l_8.length := OwnE.qlen hL49
            subst hqq
            refine WK.sub (e' := [(2, .int .i64 p2), (3, .pointer (some ⟨b2, 0, none⟩)), (6, .slice none 0 0), (7, .slice a50 ((l_8).length) c52), (8, .int .i64 (Int.tmod p1 p0_3)), (9, .int .i64 (w64 (Int.tdiv p1 p0_3))), (10, .int .i64 s_2), (11, .int .i64 s_5)]) ⟨rfl, rfl, rfl, rfl, rfl, rfl, rfl, rfl, trivial⟩ (WK.cls (C' := St w0 m m [[⟨b2, 25, [.int .i64 p0_0, .int .i64 p0_1, .int .i64 p0_2, .int .i64 p0_3, .int .i64 p0_4, .slice a_p0_5 p0_5.length c_p0_5]⟩], L49]) (fun _ h => h) ?_)
            refine WK_blk ?_
            refine WK_region ?_
            refine WO_pure tbok 3 [(2, .int .i64 p2), (3, .pointer (some ⟨b2, 0, none⟩)), (6, .slice none 0 0), (7, .slice a50 ((l_8).length) c52), (8, .int .i64 (Int.tmod p1 p0_3)), (9, .int .i64 (w64 (Int.tdiv p1 p0_3))), (10, .int .i64 s_2), (11, .int .i64 (w64 (s_5 + 1)))] rfl ⟨rfl, rfl, rfl, rfl, rfl, rfl, rfl, rfl, trivial⟩ ?_
            refine WO_end ?_
            cases hm39
            refine WK.sub ?_ (WK.cls (fun _ h => h) (hn42 _ (a50, _, c52, L49) rfl hL49))
            exact ⟨rfl, rfl, rfl, rfl, rfl, rfl, rfl, rfl, trivial⟩
          · refine WK_cond (b := v_7 != (-2147483648)) rfl (fun hb55 => ?_) (fun hb55 => ?_)
            · have hx53 := ifT hb55 hx53
              refine WK_region ?_
              refine WO_pure tbok 2 [(2, .int .i64 p2), (3, .pointer (some ⟨b2, 0, none⟩)), (6, .slice none 0 0), (7, .slice a28 ((l_4).length) c30), (8, .int .i64 (Int.tmod p1 p0_3)), (9, .int .i64 (w64 (Int.tdiv p1 p0_3))), (10, .int .i64 s_2), (11, .int .i64 s_5), (63, .slice a28 ((l_4).length) c30), (64, .int .i64 v_7)] rfl ⟨rfl, rfl, rfl, rfl, rfl, rfl, rfl, rfl, rfl, rfl, trivial⟩ ?_
              refine WO_bslice (E := (I1 .i64)) tbok (fun _ => rfl) (by decide) [.int .i64 v_7] ([v_7] : List Int) rfl rfl trivial rfl rfl rfl rfl rfl rfl rfl rfl rfl rfl rfl rfl (fun b56 hb56 => ?_)
              refine WO.cls (C' := St w0 m m [[⟨b2, 25, [.int .i64 p0_0, .int .i64 p0_1, .int .i64 p0_2, .int .i64 p0_3, .int .i64 p0_4, .slice a_p0_5 p0_5.length c_p0_5]⟩], L27, [⟨b56, 3, ([v_7] : List Int).flatMap (I1 .i64)⟩]]) (fun _ h => h) ?_
              obtain ⟨hc58, hx53⟩ := chk_some hx53
              refine WO_append (E := (I1 .i64)) tbok (fun _ => rfl) 1 ([v_7] : List Int) (fun _ _ => rfl) rfl rfl rfl rfl rfl rfl rfl rfl rfl rfl rfl rfl hL27 rfl (src_seg (j := 2) rfl) (ap_ok (by decide) hc58) (ap_max hc58) (fun a59 c60 L61 hL61 => ?_)
              refine WO.cls (C' := St w0 m m [[⟨b2, 25, [.int .i64 p0_0, .int .i64 p0_1, .int .i64 p0_2, .int .i64 p0_3, .int .i64 p0_4, .slice a_p0_5 p0_5.length c_p0_5]⟩], L61, [⟨b56, 3, ([v_7] : List Int).flatMap (I1 .i64)⟩]]) (fun _ h => h) ?_
              refine WO_pure tbok 1 [(2, .int .i64 p2), (3, .pointer (some ⟨b2, 0, none⟩)), (6, .slice none 0 0), (7, .slice a59 ((l_4 ++ ([v_7] : List Int)).length) c60), (8, .int .i64 (Int.tmod p1 p0_3)), (9, .int .i64 (w64 (Int.tdiv p1 p0_3))), (10, .int .i64 s_2), (11, .int .i64 s_5)] rfl ⟨rfl, rfl, rfl, rfl, rfl, rfl, rfl, rfl, trivial⟩ ?_
              refine WO_end ?_
              cases hx53
              refine WK.sub ?_ (WK.cls (fun _ h => St.take 2 h) (hk54 ⟨a59, (l_4 ++ ([v_7] : List Int)).length, c60, L61⟩ hL61))
              exact ⟨rfl, rfl, rfl, rfl, rfl, rfl, rfl, rfl, trivial⟩
            · have hx53 := ifF hb55 hx53
              refine WK_skip ?_
              cases hx53
              refine WK.sub ?_ (WK.cls (fun _ h => h) (hk54 ⟨a28, _, c30, L27⟩ hL27))
              exact ⟨rfl, rfl, rfl, rfl, rfl, rfl, rfl, rfl, trivial⟩
        · have hm39 := ifF hb45 hm39
          refine WK_exit rfl ?_
          cases hm39
          refine WK.sub ?_ (WK.cls (fun _ h => h) (hk38 (l_4, (a28, _, c30, L27)) ⟨(hd43 _ rfl), hL27⟩))
          exact ⟨rfl, rfl, rfl, rfl, rfl, rfl, rfl, trivial⟩
    · have hm19 := ifF hb25 hm19
      refine WK_exit rfl ?_
      cases hm19
      refine WK.sub ?_ (WK.cls (fun _ h => h) (hk18 (l_1, (a8, _, c10, L7)) ⟨(hd23 _ rfl), hL7⟩))
      exact ⟨rfl, rfl, trivial⟩
def fiduciallaw48_filtered_Q (r : Int × Int × Int × Int × Int × List Int) : Value → Mu → List Ent → Prop := fun v m L => ∃ (a0 : Option Addr) (q0 c0 : Nat), v = .agg #[.int .i64 r.1, .int .i64 r.2.1, .int .i64 r.2.2.1, .int .i64 r.2.2.2.1, .int .i64 r.2.2.2.2.1, .slice a0 q0 c0] ∧ SlR (FE (I1 .i64)) 1 m (.slice a0 q0 c0) r.2.2.2.2.2
theorem fiduciallaw48_filtered_walk {m : Mu} {p0_0 : Int} {p0_1 : Int} {p0_2 : Int} {p0_3 : Int} {p0_4 : Int} {p0_5 : List Int} {p1 : Int} {p2 : List Int → Option Int} {a_p0_5 : Option Addr} {q_p0_5 c_p0_5 : Nat} {p2v : Value} (h_p0_5 : SlR (FE (I1 .i64)) 1 m (.slice a_p0_5 q_p0_5 c_p0_5) p0_5) (hp2 : ∀ (m1 : Mu), Le m m1 → ∀ (au1 : Option Addr) (qu1 cu1 : Nat) (u1 : List Int), SlR (FE (I1 .i64)) 1 m1 (.slice au1 qu1 cu1) u1 → ∀ (r : Int), p2 u1 = some r → SpecV Try.prog p2v [.slice au1 qu1 cu1] m1 (fun v _ _ => v = .int .i64 r)) {r : Int × Int × Int × Int × Int × List Int} (hm : fiduciallaw48_filtered p0_0 p0_1 p0_2 p0_3 p0_4 p0_5 p1 p2 = some r) :
    Go.E.Spec Try.prog 27 [.agg #[.int .i64 p0_0, .int .i64 p0_1, .int .i64 p0_2, .int .i64 p0_3, .int .i64 p0_4, .slice a_p0_5 q_p0_5 c_p0_5], .int .i64 p1, p2v] m (fiduciallaw48_filtered_Q r) := by
  refine Spec_enter Try.func27 rfl rfl rfl (fun w0 => ?_)
  refine WK.sub (e' := [(0, .agg #[.int .i64 p0_0, .int .i64 p0_1, .int .i64 p0_2, .int .i64 p0_3, .int .i64 p0_4, .slice a_p0_5 q_p0_5 c_p0_5]), (1, .int .i64 p1), (2, p2v)]) ⟨rfl, rfl, rfl, trivial⟩ ?_
  obtain rfl := SlR.qlen h_p0_5
  refine WK.sub (e' := [(0, .agg #[.int .i64 p0_0, .int .i64 p0_1, .int .i64 p0_2, .int .i64 p0_3, .int .i64 p0_4, .slice a_p0_5 p0_5.length c_p0_5]), (1, .int .i64 p1), (2, p2v)]) ⟨rfl, rfl, rfl, trivial⟩ ?_
  unfold fiduciallaw48_filtered at hm
  refine WK_seq ?_
  refine WK_region ?_
  refine WO_box [.int .i64 p0_0, .int .i64 p0_1, .int .i64 p0_2, .int .i64 p0_3, .int .i64 p0_4, .slice a_p0_5 p0_5.length c_p0_5] rfl rfl trivial rfl rfl rfl (fun b2 => ?_)
  refine WO.cls (C' := St w0 m m [[⟨b2, 25, [.int .i64 p0_0, .int .i64 p0_1, .int .i64 p0_2, .int .i64 p0_3, .int .i64 p0_4, .slice a_p0_5 p0_5.length c_p0_5]⟩]]) (fun _ h => h) ?_
  refine WO_alloc tbok [.int .i64 0, .int .i64 0, .int .i64 0, .int .i64 0, .int .i64 0, .slice none 0 0] rfl rfl trivial rfl rfl rfl rfl (fun b3 => ?_)
  refine WO.cls (C' := St w0 m m [[⟨b2, 25, [.int .i64 p0_0, .int .i64 p0_1, .int .i64 p0_2, .int .i64 p0_3, .int .i64 p0_4, .slice a_p0_5 p0_5.length c_p0_5]⟩], [⟨b3, 25, [.int .i64 0, .int .i64 0, .int .i64 0, .int .i64 0, .int .i64 0, .slice none 0 0]⟩]]) (fun _ h => h) ?_
  refine WO_end ?_
  refine WK_seq ?_
  refine WK_region ?_
  refine WO_pure tbok 1 [(1, .int .i64 p1), (2, p2v), (3, .pointer (some ⟨b2, 0, none⟩)), (6, .pointer (some ⟨b3, 0, none⟩)), (7, .slice none 0 0)] rfl ⟨rfl, rfl, rfl, rfl, rfl, trivial⟩ ?_
  refine WO_end ?_
  refine WK_seq ?_
  refine WK_seq ?_
  refine WK_region ?_
  refine WO_pure tbok 1 [(1, .int .i64 p1), (2, p2v), (3, .pointer (some ⟨b2, 0, none⟩)), (6, .pointer (some ⟨b3, 0, none⟩)), (7, .slice none 0 0), (10, .pointer (some ⟨b2, 5, none⟩))] rfl ⟨rfl, rfl, rfl, rfl, rfl, rfl, trivial⟩ ?_
  refine WO_loadB tbok 0 rfl rfl rfl rfl (fun _ h => h) rfl rfl ?_
  refine WO_pure tbok 2 [(1, .int .i64 p1), (2, p2v), (3, .pointer (some ⟨b2, 0, none⟩)), (6, .pointer (some ⟨b3, 0, none⟩)), (7, .slice none 0 0), (11, .slice a_p0_5 p0_5.length c_p0_5), (12, .int .i64 (p0_5.length : Int)), (13, .int .i64 0)] rfl ⟨rfl, rfl, rfl, rfl, rfl, rfl, rfl, rfl, trivial⟩ ?_
  refine WO_end ?_
  refine WK_pad ?_
  obtain ⟨x19, hx20, hm⟩ := bind_some hm
  refine WK_join (β := (List Int) × (Mu × Option Addr × Nat × Nat × List Ent)) (fun p => p.1 = x19 ∧ Le m p.2.1 ∧ OwnE 3 1 (I1 .i64) (.slice p.2.2.1 p.2.2.2.1 p.2.2.2.2.1) p.1 p.2.2.2.2.2) (fun p => [(3, .pointer (some ⟨b2, 0, none⟩)), (6, .pointer (some ⟨b3, 0, none⟩)), (7, .slice p.2.2.1 p.2.2.2.1 p.2.2.2.2.1)]) (fun p => St w0 m p.2.1 [[⟨b2, 25, [.int .i64 p0_0, .int .i64 p0_1, .int .i64 p0_2, .int .i64 p0_3, .int .i64 p0_4, .slice a_p0_5 p0_5.length c_p0_5]⟩], [⟨b3, 25, [.int .i64 0, .int .i64 0, .int .i64 0, .int .i64 0, .int .i64 0, .slice none 0 0]⟩], p.2.2.2.2.2]) ?_ (fun hk21 => ?_)
  · rintro ⟨l_3, ⟨m12, a16, q17, c18, L15⟩⟩ ⟨hq27, hle13, hL15⟩
    subst hq27
    have hqq : q17 = l_3.length := OwnE.qlen hL15
    subst hqq
    refine WK.sub (e' := [(3, .pointer (some ⟨b2, 0, none⟩)), (6, .pointer (some ⟨b3, 0, none⟩)), (7, .slice a16 ((l_3).length) c18)]) ⟨rfl, rfl, rfl, trivial⟩ (WK.cls (C' := St w0 m m12 [[⟨b2, 25, [.int .i64 p0_0, .int .i64 p0_1, .int .i64 p0_2, .int .i64 p0_3, .int .i64 p0_4, .slice a_p0_5 p0_5.length c_p0_5]⟩], [⟨b3, 25, [.int .i64 0, .int .i64 0, .int .i64 0, .int .i64 0, .int .i64 0, .slice none 0 0]⟩], L15]) (fun _ h => h) ?_)
    refine WK_seq ?_
    refine WK_region ?_
    refine WO_loadB tbok 0 rfl rfl rfl rfl (fun _ h => h) rfl rfl ?_
    refine WO_pure tbok 1 [(6, .pointer (some ⟨b3, 0, none⟩)), (31, .agg #[.int .i64 p0_0, .int .i64 p0_1, .int .i64 p0_2, .int .i64 p0_3, .int .i64 p0_4, .slice a_p0_5 p0_5.length c_p0_5]), (32, .slice a16 ((l_3).length) c18)] rfl ⟨rfl, rfl, rfl, trivial⟩ ?_
    refine WO_freeze 2 rfl (fun m28 hle29 hmm30 => ?_)
    refine WO.cls (C' := St w0 m m28 [[⟨b2, 25, [.int .i64 p0_0, .int .i64 p0_1, .int .i64 p0_2, .int .i64 p0_3, .int .i64 p0_4, .slice a_p0_5 p0_5.length c_p0_5]⟩], [⟨b3, 25, [.int .i64 0, .int .i64 0, .int .i64 0, .int .i64 0, .int .i64 0, .slice none 0 0]⟩], []]) (fun _ h => h) ?_
    obtain ⟨⟨y_4, y_5, y_6, y_7, y_8, y_9⟩, hc31, hm⟩ := bind_some hm
    refine WO_call2 (fiduciallaw48_with_Q (y_4, y_5, y_6, y_7, y_8, y_9)) rfl rfl trivial rfl rfl rfl rfl ⟨22, #[], #[], rfl, callable_22, fiduciallaw48_with_walk ((h_p0_5.mono (mono_FE _) hle13).mono (mono_FE _) hle29) (OwnE.rd (E := (I1 .i64)) (k := 1) (fun _ => rfl) hL15 hmm30) hc31⟩ (fun v36 m37 L35 hle38 hq => ?_)
    obtain ⟨a32, qa32, c33, rfl, h39⟩ := hq
    obtain rfl := SlR.qlen h39
    refine WO.cls (C' := St w0 m m37 [[⟨b2, 25, [.int .i64 p0_0, .int .i64 p0_1, .int .i64 p0_2, .int .i64 p0_3, .int .i64 p0_4, .slice a_p0_5 p0_5.length c_p0_5]⟩], [⟨b3, 25, [.int .i64 0, .int .i64 0, .int .i64 0, .int .i64 0, .int .i64 0, .slice none 0 0]⟩], [], L35]) (fun _ h => h.sub (by simp)) ?_
    refine WO_storeB tbok 1 [.int .i64 y_4, .int .i64 y_5, .int .i64 y_6, .int .i64 y_7, .int .i64 y_8, .slice a32 ((y_9).length) c33] rfl rfl rfl rfl rfl rfl rfl ?_
    refine WO.cls (C' := St w0 m m37 [[⟨b2, 25, [.int .i64 p0_0, .int .i64 p0_1, .int .i64 p0_2, .int .i64 p0_3, .int .i64 p0_4, .slice a_p0_5 p0_5.length c_p0_5]⟩], [⟨b3, 25, [.int .i64 y_4, .int .i64 y_5, .int .i64 y_6, .int .i64 y_7, .int .i64 y_8, .slice a32 ((y_9).length) c33]⟩], [], L35]) (fun _ h => h) ?_
    refine WO_end ?_
    cases hm
    exact WK_ret (ret_out (L := []) (RLc_cell tbok 1 rfl rfl rfl RLc_nil) (List.nil_sublist _) ⟨a32, _, c33, rfl, h39⟩)
  · refine WK_block ?_
    refine WK_loop (S := List Int × Int) (G := Mu × Option Addr × Nat × Nat × List Ent) (fun s => fiduciallaw48_filtered_s1 p0_0 p0_1 p0_2 p0_3 p0_4 p0_5 p1 p2 s.1 s.2) (fun s g => [(1, .int .i64 p1), (2, p2v), (3, .pointer (some ⟨b2, 0, none⟩)), (6, .pointer (some ⟨b3, 0, none⟩)), (7, .slice g.2.1 g.2.2.1 g.2.2.2.1), (11, .slice a_p0_5 p0_5.length c_p0_5), (12, .int .i64 (p0_5.length : Int)), (13, .int .i64 s.2)]) (fun s g => St w0 m g.1 [[⟨b2, 25, [.int .i64 p0_0, .int .i64 p0_1, .int .i64 p0_2, .int .i64 p0_3, .int .i64 p0_4, .slice a_p0_5 p0_5.length c_p0_5]⟩], [⟨b3, 25, [.int .i64 0, .int .i64 0, .int .i64 0, .int .i64 0, .int .i64 0, .slice none 0 0]⟩], g.2.2.2.2]) (fun s g => Le m g.1 ∧ OwnE 3 1 (I1 .i64) (.slice g.2.1 g.2.2.1 g.2.2.2.1) s.1 g.2.2.2.2) FUEL (([] : List Int), 0) (m, none, 0, 0, []) x19 hx20 ⟨(Le.refl _), (OwnE.nil (T := 3) (k := 1) (E := (I1 .i64)) none)⟩ ⟨rfl, rfl, rfl, rfl, rfl, rfl, rfl, rfl, trivial⟩ (fun _ h => h) ?_
    rintro ⟨l_1, s_2⟩ ⟨m5, a9, q10, c11, L8⟩ o23 fl24 hm22 ⟨hle6, hL8⟩ hn25 hd26
    have hm22 : fiduciallaw48_filtered_s1 p0_0 p0_1 p0_2 p0_3 p0_4 p0_5 p1 p2 l_1 s_2 = some o23 := hm22
    unfold fiduciallaw48_filtered_s1 at hm22
    have hqq : q10 = l_1.length := OwnE.qlen hL8
    subst hqq
    refine WK.sub (e' := [(1, .int .i64 p1), (2, p2v), (3, .pointer (some ⟨b2, 0, none⟩)), (6, .pointer (some ⟨b3, 0, none⟩)), (7, .slice a9 ((l_1).length) c11), (11, .slice a_p0_5 p0_5.length c_p0_5), (12, .int .i64 (p0_5.length : Int)), (13, .int .i64 s_2)]) ⟨rfl, rfl, rfl, rfl, rfl, rfl, rfl, rfl, trivial⟩ (WK.cls (C' := St w0 m m5 [[⟨b2, 25, [.int .i64 p0_0, .int .i64 p0_1, .int .i64 p0_2, .int .i64 p0_3, .int .i64 p0_4, .slice a_p0_5 p0_5.length c_p0_5]⟩], [⟨b3, 25, [.int .i64 0, .int .i64 0, .int .i64 0, .int .i64 0, .int .i64 0, .slice none 0 0]⟩], L8]) (fun _ h => h) ?_)
    refine WK_seq ?_
    refine WK_region ?_
    refine WO_pure tbok 1 [(1, .int .i64 p1), (2, p2v), (3, .pointer (some ⟨b2, 0, none⟩)), (6, .pointer (some ⟨b3, 0, none⟩)), (7, .slice a9 ((l_1).length) c11), (11, .slice a_p0_5 p0_5.length c_p0_5), (12, .int .i64 (p0_5.length : Int)), (13, .int .i64 s_2), (14, .bool (decide (s_2 < (p0_5.length : Int))))] rfl ⟨rfl, rfl, rfl, rfl, rfl, rfl, rfl, rfl, rfl, trivial⟩ ?_
    refine WO_end ?_
    refine WK_seq ?_
    refine WK_cond (b := decide (s_2 < (p0_5.length : Int))) rfl (fun hb40 => ?_) (fun hb40 => ?_)
    · have hm22 := ifT hb40 hm22
      refine WK_skip ?_
      refine WK_seq ?_
      refine WK_block ?_
      refine WK_seq ?_
      refine WK_region ?_
      refine WO_pure tbok 1 [(1, .int .i64 p1), (2, p2v), (3, .pointer (some ⟨b2, 0, none⟩)), (6, .pointer (some ⟨b3, 0, none⟩)), (7, .slice a9 ((l_1).length) c11), (11, .slice a_p0_5 p0_5.length c_p0_5), (12, .int .i64 (p0_5.length : Int)), (13, .int .i64 s_2), (15, .int .i64 s_2)] rfl ⟨rfl, rfl, rfl, rfl, rfl, rfl, rfl, rfl, rfl, trivial⟩ ?_
      obtain ⟨v_10, hy41, hm22⟩ := bind_some hm22
      obtain ⟨hc42, hy41⟩ := ix_some hy41
      refine WO_index tbok rfl rfl rfl rfl rfl rfl rfl rfl (SlR.addr (h_p0_5.mono (mono_FE _) hle6)) hc42 ?_
      refine WO_loadE tbok rfl rfl rfl rfl (fun _ h => St.sat h) (h_p0_5.mono (mono_FE _) hle6) hy41 rfl ?_
      refine WO_pure tbok 2 [(1, .int .i64 p1), (2, p2v), (3, .pointer (some ⟨b2, 0, none⟩)), (6, .pointer (some ⟨b3, 0, none⟩)), (7, .slice a9 ((l_1).length) c11), (8, .int .i64 s_2), (9, .int .i64 v_10), (11, .slice a_p0_5 p0_5.length c_p0_5), (12, .int .i64 (p0_5.length : Int)), (13, .int .i64 s_2)] rfl ⟨rfl, rfl, rfl, rfl, rfl, rfl, rfl, rfl, rfl, rfl, trivial⟩ ?_
      refine WO_end ?_
      refine WK_seq ?_
      refine WK_seq ?_
      refine WK_region ?_
      refine WO_pure tbok 2 [(1, .int .i64 p1), (2, p2v), (3, .pointer (some ⟨b2, 0, none⟩)), (6, .pointer (some ⟨b3, 0, none⟩)), (7, .slice a9 ((l_1).length) c11), (8, .int .i64 s_2), (9, .int .i64 v_10), (11, .slice a_p0_5 p0_5.length c_p0_5), (12, .int .i64 (p0_5.length : Int)), (13, .int .i64 s_2), (19, .bool (v_10 != (-2147483648)))] rfl ⟨rfl, rfl, rfl, rfl, rfl, rfl, rfl, rfl, rfl, rfl, rfl, trivial⟩ ?_
      refine WO_end ?_
      obtain ⟨s_11, hx45, hm22⟩ := bind_some hm22
      refine WK_join (β := Mu) (fun p => Le m5 p) (fun p => [(1, .int .i64 p1), (2, p2v), (3, .pointer (some ⟨b2, 0, none⟩)), (6, .pointer (some ⟨b3, 0, none⟩)), (7, .slice a9 ((l_1).length) c11), (9, .int .i64 s_11), (11, .slice a_p0_5 p0_5.length c_p0_5), (12, .int .i64 (p0_5.length : Int)), (13, .int .i64 s_2)]) (fun p => St w0 m p [[⟨b2, 25, [.int .i64 p0_0, .int .i64 p0_1, .int .i64 p0_2, .int .i64 p0_3, .int .i64 p0_4, .slice a_p0_5 p0_5.length c_p0_5]⟩], [⟨b3, 25, [.int .i64 0, .int .i64 0, .int .i64 0, .int .i64 0, .int .i64 0, .slice none 0 0]⟩], L8]) ?_ (fun hk46 => ?_)
      · rintro m43 hle44
        refine WK.sub (e' := [(1, .int .i64 p1), (2, p2v), (3, .pointer (some ⟨b2, 0, none⟩)), (6, .pointer (some ⟨b3, 0, none⟩)), (7, .slice a9 ((l_1).length) c11), (9, .int .i64 s_11), (11, .slice a_p0_5 p0_5.length c_p0_5), (12, .int .i64 (p0_5.length : Int)), (13, .int .i64 s_2)]) ⟨rfl, rfl, rfl, rfl, rfl, rfl, rfl, rfl, rfl, trivial⟩ (WK.cls (C' := St w0 m m43 [[⟨b2, 25, [.int .i64 p0_0, .int .i64 p0_1, .int .i64 p0_2, .int .i64 p0_3, .int .i64 p0_4, .slice a_p0_5 p0_5.length c_p0_5]⟩], [⟨b3, 25, [.int .i64 0, .int .i64 0, .int .i64 0, .int .i64 0, .int .i64 0, .slice none 0 0]⟩], L8]) (fun _ h => h) ?_)
        refine WK_region ?_
        refine WO_pure tbok 2 [(1, .int .i64 p1), (2, p2v), (3, .pointer (some ⟨b2, 0, none⟩)), (6, .pointer (some ⟨b3, 0, none⟩)), (7, .slice a9 ((l_1).length) c11), (11, .slice a_p0_5 p0_5.length c_p0_5), (12, .int .i64 (p0_5.length : Int)), (13, .int .i64 s_2), (26, .slice a9 ((l_1).length) c11), (27, .int .i64 s_11)] rfl ⟨rfl, rfl, rfl, rfl, rfl, rfl, rfl, rfl, rfl, rfl, trivial⟩ ?_
        refine WO_bslice (E := (I1 .i64)) tbok (fun _ => rfl) (by decide) [.int .i64 s_11] ([s_11] : List Int) rfl rfl trivial rfl rfl rfl rfl rfl rfl rfl rfl rfl rfl rfl rfl (fun b47 hb47 => ?_)
        refine WO.cls (C' := St w0 m m43 [[⟨b2, 25, [.int .i64 p0_0, .int .i64 p0_1, .int .i64 p0_2, .int .i64 p0_3, .int .i64 p0_4, .slice a_p0_5 p0_5.length c_p0_5]⟩], [⟨b3, 25, [.int .i64 0, .int .i64 0, .int .i64 0, .int .i64 0, .int .i64 0, .slice none 0 0]⟩], L8, [⟨b47, 3, ([s_11] : List Int).flatMap (I1 .i64)⟩]]) (fun _ h => h) ?_
        obtain ⟨hc49, hm22⟩ := chk_some hm22
        refine WO_append (E := (I1 .i64)) tbok (fun _ => rfl) 2 ([s_11] : List Int) (fun _ _ => rfl) rfl rfl rfl rfl rfl rfl rfl rfl rfl rfl rfl rfl hL8 rfl (src_seg (j := 3) rfl) (ap_ok (by decide) hc49) (ap_max hc49) (fun a50 c51 L52 hL52 => ?_)
        refine WO.cls (C' := St w0 m m43 [[⟨b2, 25, [.int .i64 p0_0, .int .i64 p0_1, .int .i64 p0_2, .int .i64 p0_3, .int .i64 p0_4, .slice a_p0_5 p0_5.length c_p0_5]⟩], [⟨b3, 25, [.int .i64 0, .int .i64 0, .int .i64 0, .int .i64 0, .int .i64 0, .slice none 0 0]⟩], L52, [⟨b47, 3, ([s_11] : List Int).flatMap (I1 .i64)⟩]]) (fun _ h => h) ?_
        refine WO_pure tbok 1 [(1, .int .i64 p1), (2, p2v), (3, .pointer (some ⟨b2, 0, none⟩)), (6, .pointer (some ⟨b3, 0, none⟩)), (7, .slice a50 ((l_1 ++ ([s_11] : List Int)).length) c51), (11, .slice a_p0_5 p0_5.length c_p0_5), (12, .int .i64 (p0_5.length : Int)), (13, .int .i64 s_2)] rfl ⟨rfl, rfl, rfl, rfl, rfl, rfl, rfl, rfl, trivial⟩ ?_
        refine WO_end ?_
        refine WK_blk ?_
        refine WK_region ?_
        refine WO_pure tbok 2 [(1, .int .i64 p1), (2, p2v), (3, .pointer (some ⟨b2, 0, none⟩)), (6, .pointer (some ⟨b3, 0, none⟩)), (7, .slice a50 ((l_1 ++ ([s_11] : List Int)).length) c51), (11, .slice a_p0_5 p0_5.length c_p0_5), (12, .int .i64 (p0_5.length : Int)), (13, .int .i64 (w64 (s_2 + 1)))] rfl ⟨rfl, rfl, rfl, rfl, rfl, rfl, rfl, rfl, trivial⟩ ?_
        refine WO_end ?_
        cases hm22
        refine WK.sub ?_ (WK.cls (fun _ h => St.take 3 h) (hn25 _ (m43, a50, (l_1 ++ ([s_11] : List Int)).length, c51, L52) rfl ⟨(hle6.trans hle44), hL52⟩))
        exact ⟨rfl, rfl, rfl, rfl, rfl, rfl, rfl, rfl, trivial⟩
      · refine WK_cond (b := v_10 != (-2147483648)) rfl (fun hb54 => ?_) (fun hb54 => ?_)
        · have hx45 := ifT hb54 hx45
          refine WK_region ?_
          refine WO_pure tbok 1 [(1, .int .i64 p1), (2, p2v), (3, .pointer (some ⟨b2, 0, none⟩)), (6, .pointer (some ⟨b3, 0, none⟩)), (7, .slice a9 ((l_1).length) c11), (8, .int .i64 s_2), (9, .int .i64 v_10), (11, .slice a_p0_5 p0_5.length c_p0_5), (12, .int .i64 (p0_5.length : Int)), (13, .int .i64 s_2), (20, p2v)] rfl ⟨rfl, rfl, rfl, rfl, rfl, rfl, rfl, rfl, rfl, rfl, rfl, trivial⟩ ?_
          refine WO_loadB tbok 0 rfl rfl rfl rfl (fun _ h => h) rfl rfl ?_
          refine WO_pure tbok 2 [(1, .int .i64 p1), (2, p2v), (3, .pointer (some ⟨b2, 0, none⟩)), (6, .pointer (some ⟨b3, 0, none⟩)), (7, .slice a9 ((l_1).length) c11), (9, .int .i64 v_10), (11, .slice a_p0_5 p0_5.length c_p0_5), (12, .int .i64 (p0_5.length : Int)), (13, .int .i64 s_2), (20, p2v), (21, .agg #[.int .i64 p0_0, .int .i64 p0_1, .int .i64 p0_2, .int .i64 p0_3, .int .i64 p0_4, .slice a_p0_5 p0_5.length c_p0_5]), (22, .int .i64 s_2), (23, .int .i64 p1)] rfl ⟨rfl, rfl, rfl, rfl, rfl, rfl, rfl, rfl, rfl, rfl, rfl, rfl, rfl, trivial⟩ ?_
          obtain ⟨y_12, hc55, hx45⟩ := bind_some hx45
          refine WO_call1 (fiduciallaw48_window_Q y_12) rfl rfl trivial rfl rfl rfl rfl ⟨55, #[], #[], rfl, callable_55, fun w hw => ⟨_, hw.sat, fiduciallaw48_window_walk (h_p0_5.mono (mono_FE _) hle6) hc55⟩⟩ (fun v60 L59 hq => ?_)
          obtain ⟨a56, qa56, c57, rfl, hL59⟩ := hq
          obtain rfl := OwnE.qlen hL59
          refine WO.cls (C' := St w0 m m5 [[⟨b2, 25, [.int .i64 p0_0, .int .i64 p0_1, .int .i64 p0_2, .int .i64 p0_3, .int .i64 p0_4, .slice a_p0_5 p0_5.length c_p0_5]⟩], [⟨b3, 25, [.int .i64 0, .int .i64 0, .int .i64 0, .int .i64 0, .int .i64 0, .slice none 0 0]⟩], L8, L59]) (fun _ h => h) ?_
          refine WO_freeze 3 rfl (fun m61 hle62 hmm63 => ?_)
          refine WO.cls (C' := St w0 m m61 [[⟨b2, 25, [.int .i64 p0_0, .int .i64 p0_1, .int .i64 p0_2, .int .i64 p0_3, .int .i64 p0_4, .slice a_p0_5 p0_5.length c_p0_5]⟩], [⟨b3, 25, [.int .i64 0, .int .i64 0, .int .i64 0, .int .i64 0, .int .i64 0, .slice none 0 0]⟩], L8, []]) (fun _ h => h) ?_
          obtain ⟨y_13, hc64, hx45⟩ := bind_some hx45
          obtain ⟨f0, first0, cap0, hf0, hcal0, hsp0⟩ := hp2 _ (hle6.trans hle62) _ _ _ y_12 (OwnE.rd (E := (I1 .i64)) (k := 1) (fun _ => rfl) hL59 hmm63) _ hc64
          refine WO_call0 (.int .i64 y_13) rfl rfl trivial rfl rfl rfl rfl St_closed ⟨f0, first0, cap0, hf0, hcal0, fun w hw => ⟨m61, hw.sat, hsp0⟩⟩ ?_
          refine WO_pure tbok 1 [(1, .int .i64 p1), (2, p2v), (3, .pointer (some ⟨b2, 0, none⟩)), (6, .pointer (some ⟨b3, 0, none⟩)), (7, .slice a9 ((l_1).length) c11), (9, .int .i64 y_13), (11, .slice a_p0_5 p0_5.length c_p0_5), (12, .int .i64 (p0_5.length : Int)), (13, .int .i64 s_2)] rfl ⟨rfl, rfl, rfl, rfl, rfl, rfl, rfl, rfl, rfl, trivial⟩ ?_
          refine WO_end ?_
          cases hx45
          refine WK.sub ?_ (WK.cls (fun _ h => St.take 3 h) (hk46 m61 hle62))
          exact ⟨rfl, rfl, rfl, rfl, rfl, rfl, rfl, rfl, rfl, trivial⟩
        · have hx45 := ifF hb54 hx45
          refine WK_skip ?_
          cases hx45
          refine WK.sub ?_ (WK.cls (fun _ h => h) (hk46 m5 (Le.refl _)))
          exact ⟨rfl, rfl, rfl, rfl, rfl, rfl, rfl, rfl, rfl, trivial⟩
    · have hm22 := ifF hb40 hm22
      refine WK_exit rfl ?_
      cases hm22
      refine WK.sub ?_ (WK.cls (fun _ h => h) (hk21 (l_1, (m5, a9, _, c11, L8)) ⟨(hd26 _ rfl), hle6, hL8⟩))
      exact ⟨rfl, rfl, rfl, trivial⟩
theorem fiduciallaw48_least_walk {m : Mu} {p0 : List Int} {a_p0 : Option Addr} {q_p0 c_p0 : Nat} (h_p0 : SlR (FE (I1 .i64)) 1 m (.slice a_p0 q_p0 c_p0) p0) {r : Int} (hm : fiduciallaw48_least p0 = some r) :
    Go.E.Spec Try.prog 28 [.slice a_p0 q_p0 c_p0] m (fun v _ _ => v = .int .i64 r) := by
  refine Spec_enter Try.func28 rfl rfl rfl (fun w0 => ?_)
  refine WK.sub (e' := [(0, .slice a_p0 q_p0 c_p0)]) ⟨rfl, trivial⟩ ?_
  obtain rfl := SlR.qlen h_p0
  refine WK.sub (e' := [(0, .slice a_p0 p0.length c_p0)]) ⟨rfl, trivial⟩ ?_
  unfold fiduciallaw48_least at hm
  refine WK_seq ?_
  refine WK_region ?_
  refine WO_pure tbok 1 [(0, .slice a_p0 p0.length c_p0), (2, .int .i64 0)] rfl ⟨rfl, rfl, trivial⟩ ?_
  refine WO_end ?_
  refine WK_seq ?_
  refine WK_region ?_
  refine WO_pure tbok 1 [(0, .slice a_p0 p0.length c_p0), (2, .int .i64 0), (6, .slice a_p0 p0.length c_p0)] rfl ⟨rfl, rfl, rfl, trivial⟩ ?_
  obtain ⟨v_1, hy2, hm⟩ := bind_some hm
  obtain ⟨hc3, hy2⟩ := ix_some hy2
  refine WO_index tbok rfl rfl rfl rfl rfl rfl rfl rfl (SlR.addr h_p0) hc3 ?_
  refine WO_loadE tbok rfl rfl rfl rfl (fun _ h => St.sat h) h_p0 hy2 rfl ?_
  refine WO_pure tbok 1 [(0, .slice a_p0 p0.length c_p0), (2, .int .i64 0), (3, .int .i64 v_1)] rfl ⟨rfl, rfl, rfl, trivial⟩ ?_
  refine WO_end ?_
  refine WK_seq ?_
  refine WK_seq ?_
  refine WK_region ?_
  refine WO_pure tbok 3 [(2, .int .i64 0), (3, .int .i64 v_1), (9, .slice a_p0 p0.length c_p0), (10, .int .i64 (p0.length : Int)), (11, .int .i64 0)] rfl ⟨rfl, rfl, rfl, rfl, rfl, trivial⟩ ?_
  refine WO_end ?_
  obtain ⟨x4, hx5, hm⟩ := bind_some hm
  refine WK_join (β := Int × Unit) (fun p => p.1 = x4) (fun p => [(2, .int .i64 0), (3, .int .i64 p.1)]) (fun p => St w0 m m []) ?_ (fun hk6 => ?_)
  · rintro ⟨s_4, ⟨⟩⟩ hq12
    subst hq12
    refine WK.sub (e' := [(2, .int .i64 0), (3, .int .i64 s_4)]) ⟨rfl, rfl, trivial⟩ (WK.cls (C' := St w0 m m []) (fun _ h => h) ?_)
    refine WK_seq ?_
    refine WK_region ?_
    refine WO_pure tbok 2 [(2, .int .i64 s_4)] rfl ⟨rfl, trivial⟩ ?_
    refine WO_end ?_
    cases hm
    exact WK_ret (ret_out (L := []) (RLc_tmp rfl RLc_nil) (List.nil_sublist _) rfl)
  · refine WK_block ?_
    refine WK_loop (S := Int × Int) (G := Unit) (fun s => fiduciallaw48_least_s1 p0 s.1 s.2) (fun s g => [(2, .int .i64 0), (3, .int .i64 s.1), (9, .slice a_p0 p0.length c_p0), (10, .int .i64 (p0.length : Int)), (11, .int .i64 s.2)]) (fun s g => St w0 m m []) (fun s g => True) FUEL (v_1, 0) () x4 hx5 trivial ⟨rfl, rfl, rfl, rfl, rfl, trivial⟩ (fun _ h => h) ?_
    rintro ⟨s_2, s_3⟩ ⟨⟩ o8 fl9 hm7 - hn10 hd11
    have hm7 : fiduciallaw48_least_s1 p0 s_2 s_3 = some o8 := hm7
    unfold fiduciallaw48_least_s1 at hm7
    refine WK.sub (e' := [(2, .int .i64 0), (3, .int .i64 s_2), (9, .slice a_p0 p0.length c_p0), (10, .int .i64 (p0.length : Int)), (11, .int .i64 s_3)]) ⟨rfl, rfl, rfl, rfl, rfl, trivial⟩ (WK.cls (C' := St w0 m m []) (fun _ h => h) ?_)
    refine WK_seq ?_
    refine WK_region ?_
    refine WO_pure tbok 1 [(2, .int .i64 0), (3, .int .i64 s_2), (9, .slice a_p0 p0.length c_p0), (10, .int .i64 (p0.length : Int)), (11, .int .i64 s_3), (12, .bool (decide (s_3 < (p0.length : Int))))] rfl ⟨rfl, rfl, rfl, rfl, rfl, rfl, trivial⟩ ?_
    refine WO_end ?_
    refine WK_seq ?_
    refine WK_cond (b := decide (s_3 < (p0.length : Int))) rfl (fun hb13 => ?_) (fun hb13 => ?_)
    · have hm7 := ifT hb13 hm7
      refine WK_skip ?_
      refine WK_seq ?_
      refine WK_block ?_
      refine WK_seq ?_
      refine WK_region ?_
      obtain ⟨v_5, hy14, hm7⟩ := bind_some hm7
      obtain ⟨hc15, hy14⟩ := ix_some hy14
      refine WO_index tbok rfl rfl rfl rfl rfl rfl rfl rfl (SlR.addr h_p0) hc15 ?_
      refine WO_loadE tbok rfl rfl rfl rfl (fun _ h => St.sat h) h_p0 hy14 rfl ?_
      refine WO_pure tbok 1 [(2, .int .i64 0), (3, .int .i64 s_2), (5, .int .i64 v_5), (9, .slice a_p0 p0.length c_p0), (10, .int .i64 (p0.length : Int)), (11, .int .i64 s_3)] rfl ⟨rfl, rfl, rfl, rfl, rfl, rfl, trivial⟩ ?_
      refine WO_end ?_
      refine WK_region ?_
      refine WO_pure tbok 4 [(2, .int .i64 0), (3, .int .i64 (if v_5 < s_2 then v_5 else s_2)), (9, .slice a_p0 p0.length c_p0), (10, .int .i64 (p0.length : Int)), (11, .int .i64 s_3)] rfl ⟨rfl, rfl, rfl, rfl, rfl, trivial⟩ ?_
      refine WO_end ?_
      refine WK_blk ?_
      refine WK_region ?_
      refine WO_pure tbok 2 [(2, .int .i64 0), (3, .int .i64 (if v_5 < s_2 then v_5 else s_2)), (9, .slice a_p0 p0.length c_p0), (10, .int .i64 (p0.length : Int)), (11, .int .i64 (w64 (s_3 + 1)))] rfl ⟨rfl, rfl, rfl, rfl, rfl, trivial⟩ ?_
      refine WO_end ?_
      cases hm7
      refine WK.sub ?_ (WK.cls (fun _ h => h) (hn10 _ () rfl trivial))
      exact ⟨rfl, rfl, rfl, rfl, rfl, trivial⟩
    · have hm7 := ifF hb13 hm7
      refine WK_exit rfl ?_
      cases hm7
      refine WK.sub ?_ (WK.cls (fun _ h => h) (hk6 (s_2, ()) (hd11 _ rfl)))
      exact ⟨rfl, rfl, trivial⟩
theorem fiduciallaw48_greatest_walk {m : Mu} {p0 : List Int} {a_p0 : Option Addr} {q_p0 c_p0 : Nat} (h_p0 : SlR (FE (I1 .i64)) 1 m (.slice a_p0 q_p0 c_p0) p0) {r : Int} (hm : fiduciallaw48_greatest p0 = some r) :
    Go.E.Spec Try.prog 29 [.slice a_p0 q_p0 c_p0] m (fun v _ _ => v = .int .i64 r) := by
  refine Spec_enter Try.func29 rfl rfl rfl (fun w0 => ?_)
  refine WK.sub (e' := [(0, .slice a_p0 q_p0 c_p0)]) ⟨rfl, trivial⟩ ?_
  obtain rfl := SlR.qlen h_p0
  refine WK.sub (e' := [(0, .slice a_p0 p0.length c_p0)]) ⟨rfl, trivial⟩ ?_
  unfold fiduciallaw48_greatest at hm
  refine WK_seq ?_
  refine WK_region ?_
  refine WO_pure tbok 1 [(0, .slice a_p0 p0.length c_p0), (2, .int .i64 0)] rfl ⟨rfl, rfl, trivial⟩ ?_
  refine WO_end ?_
  refine WK_seq ?_
  refine WK_region ?_
  refine WO_pure tbok 1 [(0, .slice a_p0 p0.length c_p0), (2, .int .i64 0), (6, .slice a_p0 p0.length c_p0)] rfl ⟨rfl, rfl, rfl, trivial⟩ ?_
  obtain ⟨v_1, hy2, hm⟩ := bind_some hm
  obtain ⟨hc3, hy2⟩ := ix_some hy2
  refine WO_index tbok rfl rfl rfl rfl rfl rfl rfl rfl (SlR.addr h_p0) hc3 ?_
  refine WO_loadE tbok rfl rfl rfl rfl (fun _ h => St.sat h) h_p0 hy2 rfl ?_
  refine WO_pure tbok 1 [(0, .slice a_p0 p0.length c_p0), (2, .int .i64 0), (3, .int .i64 v_1)] rfl ⟨rfl, rfl, rfl, trivial⟩ ?_
  refine WO_end ?_
  refine WK_seq ?_
  refine WK_seq ?_
  refine WK_region ?_
  refine WO_pure tbok 3 [(2, .int .i64 0), (3, .int .i64 v_1), (9, .slice a_p0 p0.length c_p0), (10, .int .i64 (p0.length : Int)), (11, .int .i64 0)] rfl ⟨rfl, rfl, rfl, rfl, rfl, trivial⟩ ?_
  refine WO_end ?_
  obtain ⟨x4, hx5, hm⟩ := bind_some hm
  refine WK_join (β := Int × Unit) (fun p => p.1 = x4) (fun p => [(2, .int .i64 0), (3, .int .i64 p.1)]) (fun p => St w0 m m []) ?_ (fun hk6 => ?_)
  · rintro ⟨s_4, ⟨⟩⟩ hq12
    subst hq12
    refine WK.sub (e' := [(2, .int .i64 0), (3, .int .i64 s_4)]) ⟨rfl, rfl, trivial⟩ (WK.cls (C' := St w0 m m []) (fun _ h => h) ?_)
    refine WK_seq ?_
    refine WK_region ?_
    refine WO_pure tbok 2 [(2, .int .i64 s_4)] rfl ⟨rfl, trivial⟩ ?_
    refine WO_end ?_
    cases hm
    exact WK_ret (ret_out (L := []) (RLc_tmp rfl RLc_nil) (List.nil_sublist _) rfl)
  · refine WK_block ?_
    refine WK_loop (S := Int × Int) (G := Unit) (fun s => fiduciallaw48_greatest_s1 p0 s.1 s.2) (fun s g => [(2, .int .i64 0), (3, .int .i64 s.1), (9, .slice a_p0 p0.length c_p0), (10, .int .i64 (p0.length : Int)), (11, .int .i64 s.2)]) (fun s g => St w0 m m []) (fun s g => True) FUEL (v_1, 0) () x4 hx5 trivial ⟨rfl, rfl, rfl, rfl, rfl, trivial⟩ (fun _ h => h) ?_
    rintro ⟨s_2, s_3⟩ ⟨⟩ o8 fl9 hm7 - hn10 hd11
    have hm7 : fiduciallaw48_greatest_s1 p0 s_2 s_3 = some o8 := hm7
    unfold fiduciallaw48_greatest_s1 at hm7
    refine WK.sub (e' := [(2, .int .i64 0), (3, .int .i64 s_2), (9, .slice a_p0 p0.length c_p0), (10, .int .i64 (p0.length : Int)), (11, .int .i64 s_3)]) ⟨rfl, rfl, rfl, rfl, rfl, trivial⟩ (WK.cls (C' := St w0 m m []) (fun _ h => h) ?_)
    refine WK_seq ?_
    refine WK_region ?_
    refine WO_pure tbok 1 [(2, .int .i64 0), (3, .int .i64 s_2), (9, .slice a_p0 p0.length c_p0), (10, .int .i64 (p0.length : Int)), (11, .int .i64 s_3), (12, .bool (decide (s_3 < (p0.length : Int))))] rfl ⟨rfl, rfl, rfl, rfl, rfl, rfl, trivial⟩ ?_
    refine WO_end ?_
    refine WK_seq ?_
    refine WK_cond (b := decide (s_3 < (p0.length : Int))) rfl (fun hb13 => ?_) (fun hb13 => ?_)
    · have hm7 := ifT hb13 hm7
      refine WK_skip ?_
      refine WK_seq ?_
      refine WK_block ?_
      refine WK_seq ?_
      refine WK_region ?_
      obtain ⟨v_5, hy14, hm7⟩ := bind_some hm7
      obtain ⟨hc15, hy14⟩ := ix_some hy14
      refine WO_index tbok rfl rfl rfl rfl rfl rfl rfl rfl (SlR.addr h_p0) hc15 ?_
      refine WO_loadE tbok rfl rfl rfl rfl (fun _ h => St.sat h) h_p0 hy14 rfl ?_
      refine WO_pure tbok 1 [(2, .int .i64 0), (3, .int .i64 s_2), (5, .int .i64 v_5), (9, .slice a_p0 p0.length c_p0), (10, .int .i64 (p0.length : Int)), (11, .int .i64 s_3)] rfl ⟨rfl, rfl, rfl, rfl, rfl, rfl, trivial⟩ ?_
      refine WO_end ?_
      refine WK_region ?_
      refine WO_pure tbok 4 [(2, .int .i64 0), (3, .int .i64 (if s_2 < v_5 then v_5 else s_2)), (9, .slice a_p0 p0.length c_p0), (10, .int .i64 (p0.length : Int)), (11, .int .i64 s_3)] rfl ⟨rfl, rfl, rfl, rfl, rfl, trivial⟩ ?_
      refine WO_end ?_
      refine WK_blk ?_
      refine WK_region ?_
      refine WO_pure tbok 2 [(2, .int .i64 0), (3, .int .i64 (if s_2 < v_5 then v_5 else s_2)), (9, .slice a_p0 p0.length c_p0), (10, .int .i64 (p0.length : Int)), (11, .int .i64 (w64 (s_3 + 1)))] rfl ⟨rfl, rfl, rfl, rfl, rfl, trivial⟩ ?_
      refine WO_end ?_
      cases hm7
      refine WK.sub ?_ (WK.cls (fun _ h => h) (hn10 _ () rfl trivial))
      exact ⟨rfl, rfl, rfl, rfl, rfl, trivial⟩
    · have hm7 := ifF hb13 hm7
      refine WK_exit rfl ?_
      cases hm7
      refine WK.sub ?_ (WK.cls (fun _ h => h) (hk6 (s_2, ()) (hd11 _ rfl)))
      exact ⟨rfl, rfl, trivial⟩
def fiduciallaw48_opened_Q (r : Int × Int × Int × Int × Int × List Int) : Value → Mu → List Ent → Prop := fun v m L => ∃ (a0 : Option Addr) (q0 c0 : Nat), v = .agg #[.int .i64 r.1, .int .i64 r.2.1, .int .i64 r.2.2.1, .int .i64 r.2.2.2.1, .int .i64 r.2.2.2.2.1, .slice a0 q0 c0] ∧ SlR (FE (I1 .i64)) 1 m (.slice a0 q0 c0) r.2.2.2.2.2
theorem fiduciallaw48_opened_walk {m : Mu} {p0_0 : Int} {p0_1 : Int} {p0_2 : Int} {p0_3 : Int} {p0_4 : Int} {p0_5 : List Int} {p1 : Int} {a_p0_5 : Option Addr} {q_p0_5 c_p0_5 : Nat} (h_p0_5 : SlR (FE (I1 .i64)) 1 m (.slice a_p0_5 q_p0_5 c_p0_5) p0_5) {r : Int × Int × Int × Int × Int × List Int} (hm : fiduciallaw48_opened p0_0 p0_1 p0_2 p0_3 p0_4 p0_5 p1 = some r) :
    Go.E.Spec Try.prog 30 [.agg #[.int .i64 p0_0, .int .i64 p0_1, .int .i64 p0_2, .int .i64 p0_3, .int .i64 p0_4, .slice a_p0_5 q_p0_5 c_p0_5], .int .i64 p1] m (fiduciallaw48_opened_Q r) := by
  refine Spec_enter Try.func30 rfl rfl rfl (fun w0 => ?_)
  refine WK.sub (e' := [(0, .agg #[.int .i64 p0_0, .int .i64 p0_1, .int .i64 p0_2, .int .i64 p0_3, .int .i64 p0_4, .slice a_p0_5 q_p0_5 c_p0_5]), (1, .int .i64 p1)]) ⟨rfl, rfl, trivial⟩ ?_
  obtain rfl := SlR.qlen h_p0_5
  refine WK.sub (e' := [(0, .agg #[.int .i64 p0_0, .int .i64 p0_1, .int .i64 p0_2, .int .i64 p0_3, .int .i64 p0_4, .slice a_p0_5 p0_5.length c_p0_5]), (1, .int .i64 p1)]) ⟨rfl, rfl, trivial⟩ ?_
  unfold fiduciallaw48_opened at hm
  refine WK_seq ?_
  refine WK_region ?_
  refine WO_box [.int .i64 p0_0, .int .i64 p0_1, .int .i64 p0_2, .int .i64 p0_3, .int .i64 p0_4, .slice a_p0_5 p0_5.length c_p0_5] rfl rfl trivial rfl rfl rfl (fun b2 => ?_)
  refine WO.cls (C' := St w0 m m [[⟨b2, 25, [.int .i64 p0_0, .int .i64 p0_1, .int .i64 p0_2, .int .i64 p0_3, .int .i64 p0_4, .slice a_p0_5 p0_5.length c_p0_5]⟩]]) (fun _ h => h) ?_
  refine WO_alloc tbok [.int .i64 0, .int .i64 0, .int .i64 0, .int .i64 0, .int .i64 0, .slice none 0 0] rfl rfl trivial rfl rfl rfl rfl (fun b3 => ?_)
  refine WO.cls (C' := St w0 m m [[⟨b2, 25, [.int .i64 p0_0, .int .i64 p0_1, .int .i64 p0_2, .int .i64 p0_3, .int .i64 p0_4, .slice a_p0_5 p0_5.length c_p0_5]⟩], [⟨b3, 25, [.int .i64 0, .int .i64 0, .int .i64 0, .int .i64 0, .int .i64 0, .slice none 0 0]⟩]]) (fun _ h => h) ?_
  refine WO_end ?_
  refine WK_seq ?_
  refine WK_region ?_
  refine WO_loadB tbok 0 rfl rfl rfl rfl (fun _ h => h) rfl rfl ?_
  refine WO_pure tbok 1 [(1, .int .i64 p1), (4, .pointer (some ⟨b3, 0, none⟩)), (5, .agg #[.int .i64 p0_0, .int .i64 p0_1, .int .i64 p0_2, .int .i64 p0_3, .int .i64 p0_4, .slice a_p0_5 p0_5.length c_p0_5]), (6, .int .i64 p1)] rfl ⟨rfl, rfl, rfl, rfl, trivial⟩ ?_
  obtain ⟨⟨y_2, y_3, y_4, y_5, y_6, y_7⟩, hc5, hm⟩ := bind_some hm
  refine WO_call2 (fiduciallaw48_filtered_Q (y_2, y_3, y_4, y_5, y_6, y_7)) rfl rfl trivial rfl rfl rfl rfl ⟨27, #[], #[], rfl, callable_27, fiduciallaw48_filtered_walk h_p0_5 (fun m1 hm1 _ _ _ z_1 h4 _ h => specV_cap callable_28 (fiduciallaw48_least_walk h4 h)) hc5⟩ (fun v10 m11 L9 hle12 hq => ?_)
  obtain ⟨a6, qa6, c7, rfl, h13⟩ := hq
  obtain rfl := SlR.qlen h13
  refine WO.cls (C' := St w0 m m11 [[⟨b2, 25, [.int .i64 p0_0, .int .i64 p0_1, .int .i64 p0_2, .int .i64 p0_3, .int .i64 p0_4, .slice a_p0_5 p0_5.length c_p0_5]⟩], [⟨b3, 25, [.int .i64 0, .int .i64 0, .int .i64 0, .int .i64 0, .int .i64 0, .slice none 0 0]⟩], L9]) (fun _ h => h.sub (by simp)) ?_
  refine WO_pure tbok 1 [(4, .pointer (some ⟨b3, 0, none⟩)), (7, .agg #[.int .i64 y_2, .int .i64 y_3, .int .i64 y_4, .int .i64 y_5, .int .i64 y_6, .slice a6 ((y_7).length) c7]), (8, .int .i64 p1)] rfl ⟨rfl, rfl, rfl, trivial⟩ ?_
  obtain ⟨⟨y_9, y_10, y_11, y_12, y_13, y_14⟩, hc15, hm⟩ := bind_some hm
  refine WO_call2 (fiduciallaw48_filtered_Q (y_9, y_10, y_11, y_12, y_13, y_14)) rfl rfl trivial rfl rfl rfl rfl ⟨27, #[], #[], rfl, callable_27, fiduciallaw48_filtered_walk h13 (fun m1 hm1 _ _ _ z_8 h14 _ h => specV_cap callable_29 (fiduciallaw48_greatest_walk h14 h)) hc15⟩ (fun v20 m21 L19 hle22 hq => ?_)
  obtain ⟨a16, qa16, c17, rfl, h23⟩ := hq
  obtain rfl := SlR.qlen h23
  refine WO.cls (C' := St w0 m m21 [[⟨b2, 25, [.int .i64 p0_0, .int .i64 p0_1, .int .i64 p0_2, .int .i64 p0_3, .int .i64 p0_4, .slice a_p0_5 p0_5.length c_p0_5]⟩], [⟨b3, 25, [.int .i64 0, .int .i64 0, .int .i64 0, .int .i64 0, .int .i64 0, .slice none 0 0]⟩], L9, L19]) (fun _ h => h.sub (by simp)) ?_
  refine WO_storeB tbok 1 [.int .i64 y_9, .int .i64 y_10, .int .i64 y_11, .int .i64 y_12, .int .i64 y_13, .slice a16 ((y_14).length) c17] rfl rfl rfl rfl rfl rfl rfl ?_
  refine WO.cls (C' := St w0 m m21 [[⟨b2, 25, [.int .i64 p0_0, .int .i64 p0_1, .int .i64 p0_2, .int .i64 p0_3, .int .i64 p0_4, .slice a_p0_5 p0_5.length c_p0_5]⟩], [⟨b3, 25, [.int .i64 y_9, .int .i64 y_10, .int .i64 y_11, .int .i64 y_12, .int .i64 y_13, .slice a16 ((y_14).length) c17]⟩], L9, L19]) (fun _ h => h) ?_
  refine WO_end ?_
  cases hm
  exact WK_ret (ret_out (L := []) (RLc_cell tbok 1 rfl rfl rfl RLc_nil) (List.nil_sublist _) ⟨a16, _, c17, rfl, h23⟩)
def fiduciallaw48_ground_Q (r : List Bool × Int) : Value → List Ent → Prop := fun v L => ∃ (a0 : Option Addr) (q0 c0 : Nat), v = .tuple #[.slice a0 q0 c0, .int .i64 r.2] ∧ OwnE 4 1 B1 (.slice a0 q0 c0) r.1 L
theorem fiduciallaw48_ground_walk {m : Mu} {p0_0 : Int} {p0_1 : Int} {p0_2 : Int} {p0_3 : Int} {p0_4 : Int} {p0_5 : List Int} {p1 : List Int} {p2 : List Int} {a_p0_5 : Option Addr} {q_p0_5 c_p0_5 : Nat} {a_p1 : Option Addr} {q_p1 c_p1 : Nat} {a_p2 : Option Addr} {q_p2 c_p2 : Nat} (h_p0_5 : SlR (FE (I1 .i64)) 1 m (.slice a_p0_5 q_p0_5 c_p0_5) p0_5) (h_p1 : SlR (FE (I1 .i64)) 1 m (.slice a_p1 q_p1 c_p1) p1) (h_p2 : SlR (FE (I1 .i64)) 1 m (.slice a_p2 q_p2 c_p2) p2) {r : List Bool × Int} (hm : fiduciallaw48_ground p0_0 p0_1 p0_2 p0_3 p0_4 p0_5 p1 p2 = some r) :
    Go.E.Spec Try.prog 19 [.agg #[.int .i64 p0_0, .int .i64 p0_1, .int .i64 p0_2, .int .i64 p0_3, .int .i64 p0_4, .slice a_p0_5 q_p0_5 c_p0_5], .slice a_p1 q_p1 c_p1, .slice a_p2 q_p2 c_p2] m (fun v _ L => fiduciallaw48_ground_Q r v L) := by
  refine Spec_enter Try.func19 rfl rfl rfl (fun w0 => ?_)
  refine WK.sub (e' := [(0, .agg #[.int .i64 p0_0, .int .i64 p0_1, .int .i64 p0_2, .int .i64 p0_3, .int .i64 p0_4, .slice a_p0_5 q_p0_5 c_p0_5]), (1, .slice a_p1 q_p1 c_p1), (2, .slice a_p2 q_p2 c_p2)]) ⟨rfl, rfl, rfl, trivial⟩ ?_
  obtain rfl := SlR.qlen h_p0_5
  obtain rfl := SlR.qlen h_p1
  obtain rfl := SlR.qlen h_p2
  refine WK.sub (e' := [(0, .agg #[.int .i64 p0_0, .int .i64 p0_1, .int .i64 p0_2, .int .i64 p0_3, .int .i64 p0_4, .slice a_p0_5 p0_5.length c_p0_5]), (1, .slice a_p1 p1.length c_p1), (2, .slice a_p2 p2.length c_p2)]) ⟨rfl, rfl, rfl, trivial⟩ ?_
  unfold fiduciallaw48_ground at hm
  refine WK_seq ?_
  refine WK_region ?_
  refine WO_box [.int .i64 p0_0, .int .i64 p0_1, .int .i64 p0_2, .int .i64 p0_3, .int .i64 p0_4, .slice a_p0_5 p0_5.length c_p0_5] rfl rfl trivial rfl rfl rfl (fun b4 => ?_)
  refine WO.cls (C' := St w0 m m [[⟨b4, 25, [.int .i64 p0_0, .int .i64 p0_1, .int .i64 p0_2, .int .i64 p0_3, .int .i64 p0_4, .slice a_p0_5 p0_5.length c_p0_5]⟩]]) (fun _ h => h) ?_
  refine WO_pure tbok 2 [(1, .slice a_p1 p1.length c_p1), (2, .slice a_p2 p2.length c_p2), (3, .pointer (some ⟨b4, 0, none⟩)), (6, .slice none 0 0), (7, .int .i64 0)] rfl ⟨rfl, rfl, rfl, rfl, rfl, trivial⟩ ?_
  refine WO_end ?_
  refine WK_seq ?_
  refine WK_seq ?_
  refine WK_region ?_
  refine WO_loadB tbok 0 rfl rfl rfl rfl (fun _ h => h) rfl rfl ?_
  obtain ⟨y_1, hc5, hm⟩ := bind_some hm
  refine WO_call0 (.int .i64 y_1) rfl rfl trivial rfl rfl rfl rfl St_closed ⟨17, #[], #[], rfl, callable_17, fun w hw => ⟨_, hw.sat, fiduciallaw48_checked_walk h_p0_5 hc5⟩⟩ ?_
  refine WO_pure tbok 1 [(1, .slice a_p1 p1.length c_p1), (2, .slice a_p2 p2.length c_p2), (3, .pointer (some ⟨b4, 0, none⟩)), (6, .slice none 0 0), (7, .int .i64 0), (8, .int .i64 y_1)] rfl ⟨rfl, rfl, rfl, rfl, rfl, rfl, trivial⟩ ?_
  refine WO_end ?_
  refine WK_seq ?_
  refine WK_region ?_
  refine WO_pure tbok 2 [(1, .slice a_p1 p1.length c_p1), (2, .slice a_p2 p2.length c_p2), (3, .pointer (some ⟨b4, 0, none⟩)), (6, .slice none 0 0), (7, .int .i64 0), (8, .int .i64 y_1), (21, .bool (y_1 != 0))] rfl ⟨rfl, rfl, rfl, rfl, rfl, rfl, rfl, trivial⟩ ?_
  refine WO_end ?_
  refine WK_cond (b := y_1 != 0) rfl (fun hb6 => ?_) (fun hb6 => ?_)
  · have hm := ifT hb6 hm
    refine WK_seq ?_
    refine WK_region ?_
    refine WO_pure tbok 3 [(1, .slice a_p1 p1.length c_p1), (2, .slice a_p2 p2.length c_p2), (3, .pointer (some ⟨b4, 0, none⟩)), (6, .slice none 0 0), (7, .int .i64 y_1)] rfl ⟨rfl, rfl, rfl, rfl, rfl, trivial⟩ ?_
    refine WO_end ?_
    cases hm
    exact WK_ret (ret_out (L := []) (RLc_tmp rfl (RLc_tmp rfl RLc_nil)) (List.nil_sublist _) ⟨none, 0, 0, rfl, (OwnE.nil none)⟩)
  · have hm := ifF hb6 hm
    refine WK_skip ?_
    refine WK_seq ?_
    refine WK_seq ?_
    refine WK_region ?_
    refine WO_pure tbok 5 [(1, .slice a_p1 p1.length c_p1), (2, .slice a_p2 p2.length c_p2), (3, .pointer (some ⟨b4, 0, none⟩)), (6, .slice none 0 0), (7, .int .i64 0), (27, .bool ((p1.length : Int) != (p2.length : Int)))] rfl ⟨rfl, rfl, rfl, rfl, rfl, rfl, trivial⟩ ?_
    refine WO_end ?_
    refine WK_cond (b := (p1.length : Int) != (p2.length : Int)) rfl (fun hb7 => ?_) (fun hb7 => ?_)
    · have hm := ifT hb7 hm
      refine WK_seq ?_
      refine WK_region ?_
      refine WO_pure tbok 2 [(1, .slice a_p1 p1.length c_p1), (2, .slice a_p2 p2.length c_p2), (3, .pointer (some ⟨b4, 0, none⟩)), (6, .slice none 0 0), (7, .int .i64 4)] rfl ⟨rfl, rfl, rfl, rfl, rfl, trivial⟩ ?_
      refine WO_end ?_
      cases hm
      exact WK_ret (ret_out (L := []) (RLc_tmp rfl (RLc_tmp rfl RLc_nil)) (List.nil_sublist _) ⟨none, 0, 0, rfl, (OwnE.nil none)⟩)
    · have hm := ifF hb7 hm
      refine WK_skip ?_
      refine WK_seq ?_
      refine WK_seq ?_
      obtain ⟨s_2, hx8, hm⟩ := bind_some hm
      refine WK_meet [(1, .slice a_p1 p1.length c_p1), (2, .slice a_p2 p2.length c_p2), (3, .pointer (some ⟨b4, 0, none⟩)), (6, .slice none 0 0), (7, .int .i64 0), (35, .bool s_2)] (St w0 m m [[⟨b4, 25, [.int .i64 p0_0, .int .i64 p0_1, .int .i64 p0_2, .int .i64 p0_3, .int .i64 p0_4, .slice a_p0_5 p0_5.length c_p0_5]⟩]]) ?_ (fun hk9 => ?_)
      · refine WK_cond (b := s_2) rfl (fun hb10 => ?_) (fun hb10 => ?_)
        · have hm := ifT hb10 hm
          refine WK_seq ?_
          refine WK_region ?_
          refine WO_pure tbok 2 [(1, .slice a_p1 p1.length c_p1), (2, .slice a_p2 p2.length c_p2), (3, .pointer (some ⟨b4, 0, none⟩)), (6, .slice none 0 0), (7, .int .i64 2)] rfl ⟨rfl, rfl, rfl, rfl, rfl, trivial⟩ ?_
          refine WO_end ?_
          cases hm
          exact WK_ret (ret_out (L := []) (RLc_tmp rfl (RLc_tmp rfl RLc_nil)) (List.nil_sublist _) ⟨none, 0, 0, rfl, (OwnE.nil none)⟩)
        · have hm := ifF hb10 hm
          refine WK_skip ?_
          refine WK_seq ?_
          refine WK_seq ?_
          refine WK_region ?_
          refine WO_pure tbok 3 [(1, .slice a_p1 p1.length c_p1), (2, .slice a_p2 p2.length c_p2), (3, .pointer (some ⟨b4, 0, none⟩)), (6, .slice none 0 0), (7, .int .i64 0), (37, .int .i64 (p1.length : Int)), (38, .int .i64 0)] rfl ⟨rfl, rfl, rfl, rfl, rfl, rfl, rfl, trivial⟩ ?_
          refine WO_end ?_
          obtain ⟨x11, hx12, hm⟩ := bind_some hm
          refine WK_join (β := Unit × Unit) (fun p => Sum.inr p.1 = x11) (fun p => [(1, .slice a_p1 p1.length c_p1), (2, .slice a_p2 p2.length c_p2), (3, .pointer (some ⟨b4, 0, none⟩)), (6, .slice none 0 0), (7, .int .i64 0)]) (fun p => St w0 m m [[⟨b4, 25, [.int .i64 p0_0, .int .i64 p0_1, .int .i64 p0_2, .int .i64 p0_3, .int .i64 p0_4, .slice a_p0_5 p0_5.length c_p0_5]⟩]]) ?_ (fun hk13 => ?_)
          · rintro ⟨⟨⟩, ⟨⟩⟩ hq19
            subst hq19
            refine WK.sub (e' := [(1, .slice a_p1 p1.length c_p1), (2, .slice a_p2 p2.length c_p2), (3, .pointer (some ⟨b4, 0, none⟩)), (6, .slice none 0 0), (7, .int .i64 0)]) ⟨rfl, rfl, rfl, rfl, rfl, trivial⟩ (WK.cls (C' := St w0 m m [[⟨b4, 25, [.int .i64 p0_0, .int .i64 p0_1, .int .i64 p0_2, .int .i64 p0_3, .int .i64 p0_4, .slice a_p0_5 p0_5.length c_p0_5]⟩]]) (fun _ h => h) ?_)
            refine WK_seq ?_
            refine WK_seq ?_
            refine WK_region ?_
            refine WO_pure tbok 1 [(1, .slice a_p1 p1.length c_p1), (2, .slice a_p2 p2.length c_p2), (3, .pointer (some ⟨b4, 0, none⟩)), (6, .slice none 0 0), (7, .int .i64 0), (10, .int .i64 1)] rfl ⟨rfl, rfl, rfl, rfl, rfl, rfl, trivial⟩ ?_
            refine WO_end ?_
            obtain ⟨x20, hx21, hm⟩ := bind_some hm
            refine WK_join (β := Unit × Unit) (fun p => Sum.inr p.1 = x20) (fun p => [(1, .slice a_p1 p1.length c_p1), (2, .slice a_p2 p2.length c_p2), (3, .pointer (some ⟨b4, 0, none⟩)), (6, .slice none 0 0), (7, .int .i64 0)]) (fun p => St w0 m m [[⟨b4, 25, [.int .i64 p0_0, .int .i64 p0_1, .int .i64 p0_2, .int .i64 p0_3, .int .i64 p0_4, .slice a_p0_5 p0_5.length c_p0_5]⟩]]) ?_ (fun hk22 => ?_)
            · rintro ⟨⟨⟩, ⟨⟩⟩ hq28
              subst hq28
              refine WK.sub (e' := [(1, .slice a_p1 p1.length c_p1), (2, .slice a_p2 p2.length c_p2), (3, .pointer (some ⟨b4, 0, none⟩)), (6, .slice none 0 0), (7, .int .i64 0)]) ⟨rfl, rfl, rfl, rfl, rfl, trivial⟩ (WK.cls (C' := St w0 m m [[⟨b4, 25, [.int .i64 p0_0, .int .i64 p0_1, .int .i64 p0_2, .int .i64 p0_3, .int .i64 p0_4, .slice a_p0_5 p0_5.length c_p0_5]⟩]]) (fun _ h => h) ?_)
              refine WK_seq ?_
              refine WK_region ?_
              refine WO_pure tbok 1 [(1, .slice a_p1 p1.length c_p1), (2, .slice a_p2 p2.length c_p2), (3, .pointer (some ⟨b4, 0, none⟩)), (6, .slice none 0 0), (7, .int .i64 0), (11, .slice none 0 0)] rfl ⟨rfl, rfl, rfl, rfl, rfl, rfl, trivial⟩ ?_
              refine WO_end ?_
              refine WK_seq ?_
              refine WK_seq ?_
              refine WK_region ?_
              refine WO_pure tbok 1 [(1, .slice a_p1 p1.length c_p1), (2, .slice a_p2 p2.length c_p2), (3, .pointer (some ⟨b4, 0, none⟩)), (6, .slice none 0 0), (7, .int .i64 0), (11, .slice none 0 0), (84, .pointer (some ⟨b4, 5, none⟩))] rfl ⟨rfl, rfl, rfl, rfl, rfl, rfl, rfl, trivial⟩ ?_
              refine WO_loadB tbok 0 rfl rfl rfl rfl (fun _ h => h) rfl rfl ?_
              refine WO_pure tbok 2 [(1, .slice a_p1 p1.length c_p1), (2, .slice a_p2 p2.length c_p2), (3, .pointer (some ⟨b4, 0, none⟩)), (6, .slice none 0 0), (7, .int .i64 0), (11, .slice none 0 0), (85, .slice a_p0_5 p0_5.length c_p0_5), (86, .int .i64 (p0_5.length : Int)), (87, .int .i64 0)] rfl ⟨rfl, rfl, rfl, rfl, rfl, rfl, rfl, rfl, rfl, trivial⟩ ?_
              refine WO_end ?_
              refine WK_pad ?_
              obtain ⟨x40, hx41, hm⟩ := bind_some hm
              refine WK_join (β := (List Bool) × (Option Addr × Nat × Nat × List Ent)) (fun p => p.1 = x40 ∧ OwnE 4 1 B1 (.slice p.2.1 p.2.2.1 p.2.2.2.1) p.1 p.2.2.2.2) (fun p => [(1, .slice a_p1 p1.length c_p1), (2, .slice a_p2 p2.length c_p2), (3, .pointer (some ⟨b4, 0, none⟩)), (6, .slice none 0 0), (7, .int .i64 0), (11, .slice p.2.1 p.2.2.1 p.2.2.2.1)]) (fun p => St w0 m m [[⟨b4, 25, [.int .i64 p0_0, .int .i64 p0_1, .int .i64 p0_2, .int .i64 p0_3, .int .i64 p0_4, .slice a_p0_5 p0_5.length c_p0_5]⟩], p.2.2.2.2]) ?_ (fun hk42 => ?_)
              · rintro ⟨l_7, ⟨a37, q38, c39, L36⟩⟩ ⟨hq48, hL36⟩
                subst hq48
                have hqq : q38 = l_7.length := OwnE.qlen hL36
                subst hqq
                refine WK.sub (e' := [(1, .slice a_p1 p1.length c_p1), (2, .slice a_p2 p2.length c_p2), (3, .pointer (some ⟨b4, 0, none⟩)), (6, .slice none 0 0), (7, .int .i64 0), (11, .slice a37 ((l_7).length) c39)]) ⟨rfl, rfl, rfl, rfl, rfl, rfl, trivial⟩ (WK.cls (C' := St w0 m m [[⟨b4, 25, [.int .i64 p0_0, .int .i64 p0_1, .int .i64 p0_2, .int .i64 p0_3, .int .i64 p0_4, .slice a_p0_5 p0_5.length c_p0_5]⟩], L36]) (fun _ h => h) ?_)
                refine WK_seq ?_
                refine WK_seq ?_
                refine WK_region ?_
                refine WO_pure tbok 3 [(2, .slice a_p2 p2.length c_p2), (3, .pointer (some ⟨b4, 0, none⟩)), (6, .slice none 0 0), (7, .int .i64 0), (11, .slice a37 ((l_7).length) c39), (97, .slice a_p1 p1.length c_p1), (98, .int .i64 (p1.length : Int)), (99, .int .i64 0)] rfl ⟨rfl, rfl, rfl, rfl, rfl, rfl, rfl, rfl, trivial⟩ ?_
                refine WO_end ?_
                obtain ⟨x67, hx68, hm⟩ := bind_some hm
                refine WK_join (β := (List Bool × Int × Int × Int × Int × Int × List Int) × (Mu × List Ent × Option Addr × Nat × Nat)) (fun p => p.1 = x67 ∧ Le m p.2.1 ∧ OwnE 4 1 B1 (.slice a37 ((l_7).length) c39) p.1.1 p.2.2.1 ∧ SlR (FE (I1 .i64)) 1 p.2.1 (.slice p.2.2.2.1 p.2.2.2.2.1 p.2.2.2.2.2) p.1.2.2.2.2.2.2) (fun p => [(6, .slice none 0 0), (7, .int .i64 0), (11, .slice a37 ((l_7).length) c39)]) (fun p => St w0 m p.2.1 [[⟨b4, 25, [.int .i64 p.1.2.1, .int .i64 p.1.2.2.1, .int .i64 p.1.2.2.2.1, .int .i64 p.1.2.2.2.2.1, .int .i64 p.1.2.2.2.2.2.1, .slice p.2.2.2.1 p.2.2.2.2.1 p.2.2.2.2.2]⟩], p.2.2.1]) ?_ (fun hk69 => ?_)
                · rintro ⟨⟨l_16, s_17, s_18, s_19, s_20, s_21, l_22⟩, ⟨m58, L61, a62, q63, c64⟩⟩ ⟨hq75, hle59, hL61, h65⟩
                  subst hq75
                  have hqq : q63 = l_22.length := SlR.qlen h65
                  subst hqq
                  refine WK.sub (e' := [(6, .slice none 0 0), (7, .int .i64 0), (11, .slice a37 ((l_7).length) c39)]) ⟨rfl, rfl, rfl, trivial⟩ (WK.cls (C' := St w0 m m58 [[⟨b4, 25, [.int .i64 s_17, .int .i64 s_18, .int .i64 s_19, .int .i64 s_20, .int .i64 s_21, .slice a62 ((l_22).length) c64]⟩], L61]) (fun _ h => h) ?_)
                  refine WK_seq ?_
                  refine WK_region ?_
                  refine WO_pure tbok 3 [(6, .slice a37 ((l_7).length) c39), (7, .int .i64 0)] rfl ⟨rfl, rfl, trivial⟩ ?_
                  refine WO_end ?_
                  cases hm
                  exact WK_ret (ret_out (L := L61) (RLc_tmp rfl (RLc_tmp rfl RLc_nil)) (seg_sub 1 rfl) ⟨a37, _, c39, rfl, hL61⟩)
                · refine WK_block ?_
                  refine WK_loop (S := List Bool × Int × Int × Int × Int × Int × Int × List Int) (G := Mu × List Ent × Option Addr × Nat × Nat) (fun s => fiduciallaw48_ground_s4 p1 p2 l_7 s.1 s.2.1 s.2.2.1 s.2.2.2.1 s.2.2.2.2.1 s.2.2.2.2.2.1 s.2.2.2.2.2.2.1 s.2.2.2.2.2.2.2) (fun s g => [(2, .slice a_p2 p2.length c_p2), (3, .pointer (some ⟨b4, 0, none⟩)), (6, .slice none 0 0), (7, .int .i64 0), (11, .slice a37 ((l_7).length) c39), (97, .slice a_p1 p1.length c_p1), (98, .int .i64 (p1.length : Int)), (99, .int .i64 s.2.1)]) (fun s g => St w0 m g.1 [[⟨b4, 25, [.int .i64 s.2.2.1, .int .i64 s.2.2.2.1, .int .i64 s.2.2.2.2.1, .int .i64 s.2.2.2.2.2.1, .int .i64 s.2.2.2.2.2.2.1, .slice g.2.2.1 g.2.2.2.1 g.2.2.2.2]⟩], g.2.1]) (fun s g => Le m g.1 ∧ OwnE 4 1 B1 (.slice a37 ((l_7).length) c39) s.1 g.2.1 ∧ SlR (FE (I1 .i64)) 1 g.1 (.slice g.2.2.1 g.2.2.2.1 g.2.2.2.2) s.2.2.2.2.2.2.2) FUEL (l_7, 0, p0_0, p0_1, p0_2, p0_3, p0_4, p0_5) (m, L36, a_p0_5, p0_5.length, c_p0_5) x67 hx68 ⟨(Le.refl _), hL36, h_p0_5⟩ ⟨rfl, rfl, rfl, rfl, rfl, rfl, rfl, rfl, trivial⟩ (fun _ h => h) ?_
                  rintro ⟨l_8, s_9, s_10, s_11, s_12, s_13, s_14, l_15⟩ ⟨m49, L52, a53, q54, c55⟩ o71 fl72 hm70 ⟨hle50, hL52, h56⟩ hn73 hd74
                  have hm70 : fiduciallaw48_ground_s4 p1 p2 l_7 l_8 s_9 s_10 s_11 s_12 s_13 s_14 l_15 = some o71 := hm70
                  unfold fiduciallaw48_ground_s4 at hm70
                  have hqq : q54 = l_15.length := SlR.qlen h56
                  subst hqq
                  refine WK.sub (e' := [(2, .slice a_p2 p2.length c_p2), (3, .pointer (some ⟨b4, 0, none⟩)), (6, .slice none 0 0), (7, .int .i64 0), (11, .slice a37 ((l_7).length) c39), (97, .slice a_p1 p1.length c_p1), (98, .int .i64 (p1.length : Int)), (99, .int .i64 s_9)]) ⟨rfl, rfl, rfl, rfl, rfl, rfl, rfl, rfl, trivial⟩ (WK.cls (C' := St w0 m m49 [[⟨b4, 25, [.int .i64 s_10, .int .i64 s_11, .int .i64 s_12, .int .i64 s_13, .int .i64 s_14, .slice a53 ((l_15).length) c55]⟩], L52]) (fun _ h => h) ?_)
                  refine WK_seq ?_
                  refine WK_region ?_
                  refine WO_pure tbok 1 [(2, .slice a_p2 p2.length c_p2), (3, .pointer (some ⟨b4, 0, none⟩)), (6, .slice none 0 0), (7, .int .i64 0), (11, .slice a37 ((l_7).length) c39), (97, .slice a_p1 p1.length c_p1), (98, .int .i64 (p1.length : Int)), (99, .int .i64 s_9), (100, .bool (decide (s_9 < (p1.length : Int))))] rfl ⟨rfl, rfl, rfl, rfl, rfl, rfl, rfl, rfl, rfl, trivial⟩ ?_
                  refine WO_end ?_
                  refine WK_seq ?_
                  refine WK_cond (b := decide (s_9 < (p1.length : Int))) rfl (fun hb76 => ?_) (fun hb76 => ?_)
                  · have hm70 := ifT hb76 hm70
                    refine WK_skip ?_
                    refine WK_seq ?_
                    refine WK_block ?_
                    refine WK_seq ?_
                    refine WK_region ?_
                    refine WO_pure tbok 1 [(2, .slice a_p2 p2.length c_p2), (3, .pointer (some ⟨b4, 0, none⟩)), (6, .slice none 0 0), (7, .int .i64 0), (11, .slice a37 ((l_7).length) c39), (97, .slice a_p1 p1.length c_p1), (98, .int .i64 (p1.length : Int)), (99, .int .i64 s_9), (101, .int .i64 s_9)] rfl ⟨rfl, rfl, rfl, rfl, rfl, rfl, rfl, rfl, rfl, trivial⟩ ?_
                    obtain ⟨v_23, hy77, hm70⟩ := bind_some hm70
                    obtain ⟨hc78, hy77⟩ := ix_some hy77
                    refine WO_index tbok rfl rfl rfl rfl rfl rfl rfl rfl (SlR.addr (h_p1.mono (mono_FE _) hle50)) hc78 ?_
                    refine WO_loadE tbok rfl rfl rfl rfl (fun _ h => St.sat h) (h_p1.mono (mono_FE _) hle50) hy77 rfl ?_
                    refine WO_pure tbok 2 [(2, .slice a_p2 p2.length c_p2), (3, .pointer (some ⟨b4, 0, none⟩)), (6, .slice none 0 0), (7, .int .i64 0), (11, .slice a37 ((l_7).length) c39), (14, .int .i64 s_9), (15, .int .i64 v_23), (97, .slice a_p1 p1.length c_p1), (98, .int .i64 (p1.length : Int)), (99, .int .i64 s_9)] rfl ⟨rfl, rfl, rfl, rfl, rfl, rfl, rfl, rfl, rfl, rfl, trivial⟩ ?_
                    refine WO_end ?_
                    refine WK_seq ?_
                    refine WK_region ?_
                    refine WO_loadB tbok 0 rfl rfl rfl rfl (fun _ h => h) rfl rfl ?_
                    refine WO_pure tbok 1 [(2, .slice a_p2 p2.length c_p2), (3, .pointer (some ⟨b4, 0, none⟩)), (6, .slice none 0 0), (7, .int .i64 0), (11, .slice a37 ((l_7).length) c39), (14, .int .i64 s_9), (97, .slice a_p1 p1.length c_p1), (98, .int .i64 (p1.length : Int)), (99, .int .i64 s_9), (104, .agg #[.int .i64 s_10, .int .i64 s_11, .int .i64 s_12, .int .i64 s_13, .int .i64 s_14, .slice a53 ((l_15).length) c55]), (105, .int .i64 v_23)] rfl ⟨rfl, rfl, rfl, rfl, rfl, rfl, rfl, rfl, rfl, rfl, rfl, trivial⟩ ?_
                    obtain ⟨⟨y_24, y_25, y_26, y_27, y_28, y_29⟩, hc79, hm70⟩ := bind_some hm70
                    refine WO_call2 (fiduciallaw48_opened_Q (y_24, y_25, y_26, y_27, y_28, y_29)) rfl rfl trivial rfl rfl rfl rfl ⟨30, #[], #[], rfl, callable_30, fiduciallaw48_opened_walk h56 hc79⟩ (fun v84 m85 L83 hle86 hq => ?_)
                    obtain ⟨a80, qa80, c81, rfl, h87⟩ := hq
                    obtain rfl := SlR.qlen h87
                    refine WO.cls (C' := St w0 m m85 [[⟨b4, 25, [.int .i64 s_10, .int .i64 s_11, .int .i64 s_12, .int .i64 s_13, .int .i64 s_14, .slice a53 ((l_15).length) c55]⟩], L52, L83]) (fun _ h => h.sub (by simp)) ?_
                    refine WO_alloc tbok [.int .i64 0, .int .i64 0, .int .i64 0, .int .i64 0, .int .i64 0, .slice none 0 0] rfl rfl trivial rfl rfl rfl rfl (fun b88 => ?_)
                    refine WO.cls (C' := St w0 m m85 [[⟨b4, 25, [.int .i64 s_10, .int .i64 s_11, .int .i64 s_12, .int .i64 s_13, .int .i64 s_14, .slice a53 ((l_15).length) c55]⟩], L52, L83, [⟨b88, 25, [.int .i64 0, .int .i64 0, .int .i64 0, .int .i64 0, .int .i64 0, .slice none 0 0]⟩]]) (fun _ h => h) ?_
                    refine WO_storeB tbok 3 [.int .i64 y_24, .int .i64 y_25, .int .i64 y_26, .int .i64 y_27, .int .i64 y_28, .slice a80 ((y_29).length) c81] rfl rfl rfl rfl rfl rfl rfl ?_
                    refine WO.cls (C' := St w0 m m85 [[⟨b4, 25, [.int .i64 s_10, .int .i64 s_11, .int .i64 s_12, .int .i64 s_13, .int .i64 s_14, .slice a53 ((l_15).length) c55]⟩], L52, L83, [⟨b88, 25, [.int .i64 y_24, .int .i64 y_25, .int .i64 y_26, .int .i64 y_27, .int .i64 y_28, .slice a80 ((y_29).length) c81]⟩]]) (fun _ h => h) ?_
                    refine WO_end ?_
                    refine WK_seq ?_
                    refine WK_seq ?_
                    refine WK_region ?_
                    refine WO_pure tbok 3 [(2, .slice a_p2 p2.length c_p2), (3, .pointer (some ⟨b4, 0, none⟩)), (6, .slice none 0 0), (7, .int .i64 0), (11, .slice a37 ((l_7).length) c39), (14, .int .i64 s_9), (16, .pointer (some ⟨b88, 0, none⟩)), (97, .slice a_p1 p1.length c_p1), (98, .int .i64 (p1.length : Int)), (99, .int .i64 s_9), (108, .int .i64 ((l_7).length : Int)), (109, .int .i64 0)] rfl ⟨rfl, rfl, rfl, rfl, rfl, rfl, rfl, rfl, rfl, rfl, rfl, rfl, trivial⟩ ?_
                    refine WO_end ?_
                    obtain ⟨x93, hx94, hm70⟩ := bind_some hm70
                    refine WK_join (β := (List Bool) × (List Ent)) (fun p => p.1 = x93 ∧ OwnE 4 1 B1 (.slice a37 ((l_7).length) c39) p.1 p.2) (fun p => [(2, .slice a_p2 p2.length c_p2), (3, .pointer (some ⟨b4, 0, none⟩)), (6, .slice none 0 0), (7, .int .i64 0), (11, .slice a37 ((l_7).length) c39), (16, .pointer (some ⟨b88, 0, none⟩)), (97, .slice a_p1 p1.length c_p1), (98, .int .i64 (p1.length : Int)), (99, .int .i64 s_9)]) (fun p => St w0 m m85 [[⟨b4, 25, [.int .i64 s_10, .int .i64 s_11, .int .i64 s_12, .int .i64 s_13, .int .i64 s_14, .slice a53 ((l_15).length) c55]⟩], p.2, L83, [⟨b88, 25, [.int .i64 y_24, .int .i64 y_25, .int .i64 y_26, .int .i64 y_27, .int .i64 y_28, .slice a80 ((y_29).length) c81]⟩]]) ?_ (fun hk95 => ?_)
                    · rintro ⟨l_32, L92⟩ ⟨hq101, hL92⟩
                      subst hq101
                      refine WK.sub (e' := [(2, .slice a_p2 p2.length c_p2), (3, .pointer (some ⟨b4, 0, none⟩)), (6, .slice none 0 0), (7, .int .i64 0), (11, .slice a37 ((l_7).length) c39), (16, .pointer (some ⟨b88, 0, none⟩)), (97, .slice a_p1 p1.length c_p1), (98, .int .i64 (p1.length : Int)), (99, .int .i64 s_9)]) ⟨rfl, rfl, rfl, rfl, rfl, rfl, rfl, rfl, rfl, trivial⟩ (WK.cls (C' := St w0 m m85 [[⟨b4, 25, [.int .i64 s_10, .int .i64 s_11, .int .i64 s_12, .int .i64 s_13, .int .i64 s_14, .slice a53 ((l_15).length) c55]⟩], L92, L83, [⟨b88, 25, [.int .i64 y_24, .int .i64 y_25, .int .i64 y_26, .int .i64 y_27, .int .i64 y_28, .slice a80 ((y_29).length) c81]⟩]]) (fun _ h => h) ?_)
                      refine WK_region ?_
                      refine WO_loadB tbok 3 rfl rfl rfl rfl (fun _ h => h) rfl rfl ?_
                      refine WO_storeB tbok 0 [.int .i64 y_24, .int .i64 y_25, .int .i64 y_26, .int .i64 y_27, .int .i64 y_28, .slice a80 ((y_29).length) c81] rfl rfl rfl rfl rfl rfl rfl ?_
                      refine WO.cls (C' := St w0 m m85 [[⟨b4, 25, [.int .i64 y_24, .int .i64 y_25, .int .i64 y_26, .int .i64 y_27, .int .i64 y_28, .slice a80 ((y_29).length) c81]⟩], L92, L83, [⟨b88, 25, [.int .i64 y_24, .int .i64 y_25, .int .i64 y_26, .int .i64 y_27, .int .i64 y_28, .slice a80 ((y_29).length) c81]⟩]]) (fun _ h => h) ?_
                      refine WO_end ?_
                      refine WK_blk ?_
                      refine WK_region ?_
                      refine WO_pure tbok 2 [(2, .slice a_p2 p2.length c_p2), (3, .pointer (some ⟨b4, 0, none⟩)), (6, .slice none 0 0), (7, .int .i64 0), (11, .slice a37 ((l_7).length) c39), (97, .slice a_p1 p1.length c_p1), (98, .int .i64 (p1.length : Int)), (99, .int .i64 (w64 (s_9 + 1)))] rfl ⟨rfl, rfl, rfl, rfl, rfl, rfl, rfl, rfl, trivial⟩ ?_
                      refine WO_end ?_
                      cases hm70
                      refine WK.sub ?_ (WK.cls (fun _ h => St.take 2 h) (hn73 _ (m85, L92, a80, _, c81) rfl ⟨(hle50.trans hle86), hL92, h87⟩))
                      exact ⟨rfl, rfl, rfl, rfl, rfl, rfl, rfl, rfl, trivial⟩
                    · refine WK_block ?_
                      refine WK_loop (S := List Bool × Int) (G := List Ent) (fun s => fiduciallaw48_ground_s5 p2 l_7 s_9 l_15 y_29 s.1 s.2) (fun s g => [(2, .slice a_p2 p2.length c_p2), (3, .pointer (some ⟨b4, 0, none⟩)), (6, .slice none 0 0), (7, .int .i64 0), (11, .slice a37 ((l_7).length) c39), (14, .int .i64 s_9), (16, .pointer (some ⟨b88, 0, none⟩)), (97, .slice a_p1 p1.length c_p1), (98, .int .i64 (p1.length : Int)), (99, .int .i64 s_9), (108, .int .i64 ((l_7).length : Int)), (109, .int .i64 s.2)]) (fun s g => St w0 m m85 [[⟨b4, 25, [.int .i64 s_10, .int .i64 s_11, .int .i64 s_12, .int .i64 s_13, .int .i64 s_14, .slice a53 ((l_15).length) c55]⟩], g, L83, [⟨b88, 25, [.int .i64 y_24, .int .i64 y_25, .int .i64 y_26, .int .i64 y_27, .int .i64 y_28, .slice a80 ((y_29).length) c81]⟩]]) (fun s g => OwnE 4 1 B1 (.slice a37 ((l_7).length) c39) s.1 g) FUEL (l_8, 0) L52 x93 hx94 hL52 ⟨rfl, rfl, rfl, rfl, rfl, rfl, rfl, rfl, rfl, rfl, rfl, rfl, trivial⟩ (fun _ h => h) ?_
                      rintro ⟨l_30, s_31⟩ L90 o97 fl98 hm96 hL90 hn99 hd100
                      have hm96 : fiduciallaw48_ground_s5 p2 l_7 s_9 l_15 y_29 l_30 s_31 = some o97 := hm96
                      unfold fiduciallaw48_ground_s5 at hm96
                      refine WK.sub (e' := [(2, .slice a_p2 p2.length c_p2), (3, .pointer (some ⟨b4, 0, none⟩)), (6, .slice none 0 0), (7, .int .i64 0), (11, .slice a37 ((l_7).length) c39), (14, .int .i64 s_9), (16, .pointer (some ⟨b88, 0, none⟩)), (97, .slice a_p1 p1.length c_p1), (98, .int .i64 (p1.length : Int)), (99, .int .i64 s_9), (108, .int .i64 ((l_7).length : Int)), (109, .int .i64 s_31)]) ⟨rfl, rfl, rfl, rfl, rfl, rfl, rfl, rfl, rfl, rfl, rfl, rfl, trivial⟩ (WK.cls (C' := St w0 m m85 [[⟨b4, 25, [.int .i64 s_10, .int .i64 s_11, .int .i64 s_12, .int .i64 s_13, .int .i64 s_14, .slice a53 ((l_15).length) c55]⟩], L90, L83, [⟨b88, 25, [.int .i64 y_24, .int .i64 y_25, .int .i64 y_26, .int .i64 y_27, .int .i64 y_28, .slice a80 ((y_29).length) c81]⟩]]) (fun _ h => h) ?_)
                      refine WK_seq ?_
                      refine WK_region ?_
                      refine WO_pure tbok 1 [(2, .slice a_p2 p2.length c_p2), (3, .pointer (some ⟨b4, 0, none⟩)), (6, .slice none 0 0), (7, .int .i64 0), (11, .slice a37 ((l_7).length) c39), (14, .int .i64 s_9), (16, .pointer (some ⟨b88, 0, none⟩)), (97, .slice a_p1 p1.length c_p1), (98, .int .i64 (p1.length : Int)), (99, .int .i64 s_9), (108, .int .i64 ((l_7).length : Int)), (109, .int .i64 s_31), (110, .bool (decide (s_31 < ((l_7).length : Int))))] rfl ⟨rfl, rfl, rfl, rfl, rfl, rfl, rfl, rfl, rfl, rfl, rfl, rfl, rfl, trivial⟩ ?_
                      refine WO_end ?_
                      refine WK_seq ?_
                      refine WK_cond (b := decide (s_31 < ((l_7).length : Int))) rfl (fun hb102 => ?_) (fun hb102 => ?_)
                      · have hm96 := ifT hb102 hm96
                        refine WK_skip ?_
                        refine WK_seq ?_
                        refine WK_block ?_
                        refine WK_seq ?_
                        refine WK_region ?_
                        refine WO_pure tbok 2 [(2, .slice a_p2 p2.length c_p2), (3, .pointer (some ⟨b4, 0, none⟩)), (6, .slice none 0 0), (7, .int .i64 0), (11, .slice a37 ((l_7).length) c39), (14, .int .i64 s_9), (16, .pointer (some ⟨b88, 0, none⟩)), (17, .int .i64 s_31), (97, .slice a_p1 p1.length c_p1), (98, .int .i64 (p1.length : Int)), (99, .int .i64 s_9), (108, .int .i64 ((l_7).length : Int)), (109, .int .i64 s_31)] rfl ⟨rfl, rfl, rfl, rfl, rfl, rfl, rfl, rfl, rfl, rfl, rfl, rfl, rfl, trivial⟩ ?_
                        refine WO_end ?_
                        obtain ⟨l_33, hx105, hm96⟩ := bind_some hm96
                        refine WK_join (β := List Ent) (fun p => OwnE 4 1 B1 (.slice a37 ((l_7).length) c39) l_33 p) (fun p => [(2, .slice a_p2 p2.length c_p2), (3, .pointer (some ⟨b4, 0, none⟩)), (6, .slice none 0 0), (7, .int .i64 0), (11, .slice a37 ((l_7).length) c39), (14, .int .i64 s_9), (16, .pointer (some ⟨b88, 0, none⟩)), (97, .slice a_p1 p1.length c_p1), (98, .int .i64 (p1.length : Int)), (99, .int .i64 s_9), (108, .int .i64 ((l_7).length : Int)), (109, .int .i64 s_31)]) (fun p => St w0 m m85 [[⟨b4, 25, [.int .i64 s_10, .int .i64 s_11, .int .i64 s_12, .int .i64 s_13, .int .i64 s_14, .slice a53 ((l_15).length) c55]⟩], p, L83, [⟨b88, 25, [.int .i64 y_24, .int .i64 y_25, .int .i64 y_26, .int .i64 y_27, .int .i64 y_28, .slice a80 ((y_29).length) c81]⟩]]) ?_ (fun hk106 => ?_)
                        · rintro L104 hL104
                          refine WK.sub (e' := [(2, .slice a_p2 p2.length c_p2), (3, .pointer (some ⟨b4, 0, none⟩)), (6, .slice none 0 0), (7, .int .i64 0), (11, .slice a37 ((l_7).length) c39), (14, .int .i64 s_9), (16, .pointer (some ⟨b88, 0, none⟩)), (97, .slice a_p1 p1.length c_p1), (98, .int .i64 (p1.length : Int)), (99, .int .i64 s_9), (108, .int .i64 ((l_7).length : Int)), (109, .int .i64 s_31)]) ⟨rfl, rfl, rfl, rfl, rfl, rfl, rfl, rfl, rfl, rfl, rfl, rfl, trivial⟩ (WK.cls (C' := St w0 m m85 [[⟨b4, 25, [.int .i64 s_10, .int .i64 s_11, .int .i64 s_12, .int .i64 s_13, .int .i64 s_14, .slice a53 ((l_15).length) c55]⟩], L104, L83, [⟨b88, 25, [.int .i64 y_24, .int .i64 y_25, .int .i64 y_26, .int .i64 y_27, .int .i64 y_28, .slice a80 ((y_29).length) c81]⟩]]) (fun _ h => h) ?_)
                          refine WK_blk ?_
                          refine WK_region ?_
                          refine WO_pure tbok 2 [(2, .slice a_p2 p2.length c_p2), (3, .pointer (some ⟨b4, 0, none⟩)), (6, .slice none 0 0), (7, .int .i64 0), (11, .slice a37 ((l_7).length) c39), (14, .int .i64 s_9), (16, .pointer (some ⟨b88, 0, none⟩)), (97, .slice a_p1 p1.length c_p1), (98, .int .i64 (p1.length : Int)), (99, .int .i64 s_9), (108, .int .i64 ((l_7).length : Int)), (109, .int .i64 (w64 (s_31 + 1)))] rfl ⟨rfl, rfl, rfl, rfl, rfl, rfl, rfl, rfl, rfl, rfl, rfl, rfl, trivial⟩ ?_
                          refine WO_end ?_
                          cases hm96
                          refine WK.sub ?_ (WK.cls (fun _ h => h) (hn99 _ L104 rfl hL104))
                          exact ⟨rfl, rfl, rfl, rfl, rfl, rfl, rfl, rfl, rfl, rfl, rfl, rfl, trivial⟩
                        · refine WK_draw 25 [0, 1, 2, 3, 4, 5, 6, 7, 8, 9, 10, 11, 12, 13, 14, 15, 16, 17, 18, 19, 20, 21, 22, 23, 24] follows_ok (by kernel_rfl) St_closed ?_
                          refine WO_pure tbok 4 [(2, .slice a_p2 p2.length c_p2), (3, .pointer (some ⟨b4, 0, none⟩)), (6, .slice none 0 0), (7, .int .i64 0), (11, .slice a37 ((l_7).length) c39), (14, .int .i64 s_9), (16, .pointer (some ⟨b88, 0, none⟩)), (17, .int .i64 s_31), (97, .slice a_p1 p1.length c_p1), (98, .int .i64 (p1.length : Int)), (99, .int .i64 s_9), (108, .int .i64 ((l_7).length : Int)), (109, .int .i64 s_31), (112, .slice a37 ((l_7).length) c39), (113, .int .i64 s_31), (114, .slice a37 ((l_7).length) c39), (115, .int .i64 s_31)] rfl ⟨rfl, rfl, rfl, rfl, rfl, rfl, rfl, rfl, rfl, rfl, rfl, rfl, rfl, rfl, rfl, rfl, rfl, trivial⟩ ?_
                          obtain ⟨v_34, hy107, hx105⟩ := bind_some hx105
                          obtain ⟨hc108, hy107⟩ := ix_some hy107
                          refine WO_index tbok rfl rfl rfl rfl rfl rfl rfl rfl (OwnE.addr hL90) (by simpa using hc108) ?_
                          refine WO_loadO (E := B1) tbok (fun _ => rfl) 1 rfl rfl rfl rfl (fun _ h => h) hL90 rfl hy107 rfl ?_
                          refine WO_pure tbok 1 [(2, .slice a_p2 p2.length c_p2), (3, .pointer (some ⟨b4, 0, none⟩)), (6, .slice none 0 0), (7, .int .i64 0), (11, .slice a37 ((l_7).length) c39), (14, .int .i64 s_9), (16, .pointer (some ⟨b88, 0, none⟩)), (17, .int .i64 s_31), (97, .slice a_p1 p1.length c_p1), (98, .int .i64 (p1.length : Int)), (99, .int .i64 s_9), (108, .int .i64 ((l_7).length : Int)), (109, .int .i64 s_31), (112, .slice a37 ((l_7).length) c39), (113, .int .i64 s_31), (118, .bool v_34)] rfl ⟨rfl, rfl, rfl, rfl, rfl, rfl, rfl, rfl, rfl, rfl, rfl, rfl, rfl, rfl, rfl, rfl, trivial⟩ ?_
                          refine WO_split (d := 118) (b := v_34) rfl (fun hb109 => ?_) (fun hb109 => ?_)
                          · have hx105 := ifT hb109 hx105
                            refine WO_pure tbok 1 [(2, .slice a_p2 p2.length c_p2), (3, .pointer (some ⟨b4, 0, none⟩)), (6, .slice none 0 0), (7, .int .i64 0), (11, .slice a37 ((l_7).length) c39), (14, .int .i64 s_9), (16, .pointer (some ⟨b88, 0, none⟩)), (17, .int .i64 s_31), (97, .slice a_p1 p1.length c_p1), (98, .int .i64 (p1.length : Int)), (99, .int .i64 s_9), (108, .int .i64 ((l_7).length : Int)), (109, .int .i64 s_31), (112, .slice a37 ((l_7).length) c39), (113, .int .i64 s_31), (118, .bool true), (119, .pointer (some ⟨b4, 5, none⟩))] rfl ⟨rfl, rfl, rfl, rfl, rfl, rfl, rfl, rfl, rfl, rfl, rfl, rfl, rfl, rfl, rfl, rfl, rfl, trivial⟩ ?_
                            refine WO_loadB tbok 0 rfl rfl rfl rfl (fun _ h => h) rfl rfl ?_
                            refine WO_pure tbok 1 [(2, .slice a_p2 p2.length c_p2), (3, .pointer (some ⟨b4, 0, none⟩)), (6, .slice none 0 0), (7, .int .i64 0), (11, .slice a37 ((l_7).length) c39), (14, .int .i64 s_9), (16, .pointer (some ⟨b88, 0, none⟩)), (17, .int .i64 s_31), (97, .slice a_p1 p1.length c_p1), (98, .int .i64 (p1.length : Int)), (99, .int .i64 s_9), (108, .int .i64 ((l_7).length : Int)), (109, .int .i64 s_31), (112, .slice a37 ((l_7).length) c39), (113, .int .i64 s_31), (118, .bool true), (120, .slice a53 ((l_15).length) c55), (121, .int .i64 s_31)] rfl ⟨rfl, rfl, rfl, rfl, rfl, rfl, rfl, rfl, rfl, rfl, rfl, rfl, rfl, rfl, rfl, rfl, rfl, rfl, trivial⟩ ?_
                            obtain ⟨v_35, hy110, hx105⟩ := bind_some hx105
                            obtain ⟨hc111, hy110⟩ := ix_some hy110
                            refine WO_index tbok rfl rfl rfl rfl rfl rfl rfl rfl (SlR.addr (h56.mono (mono_FE _) hle86)) hc111 ?_
                            refine WO_loadE tbok rfl rfl rfl rfl (fun _ h => St.sat h) (h56.mono (mono_FE _) hle86) hy110 rfl ?_
                            refine WO_pure tbok 1 [(2, .slice a_p2 p2.length c_p2), (3, .pointer (some ⟨b4, 0, none⟩)), (6, .slice none 0 0), (7, .int .i64 0), (11, .slice a37 ((l_7).length) c39), (14, .int .i64 s_9), (16, .pointer (some ⟨b88, 0, none⟩)), (17, .int .i64 s_31), (97, .slice a_p1 p1.length c_p1), (98, .int .i64 (p1.length : Int)), (99, .int .i64 s_9), (108, .int .i64 ((l_7).length : Int)), (109, .int .i64 s_31), (112, .slice a37 ((l_7).length) c39), (113, .int .i64 s_31), (118, .bool true), (123, .int .i64 v_35), (124, .pointer (some ⟨b88, 5, none⟩))] rfl ⟨rfl, rfl, rfl, rfl, rfl, rfl, rfl, rfl, rfl, rfl, rfl, rfl, rfl, rfl, rfl, rfl, rfl, rfl, trivial⟩ ?_
                            refine WO_loadB tbok 3 rfl rfl rfl rfl (fun _ h => h) rfl rfl ?_
                            refine WO_pure tbok 1 [(2, .slice a_p2 p2.length c_p2), (3, .pointer (some ⟨b4, 0, none⟩)), (6, .slice none 0 0), (7, .int .i64 0), (11, .slice a37 ((l_7).length) c39), (14, .int .i64 s_9), (16, .pointer (some ⟨b88, 0, none⟩)), (97, .slice a_p1 p1.length c_p1), (98, .int .i64 (p1.length : Int)), (99, .int .i64 s_9), (108, .int .i64 ((l_7).length : Int)), (109, .int .i64 s_31), (112, .slice a37 ((l_7).length) c39), (113, .int .i64 s_31), (118, .bool true), (123, .int .i64 v_35), (125, .slice a80 ((y_29).length) c81), (126, .int .i64 s_31)] rfl ⟨rfl, rfl, rfl, rfl, rfl, rfl, rfl, rfl, rfl, rfl, rfl, rfl, rfl, rfl, rfl, rfl, rfl, rfl, trivial⟩ ?_
                            obtain ⟨v_36, hy112, hx105⟩ := bind_some hx105
                            obtain ⟨hc113, hy112⟩ := ix_some hy112
                            refine WO_index tbok rfl rfl rfl rfl rfl rfl rfl rfl (SlR.addr h87) hc113 ?_
                            refine WO_loadE tbok rfl rfl rfl rfl (fun _ h => St.sat h) h87 hy112 rfl ?_
                            refine WO_pure tbok 3 [(2, .slice a_p2 p2.length c_p2), (3, .pointer (some ⟨b4, 0, none⟩)), (6, .slice none 0 0), (7, .int .i64 0), (11, .slice a37 ((l_7).length) c39), (14, .int .i64 s_9), (16, .pointer (some ⟨b88, 0, none⟩)), (97, .slice a_p1 p1.length c_p1), (98, .int .i64 (p1.length : Int)), (99, .int .i64 s_9), (108, .int .i64 ((l_7).length : Int)), (109, .int .i64 s_31), (112, .slice a37 ((l_7).length) c39), (113, .int .i64 s_31), (118, .bool true), (129, .int .i64 (w64 (v_35 - v_36))), (130, .slice a_p2 p2.length c_p2), (131, .int .i64 s_9)] rfl ⟨rfl, rfl, rfl, rfl, rfl, rfl, rfl, rfl, rfl, rfl, rfl, rfl, rfl, rfl, rfl, rfl, rfl, rfl, trivial⟩ ?_
                            obtain ⟨v_37, hy114, hx105⟩ := bind_some hx105
                            obtain ⟨hc115, hy114⟩ := ix_some hy114
                            refine WO_index tbok rfl rfl rfl rfl rfl rfl rfl rfl (SlR.addr ((h_p2.mono (mono_FE _) hle50).mono (mono_FE _) hle86)) hc115 ?_
                            refine WO_loadE tbok rfl rfl rfl rfl (fun _ h => St.sat h) ((h_p2.mono (mono_FE _) hle50).mono (mono_FE _) hle86) hy114 rfl ?_
                            refine WO_pure tbok 2 [(2, .slice a_p2 p2.length c_p2), (3, .pointer (some ⟨b4, 0, none⟩)), (6, .slice none 0 0), (7, .int .i64 0), (11, .slice a37 ((l_7).length) c39), (14, .int .i64 s_9), (16, .pointer (some ⟨b88, 0, none⟩)), (97, .slice a_p1 p1.length c_p1), (98, .int .i64 (p1.length : Int)), (99, .int .i64 s_9), (108, .int .i64 ((l_7).length : Int)), (109, .int .i64 s_31), (112, .slice a37 ((l_7).length) c39), (113, .int .i64 s_31), (135, .bool (decide ((w64 (v_35 - v_36)) ≤ v_37)))] rfl ⟨rfl, rfl, rfl, rfl, rfl, rfl, rfl, rfl, rfl, rfl, rfl, rfl, rfl, rfl, rfl, trivial⟩ ?_
                            obtain ⟨hc116, hx105⟩ := chk_some hx105
                            refine WO_index tbok rfl rfl rfl rfl rfl rfl rfl rfl (OwnE.addr hL90) (by simpa using hc116) ?_
                            refine WO_tail ?_
                            refine WO_storeO (E := B1) tbok (fun _ => rfl) 1 (decide ((w64 (v_35 - v_36)) ≤ v_37)) rfl rfl rfl rfl rfl hL90 rfl (by simpa using idx_lt hc116) rfl rfl rfl rfl (fun L117 hL117 => ?_)
                            refine WO.cls (C' := St w0 m m85 [[⟨b4, 25, [.int .i64 s_10, .int .i64 s_11, .int .i64 s_12, .int .i64 s_13, .int .i64 s_14, .slice a53 ((l_15).length) c55]⟩], L117, L83, [⟨b88, 25, [.int .i64 y_24, .int .i64 y_25, .int .i64 y_26, .int .i64 y_27, .int .i64 y_28, .slice a80 ((y_29).length) c81]⟩]]) (fun _ h => h) ?_
                            refine WO_end ?_
                            cases hx105
                            refine WK.sub ?_ (WK.cls (fun _ h => h) (hk106 L117 hL117))
                            exact ⟨rfl, rfl, rfl, rfl, rfl, rfl, rfl, rfl, rfl, rfl, rfl, rfl, trivial⟩
                          · have hx105 := ifF hb109 hx105
                            refine WO_pure tbok 17 [(2, .slice a_p2 p2.length c_p2), (3, .pointer (some ⟨b4, 0, none⟩)), (6, .slice none 0 0), (7, .int .i64 0), (11, .slice a37 ((l_7).length) c39), (14, .int .i64 s_9), (16, .pointer (some ⟨b88, 0, none⟩)), (97, .slice a_p1 p1.length c_p1), (98, .int .i64 (p1.length : Int)), (99, .int .i64 s_9), (108, .int .i64 ((l_7).length : Int)), (109, .int .i64 s_31), (112, .slice a37 ((l_7).length) c39), (113, .int .i64 s_31), (135, .bool false)] rfl ⟨rfl, rfl, rfl, rfl, rfl, rfl, rfl, rfl, rfl, rfl, rfl, rfl, rfl, rfl, rfl, trivial⟩ ?_
                            obtain ⟨hc119, hx105⟩ := chk_some hx105
                            refine WO_index tbok rfl rfl rfl rfl rfl rfl rfl rfl (OwnE.addr hL90) (by simpa using hc119) ?_
                            refine WO_tail ?_
                            refine WO_storeO (E := B1) tbok (fun _ => rfl) 1 false rfl rfl rfl rfl rfl hL90 rfl (by simpa using idx_lt hc119) rfl rfl rfl rfl (fun L120 hL120 => ?_)
                            refine WO.cls (C' := St w0 m m85 [[⟨b4, 25, [.int .i64 s_10, .int .i64 s_11, .int .i64 s_12, .int .i64 s_13, .int .i64 s_14, .slice a53 ((l_15).length) c55]⟩], L120, L83, [⟨b88, 25, [.int .i64 y_24, .int .i64 y_25, .int .i64 y_26, .int .i64 y_27, .int .i64 y_28, .slice a80 ((y_29).length) c81]⟩]]) (fun _ h => h) ?_
                            refine WO_end ?_
                            cases hx105
                            refine WK.sub ?_ (WK.cls (fun _ h => h) (hk106 L120 hL120))
                            exact ⟨rfl, rfl, rfl, rfl, rfl, rfl, rfl, rfl, rfl, rfl, rfl, rfl, trivial⟩
                      · have hm96 := ifF hb102 hm96
                        refine WK_exit rfl ?_
                        cases hm96
                        refine WK.sub ?_ (WK.cls (fun _ h => h) (hk95 (l_30, L90) ⟨(hd100 _ rfl), hL90⟩))
                        exact ⟨rfl, rfl, rfl, rfl, rfl, rfl, rfl, rfl, rfl, trivial⟩
                  · have hm70 := ifF hb76 hm70
                    refine WK_exit rfl ?_
                    cases hm70
                    refine WK.sub ?_ (WK.cls (fun _ h => h) (hk69 ((l_8, s_10, s_11, s_12, s_13, s_14, l_15), (m49, L52, a53, _, c55)) ⟨(hd74 _ rfl), hle50, hL52, h56⟩))
                    exact ⟨rfl, rfl, rfl, trivial⟩
              · refine WK_block ?_
                refine WK_loop (S := List Bool × Int) (G := Option Addr × Nat × Nat × List Ent) (fun s => fiduciallaw48_ground_s3 p0_5 s.1 s.2) (fun s g => [(1, .slice a_p1 p1.length c_p1), (2, .slice a_p2 p2.length c_p2), (3, .pointer (some ⟨b4, 0, none⟩)), (6, .slice none 0 0), (7, .int .i64 0), (11, .slice g.1 g.2.1 g.2.2.1), (85, .slice a_p0_5 p0_5.length c_p0_5), (86, .int .i64 (p0_5.length : Int)), (87, .int .i64 s.2)]) (fun s g => St w0 m m [[⟨b4, 25, [.int .i64 p0_0, .int .i64 p0_1, .int .i64 p0_2, .int .i64 p0_3, .int .i64 p0_4, .slice a_p0_5 p0_5.length c_p0_5]⟩], g.2.2.2]) (fun s g => OwnE 4 1 B1 (.slice g.1 g.2.1 g.2.2.1) s.1 g.2.2.2) FUEL (([] : List Bool), 0) (none, 0, 0, []) x40 hx41 (OwnE.nil (T := 4) (k := 1) (E := B1) none) ⟨rfl, rfl, rfl, rfl, rfl, rfl, rfl, rfl, rfl, trivial⟩ (fun _ h => h) ?_
                rintro ⟨l_5, s_6⟩ ⟨a32, q33, c34, L31⟩ o44 fl45 hm43 hL31 hn46 hd47
                have hm43 : fiduciallaw48_ground_s3 p0_5 l_5 s_6 = some o44 := hm43
                unfold fiduciallaw48_ground_s3 at hm43
                have hqq : q33 = l_5.length := OwnE.qlen hL31
                subst hqq
                refine WK.sub (e' := [(1, .slice a_p1 p1.length c_p1), (2, .slice a_p2 p2.length c_p2), (3, .pointer (some ⟨b4, 0, none⟩)), (6, .slice none 0 0), (7, .int .i64 0), (11, .slice a32 ((l_5).length) c34), (85, .slice a_p0_5 p0_5.length c_p0_5), (86, .int .i64 (p0_5.length : Int)), (87, .int .i64 s_6)]) ⟨rfl, rfl, rfl, rfl, rfl, rfl, rfl, rfl, rfl, trivial⟩ (WK.cls (C' := St w0 m m [[⟨b4, 25, [.int .i64 p0_0, .int .i64 p0_1, .int .i64 p0_2, .int .i64 p0_3, .int .i64 p0_4, .slice a_p0_5 p0_5.length c_p0_5]⟩], L31]) (fun _ h => h) ?_)
                refine WK_seq ?_
                refine WK_region ?_
                refine WO_pure tbok 1 [(1, .slice a_p1 p1.length c_p1), (2, .slice a_p2 p2.length c_p2), (3, .pointer (some ⟨b4, 0, none⟩)), (6, .slice none 0 0), (7, .int .i64 0), (11, .slice a32 ((l_5).length) c34), (85, .slice a_p0_5 p0_5.length c_p0_5), (86, .int .i64 (p0_5.length : Int)), (87, .int .i64 s_6), (88, .bool (decide (s_6 < (p0_5.length : Int))))] rfl ⟨rfl, rfl, rfl, rfl, rfl, rfl, rfl, rfl, rfl, rfl, trivial⟩ ?_
                refine WO_end ?_
                refine WK_seq ?_
                refine WK_cond (b := decide (s_6 < (p0_5.length : Int))) rfl (fun hb122 => ?_) (fun hb122 => ?_)
                · have hm43 := ifT hb122 hm43
                  refine WK_skip ?_
                  refine WK_seq ?_
                  refine WK_block ?_
                  refine WK_seq ?_
                  refine WK_region ?_
                  obtain ⟨v_38, hy123, hm43⟩ := bind_some hm43
                  obtain ⟨hc124, hy123⟩ := ix_some hy123
                  refine WO_index tbok rfl rfl rfl rfl rfl rfl rfl rfl (SlR.addr h_p0_5) hc124 ?_
                  refine WO_loadE tbok rfl rfl rfl rfl (fun _ h => St.sat h) h_p0_5 hy123 rfl ?_
                  refine WO_pure tbok 1 [(1, .slice a_p1 p1.length c_p1), (2, .slice a_p2 p2.length c_p2), (3, .pointer (some ⟨b4, 0, none⟩)), (6, .slice none 0 0), (7, .int .i64 0), (11, .slice a32 ((l_5).length) c34), (13, .int .i64 v_38), (85, .slice a_p0_5 p0_5.length c_p0_5), (86, .int .i64 (p0_5.length : Int)), (87, .int .i64 s_6)] rfl ⟨rfl, rfl, rfl, rfl, rfl, rfl, rfl, rfl, rfl, rfl, trivial⟩ ?_
                  refine WO_end ?_
                  refine WK_region ?_
                  refine WO_pure tbok 3 [(1, .slice a_p1 p1.length c_p1), (2, .slice a_p2 p2.length c_p2), (3, .pointer (some ⟨b4, 0, none⟩)), (6, .slice none 0 0), (7, .int .i64 0), (11, .slice a32 ((l_5).length) c34), (85, .slice a_p0_5 p0_5.length c_p0_5), (86, .int .i64 (p0_5.length : Int)), (87, .int .i64 s_6), (91, .slice a32 ((l_5).length) c34), (93, .bool (v_38 != (-2147483648)))] rfl ⟨rfl, rfl, rfl, rfl, rfl, rfl, rfl, rfl, rfl, rfl, rfl, trivial⟩ ?_
                  refine WO_bslice (E := B1) tbok (fun _ => rfl) (by decide) [.bool (v_38 != (-2147483648))] ([v_38 != (-2147483648)] : List Bool) rfl rfl trivial rfl rfl rfl rfl rfl rfl rfl rfl rfl rfl rfl rfl (fun b125 hb125 => ?_)
                  refine WO.cls (C' := St w0 m m [[⟨b4, 25, [.int .i64 p0_0, .int .i64 p0_1, .int .i64 p0_2, .int .i64 p0_3, .int .i64 p0_4, .slice a_p0_5 p0_5.length c_p0_5]⟩], L31, [⟨b125, 4, ([v_38 != (-2147483648)] : List Bool).flatMap B1⟩]]) (fun _ h => h) ?_
                  obtain ⟨hc127, hm43⟩ := chk_some hm43
                  refine WO_append (E := B1) tbok (fun _ => rfl) 1 ([v_38 != (-2147483648)] : List Bool) (fun _ _ => rfl) rfl rfl rfl rfl rfl rfl rfl rfl rfl rfl rfl rfl hL31 rfl (src_seg (j := 2) rfl) (ap_ok (by decide) hc127) (ap_max hc127) (fun a128 c129 L130 hL130 => ?_)
                  refine WO.cls (C' := St w0 m m [[⟨b4, 25, [.int .i64 p0_0, .int .i64 p0_1, .int .i64 p0_2, .int .i64 p0_3, .int .i64 p0_4, .slice a_p0_5 p0_5.length c_p0_5]⟩], L130, [⟨b125, 4, ([v_38 != (-2147483648)] : List Bool).flatMap B1⟩]]) (fun _ h => h) ?_
                  refine WO_pure tbok 1 [(1, .slice a_p1 p1.length c_p1), (2, .slice a_p2 p2.length c_p2), (3, .pointer (some ⟨b4, 0, none⟩)), (6, .slice none 0 0), (7, .int .i64 0), (11, .slice a128 ((l_5 ++ ([v_38 != (-2147483648)] : List Bool)).length) c129), (85, .slice a_p0_5 p0_5.length c_p0_5), (86, .int .i64 (p0_5.length : Int)), (87, .int .i64 s_6)] rfl ⟨rfl, rfl, rfl, rfl, rfl, rfl, rfl, rfl, rfl, trivial⟩ ?_
                  refine WO_end ?_
                  refine WK_blk ?_
                  refine WK_region ?_
                  refine WO_pure tbok 2 [(1, .slice a_p1 p1.length c_p1), (2, .slice a_p2 p2.length c_p2), (3, .pointer (some ⟨b4, 0, none⟩)), (6, .slice none 0 0), (7, .int .i64 0), (11, .slice a128 ((l_5 ++ ([v_38 != (-2147483648)] : List Bool)).length) c129), (85, .slice a_p0_5 p0_5.length c_p0_5), (86, .int .i64 (p0_5.length : Int)), (87, .int .i64 (w64 (s_6 + 1)))] rfl ⟨rfl, rfl, rfl, rfl, rfl, rfl, rfl, rfl, rfl, trivial⟩ ?_
                  refine WO_end ?_
                  cases hm43
                  refine WK.sub ?_ (WK.cls (fun _ h => St.take 2 h) (hn46 _ (a128, (l_5 ++ ([v_38 != (-2147483648)] : List Bool)).length, c129, L130) rfl hL130))
                  exact ⟨rfl, rfl, rfl, rfl, rfl, rfl, rfl, rfl, rfl, trivial⟩
                · have hm43 := ifF hb122 hm43
                  refine WK_exit rfl ?_
                  cases hm43
                  refine WK.sub ?_ (WK.cls (fun _ h => h) (hk42 (l_5, (a32, _, c34, L31)) ⟨(hd47 _ rfl), hL31⟩))
                  exact ⟨rfl, rfl, rfl, rfl, rfl, rfl, trivial⟩
            · refine WK_block ?_
              refine WK_loop (S := Int) (G := Unit) (fun s => fiduciallaw48_ground_s2 p1 s) (fun s g => [(1, .slice a_p1 p1.length c_p1), (2, .slice a_p2 p2.length c_p2), (3, .pointer (some ⟨b4, 0, none⟩)), (6, .slice none 0 0), (7, .int .i64 0), (10, .int .i64 s)]) (fun s g => St w0 m m [[⟨b4, 25, [.int .i64 p0_0, .int .i64 p0_1, .int .i64 p0_2, .int .i64 p0_3, .int .i64 p0_4, .slice a_p0_5 p0_5.length c_p0_5]⟩]]) (fun s g => True) FUEL 1 () x20 hx21 trivial ⟨rfl, rfl, rfl, rfl, rfl, rfl, trivial⟩ (fun _ h => h) ?_
              rintro s_4 ⟨⟩ o24 fl25 hm23 - hn26 hd27
              have hm23 : fiduciallaw48_ground_s2 p1 s_4 = some o24 := hm23
              unfold fiduciallaw48_ground_s2 at hm23
              refine WK.sub (e' := [(1, .slice a_p1 p1.length c_p1), (2, .slice a_p2 p2.length c_p2), (3, .pointer (some ⟨b4, 0, none⟩)), (6, .slice none 0 0), (7, .int .i64 0), (10, .int .i64 s_4)]) ⟨rfl, rfl, rfl, rfl, rfl, rfl, trivial⟩ (WK.cls (C' := St w0 m m [[⟨b4, 25, [.int .i64 p0_0, .int .i64 p0_1, .int .i64 p0_2, .int .i64 p0_3, .int .i64 p0_4, .slice a_p0_5 p0_5.length c_p0_5]⟩]]) (fun _ h => h) ?_)
              refine WK_seq ?_
              refine WK_seq ?_
              refine WK_region ?_
              refine WO_pure tbok 4 [(1, .slice a_p1 p1.length c_p1), (2, .slice a_p2 p2.length c_p2), (3, .pointer (some ⟨b4, 0, none⟩)), (6, .slice none 0 0), (7, .int .i64 0), (10, .int .i64 s_4), (71, .bool (decide (s_4 < (p1.length : Int))))] rfl ⟨rfl, rfl, rfl, rfl, rfl, rfl, rfl, trivial⟩ ?_
              refine WO_end ?_
              refine WK_cond (b := decide (s_4 < (p1.length : Int))) rfl (fun hb132 => ?_) (fun hb132 => ?_)
              · have hm23 := ifT hb132 hm23
                refine WK_skip ?_
                refine WK_seq ?_
                refine WK_block ?_
                refine WK_seq ?_
                refine WK_draw 10 [0, 1, 2, 3, 4, 5, 6, 7, 8, 9] follows_ok (by kernel_rfl) St_closed ?_
                refine WO_pure tbok 2 [(1, .slice a_p1 p1.length c_p1), (2, .slice a_p2 p2.length c_p2), (3, .pointer (some ⟨b4, 0, none⟩)), (6, .slice none 0 0), (7, .int .i64 0), (10, .int .i64 s_4), (74, .slice a_p1 p1.length c_p1), (75, .int .i64 s_4)] rfl ⟨rfl, rfl, rfl, rfl, rfl, rfl, rfl, rfl, trivial⟩ ?_
                obtain ⟨v_39, hy133, hm23⟩ := bind_some hm23
                obtain ⟨hc134, hy133⟩ := ix_some hy133
                refine WO_index tbok rfl rfl rfl rfl rfl rfl rfl rfl (SlR.addr h_p1) hc134 ?_
                refine WO_loadE tbok rfl rfl rfl rfl (fun _ h => St.sat h) h_p1 hy133 rfl ?_
                refine WO_pure tbok 3 [(1, .slice a_p1 p1.length c_p1), (2, .slice a_p2 p2.length c_p2), (3, .pointer (some ⟨b4, 0, none⟩)), (6, .slice none 0 0), (7, .int .i64 0), (10, .int .i64 s_4), (77, .int .i64 v_39), (78, .slice a_p1 p1.length c_p1), (80, .int .i64 (w64 (s_4 - 1)))] rfl ⟨rfl, rfl, rfl, rfl, rfl, rfl, rfl, rfl, rfl, trivial⟩ ?_
                obtain ⟨v_40, hy135, hm23⟩ := bind_some hm23
                obtain ⟨hc136, hy135⟩ := ix_some hy135
                refine WO_index tbok rfl rfl rfl rfl rfl rfl rfl rfl (SlR.addr h_p1) hc136 ?_
                refine WO_loadE tbok rfl rfl rfl rfl (fun _ h => St.sat h) h_p1 hy135 rfl ?_
                refine WO_pure tbok 1 [(1, .slice a_p1 p1.length c_p1), (2, .slice a_p2 p2.length c_p2), (3, .pointer (some ⟨b4, 0, none⟩)), (6, .slice none 0 0), (7, .int .i64 0), (10, .int .i64 s_4), (83, .bool (decide (v_39 ≤ v_40)))] rfl ⟨rfl, rfl, rfl, rfl, rfl, rfl, rfl, trivial⟩ ?_
                refine WO_tail ?_
                refine WO_end ?_
                refine WK_cond (b := decide (v_39 ≤ v_40)) rfl (fun hb137 => ?_) (fun hb137 => ?_)
                · have hm23 := ifT hb137 hm23
                  refine WK_seq ?_
                  refine WK_region ?_
                  refine WO_pure tbok 2 [(1, .slice a_p1 p1.length c_p1), (2, .slice a_p2 p2.length c_p2), (3, .pointer (some ⟨b4, 0, none⟩)), (6, .slice none 0 0), (7, .int .i64 5), (10, .int .i64 s_4)] rfl ⟨rfl, rfl, rfl, rfl, rfl, rfl, trivial⟩ ?_
                  refine WO_end ?_
                  cases hm23
                  have hq := hd27 _ rfl
                  subst hq
                  have hm : some _ = some _ := hm
                  cases hm
                  exact WK_ret (ret_out (L := []) (RLc_tmp rfl (RLc_tmp rfl RLc_nil)) (List.nil_sublist _) ⟨none, 0, 0, rfl, (OwnE.nil none)⟩)
                · have hm23 := ifF hb137 hm23
                  refine WK_skip ?_
                  refine WK_blk ?_
                  refine WK_region ?_
                  refine WO_pure tbok 3 [(1, .slice a_p1 p1.length c_p1), (2, .slice a_p2 p2.length c_p2), (3, .pointer (some ⟨b4, 0, none⟩)), (6, .slice none 0 0), (7, .int .i64 0), (10, .int .i64 (w64 (s_4 + 1)))] rfl ⟨rfl, rfl, rfl, rfl, rfl, rfl, trivial⟩ ?_
                  refine WO_end ?_
                  cases hm23
                  refine WK.sub ?_ (WK.cls (fun _ h => h) (hn26 _ () rfl trivial))
                  exact ⟨rfl, rfl, rfl, rfl, rfl, rfl, trivial⟩
              · have hm23 := ifF hb132 hm23
                refine WK_exit rfl ?_
                cases hm23
                refine WK.sub ?_ (WK.cls (fun _ h => h) (hk22 ((), ()) (hd27 _ rfl)))
                exact ⟨rfl, rfl, rfl, rfl, rfl, trivial⟩
          · refine WK_block ?_
            refine WK_loop (S := Int) (G := Unit) (fun s => fiduciallaw48_ground_s1 p1 p2 s) (fun s g => [(1, .slice a_p1 p1.length c_p1), (2, .slice a_p2 p2.length c_p2), (3, .pointer (some ⟨b4, 0, none⟩)), (6, .slice none 0 0), (7, .int .i64 0), (37, .int .i64 (p1.length : Int)), (38, .int .i64 s)]) (fun s g => St w0 m m [[⟨b4, 25, [.int .i64 p0_0, .int .i64 p0_1, .int .i64 p0_2, .int .i64 p0_3, .int .i64 p0_4, .slice a_p0_5 p0_5.length c_p0_5]⟩]]) (fun s g => True) FUEL 0 () x11 hx12 trivial ⟨rfl, rfl, rfl, rfl, rfl, rfl, rfl, trivial⟩ (fun _ h => h) ?_
            rintro s_3 ⟨⟩ o15 fl16 hm14 - hn17 hd18
            have hm14 : fiduciallaw48_ground_s1 p1 p2 s_3 = some o15 := hm14
            unfold fiduciallaw48_ground_s1 at hm14
            refine WK.sub (e' := [(1, .slice a_p1 p1.length c_p1), (2, .slice a_p2 p2.length c_p2), (3, .pointer (some ⟨b4, 0, none⟩)), (6, .slice none 0 0), (7, .int .i64 0), (37, .int .i64 (p1.length : Int)), (38, .int .i64 s_3)]) ⟨rfl, rfl, rfl, rfl, rfl, rfl, rfl, trivial⟩ (WK.cls (C' := St w0 m m [[⟨b4, 25, [.int .i64 p0_0, .int .i64 p0_1, .int .i64 p0_2, .int .i64 p0_3, .int .i64 p0_4, .slice a_p0_5 p0_5.length c_p0_5]⟩]]) (fun _ h => h) ?_)
            refine WK_seq ?_
            refine WK_region ?_
            refine WO_pure tbok 1 [(1, .slice a_p1 p1.length c_p1), (2, .slice a_p2 p2.length c_p2), (3, .pointer (some ⟨b4, 0, none⟩)), (6, .slice none 0 0), (7, .int .i64 0), (37, .int .i64 (p1.length : Int)), (38, .int .i64 s_3), (39, .bool (decide (s_3 < (p1.length : Int))))] rfl ⟨rfl, rfl, rfl, rfl, rfl, rfl, rfl, rfl, trivial⟩ ?_
            refine WO_end ?_
            refine WK_seq ?_
            refine WK_cond (b := decide (s_3 < (p1.length : Int))) rfl (fun hb138 => ?_) (fun hb138 => ?_)
            · have hm14 := ifT hb138 hm14
              refine WK_skip ?_
              refine WK_seq ?_
              refine WK_block ?_
              refine WK_seq ?_
              refine WK_region ?_
              refine WO_pure tbok 2 [(1, .slice a_p1 p1.length c_p1), (2, .slice a_p2 p2.length c_p2), (3, .pointer (some ⟨b4, 0, none⟩)), (6, .slice none 0 0), (7, .int .i64 0), (9, .int .i64 s_3), (37, .int .i64 (p1.length : Int)), (38, .int .i64 s_3)] rfl ⟨rfl, rfl, rfl, rfl, rfl, rfl, rfl, rfl, trivial⟩ ?_
              refine WO_end ?_
              refine WK_seq ?_
              obtain ⟨s_41, hx139, hm14⟩ := bind_some hm14
              refine WK_meet [(1, .slice a_p1 p1.length c_p1), (2, .slice a_p2 p2.length c_p2), (3, .pointer (some ⟨b4, 0, none⟩)), (6, .slice none 0 0), (7, .int .i64 0), (37, .int .i64 (p1.length : Int)), (38, .int .i64 s_3), (66, .bool s_41)] (St w0 m m [[⟨b4, 25, [.int .i64 p0_0, .int .i64 p0_1, .int .i64 p0_2, .int .i64 p0_3, .int .i64 p0_4, .slice a_p0_5 p0_5.length c_p0_5]⟩]]) ?_ (fun hk140 => ?_)
              · refine WK_cond (b := s_41) rfl (fun hb141 => ?_) (fun hb141 => ?_)
                · have hm14 := ifT hb141 hm14
                  refine WK_seq ?_
                  refine WK_region ?_
                  refine WO_pure tbok 2 [(1, .slice a_p1 p1.length c_p1), (2, .slice a_p2 p2.length c_p2), (3, .pointer (some ⟨b4, 0, none⟩)), (6, .slice none 0 0), (7, .int .i64 2), (37, .int .i64 (p1.length : Int)), (38, .int .i64 s_3)] rfl ⟨rfl, rfl, rfl, rfl, rfl, rfl, rfl, trivial⟩ ?_
                  refine WO_end ?_
                  cases hm14
                  have hq := hd18 _ rfl
                  subst hq
                  have hm : some _ = some _ := hm
                  cases hm
                  exact WK_ret (ret_out (L := []) (RLc_tmp rfl (RLc_tmp rfl RLc_nil)) (List.nil_sublist _) ⟨none, 0, 0, rfl, (OwnE.nil none)⟩)
                · have hm14 := ifF hb141 hm14
                  refine WK_skip ?_
                  refine WK_blk ?_
                  refine WK_region ?_
                  refine WO_pure tbok 2 [(1, .slice a_p1 p1.length c_p1), (2, .slice a_p2 p2.length c_p2), (3, .pointer (some ⟨b4, 0, none⟩)), (6, .slice none 0 0), (7, .int .i64 0), (37, .int .i64 (p1.length : Int)), (38, .int .i64 (w64 (s_3 + 1)))] rfl ⟨rfl, rfl, rfl, rfl, rfl, rfl, rfl, trivial⟩ ?_
                  refine WO_end ?_
                  cases hm14
                  refine WK.sub ?_ (WK.cls (fun _ h => h) (hn17 _ () rfl trivial))
                  exact ⟨rfl, rfl, rfl, rfl, rfl, rfl, rfl, trivial⟩
              · refine WK_region ?_
                refine WO_pure tbok 2 [(1, .slice a_p1 p1.length c_p1), (2, .slice a_p2 p2.length c_p2), (3, .pointer (some ⟨b4, 0, none⟩)), (6, .slice none 0 0), (7, .int .i64 0), (9, .int .i64 s_3), (37, .int .i64 (p1.length : Int)), (38, .int .i64 s_3), (41, .slice a_p1 p1.length c_p1), (42, .int .i64 s_3)] rfl ⟨rfl, rfl, rfl, rfl, rfl, rfl, rfl, rfl, rfl, rfl, trivial⟩ ?_
                obtain ⟨v_42, hy142, hx139⟩ := bind_some hx139
                obtain ⟨hc143, hy142⟩ := ix_some hy142
                refine WO_index tbok rfl rfl rfl rfl rfl rfl rfl rfl (SlR.addr h_p1) hc143 ?_
                refine WO_loadE tbok rfl rfl rfl rfl (fun _ h => St.sat h) h_p1 hy142 rfl ?_
                refine WO_pure tbok 2 [(1, .slice a_p1 p1.length c_p1), (2, .slice a_p2 p2.length c_p2), (3, .pointer (some ⟨b4, 0, none⟩)), (6, .slice none 0 0), (7, .int .i64 0), (9, .int .i64 s_3), (37, .int .i64 (p1.length : Int)), (38, .int .i64 s_3), (46, .bool (decide (v_42 < 1)))] rfl ⟨rfl, rfl, rfl, rfl, rfl, rfl, rfl, rfl, rfl, trivial⟩ ?_
                refine WO_split (d := 46) (b := decide (v_42 < 1)) rfl (fun hb144 => ?_) (fun hb144 => ?_)
                · have hx139 := ifT hb144 hx139
                  refine WO_pure tbok 20 [(1, .slice a_p1 p1.length c_p1), (2, .slice a_p2 p2.length c_p2), (3, .pointer (some ⟨b4, 0, none⟩)), (6, .slice none 0 0), (7, .int .i64 0), (37, .int .i64 (p1.length : Int)), (38, .int .i64 s_3), (66, .bool true)] rfl ⟨rfl, rfl, rfl, rfl, rfl, rfl, rfl, rfl, trivial⟩ ?_
                  refine WO_end ?_
                  cases hx139
                  refine WK.sub ?_ (WK.cls (fun _ h => h) hk140)
                  exact ⟨rfl, rfl, rfl, rfl, rfl, rfl, rfl, rfl, trivial⟩
                · have hx139 := ifF hb144 hx139
                  refine WO_pure tbok 2 [(1, .slice a_p1 p1.length c_p1), (2, .slice a_p2 p2.length c_p2), (3, .pointer (some ⟨b4, 0, none⟩)), (6, .slice none 0 0), (7, .int .i64 0), (9, .int .i64 s_3), (37, .int .i64 (p1.length : Int)), (38, .int .i64 s_3), (46, .bool false), (47, .slice a_p1 p1.length c_p1), (48, .int .i64 s_3)] rfl ⟨rfl, rfl, rfl, rfl, rfl, rfl, rfl, rfl, rfl, rfl, rfl, trivial⟩ ?_
                  obtain ⟨v_43, hy145, hx139⟩ := bind_some hx139
                  obtain ⟨hc146, hy145⟩ := ix_some hy145
                  refine WO_index tbok rfl rfl rfl rfl rfl rfl rfl rfl (SlR.addr h_p1) hc146 ?_
                  refine WO_loadE tbok rfl rfl rfl rfl (fun _ h => St.sat h) h_p1 hy145 rfl ?_
                  refine WO_pure tbok 3 [(1, .slice a_p1 p1.length c_p1), (2, .slice a_p2 p2.length c_p2), (3, .pointer (some ⟨b4, 0, none⟩)), (6, .slice none 0 0), (7, .int .i64 0), (9, .int .i64 s_3), (37, .int .i64 (p1.length : Int)), (38, .int .i64 s_3), (53, .bool (decide (8 < v_43)))] rfl ⟨rfl, rfl, rfl, rfl, rfl, rfl, rfl, rfl, rfl, trivial⟩ ?_
                  refine WO_split (d := 53) (b := decide (8 < v_43)) rfl (fun hb147 => ?_) (fun hb147 => ?_)
                  · have hx139 := ifT hb147 hx139
                    refine WO_pure tbok 13 [(1, .slice a_p1 p1.length c_p1), (2, .slice a_p2 p2.length c_p2), (3, .pointer (some ⟨b4, 0, none⟩)), (6, .slice none 0 0), (7, .int .i64 0), (37, .int .i64 (p1.length : Int)), (38, .int .i64 s_3), (66, .bool true)] rfl ⟨rfl, rfl, rfl, rfl, rfl, rfl, rfl, rfl, trivial⟩ ?_
                    refine WO_end ?_
                    cases hx139
                    refine WK.sub ?_ (WK.cls (fun _ h => h) hk140)
                    exact ⟨rfl, rfl, rfl, rfl, rfl, rfl, rfl, rfl, trivial⟩
                  · have hx139 := ifF hb147 hx139
                    refine WO_pure tbok 2 [(1, .slice a_p1 p1.length c_p1), (2, .slice a_p2 p2.length c_p2), (3, .pointer (some ⟨b4, 0, none⟩)), (6, .slice none 0 0), (7, .int .i64 0), (9, .int .i64 s_3), (37, .int .i64 (p1.length : Int)), (38, .int .i64 s_3), (53, .bool false), (54, .slice a_p2 p2.length c_p2), (55, .int .i64 s_3)] rfl ⟨rfl, rfl, rfl, rfl, rfl, rfl, rfl, rfl, rfl, rfl, rfl, trivial⟩ ?_
                    obtain ⟨v_44, hy148, hx139⟩ := bind_some hx139
                    obtain ⟨hc149, hy148⟩ := ix_some hy148
                    refine WO_index tbok rfl rfl rfl rfl rfl rfl rfl rfl (SlR.addr h_p2) hc149 ?_
                    refine WO_loadE tbok rfl rfl rfl rfl (fun _ h => St.sat h) h_p2 hy148 rfl ?_
                    refine WO_pure tbok 3 [(1, .slice a_p1 p1.length c_p1), (2, .slice a_p2 p2.length c_p2), (3, .pointer (some ⟨b4, 0, none⟩)), (6, .slice none 0 0), (7, .int .i64 0), (9, .int .i64 s_3), (37, .int .i64 (p1.length : Int)), (38, .int .i64 s_3), (60, .bool (decide (v_44 < 0)))] rfl ⟨rfl, rfl, rfl, rfl, rfl, rfl, rfl, rfl, rfl, trivial⟩ ?_
                    refine WO_split (d := 60) (b := decide (v_44 < 0)) rfl (fun hb150 => ?_) (fun hb150 => ?_)
                    · have hx139 := ifT hb150 hx139
                      refine WO_pure tbok 6 [(1, .slice a_p1 p1.length c_p1), (2, .slice a_p2 p2.length c_p2), (3, .pointer (some ⟨b4, 0, none⟩)), (6, .slice none 0 0), (7, .int .i64 0), (37, .int .i64 (p1.length : Int)), (38, .int .i64 s_3), (66, .bool true)] rfl ⟨rfl, rfl, rfl, rfl, rfl, rfl, rfl, rfl, trivial⟩ ?_
                      refine WO_end ?_
                      cases hx139
                      refine WK.sub ?_ (WK.cls (fun _ h => h) hk140)
                      exact ⟨rfl, rfl, rfl, rfl, rfl, rfl, rfl, rfl, trivial⟩
                    · have hx139 := ifF hb150 hx139
                      refine WO_pure tbok 2 [(1, .slice a_p1 p1.length c_p1), (2, .slice a_p2 p2.length c_p2), (3, .pointer (some ⟨b4, 0, none⟩)), (6, .slice none 0 0), (7, .int .i64 0), (37, .int .i64 (p1.length : Int)), (38, .int .i64 s_3), (60, .bool false), (61, .slice a_p2 p2.length c_p2), (62, .int .i64 s_3)] rfl ⟨rfl, rfl, rfl, rfl, rfl, rfl, rfl, rfl, rfl, rfl, trivial⟩ ?_
                      obtain ⟨v_45, hy151, hx139⟩ := bind_some hx139
                      obtain ⟨hc152, hy151⟩ := ix_some hy151
                      refine WO_index tbok rfl rfl rfl rfl rfl rfl rfl rfl (SlR.addr h_p2) hc152 ?_
                      refine WO_loadE tbok rfl rfl rfl rfl (fun _ h => St.sat h) h_p2 hy151 rfl ?_
                      refine WO_pure tbok 2 [(1, .slice a_p1 p1.length c_p1), (2, .slice a_p2 p2.length c_p2), (3, .pointer (some ⟨b4, 0, none⟩)), (6, .slice none 0 0), (7, .int .i64 0), (37, .int .i64 (p1.length : Int)), (38, .int .i64 s_3), (66, .bool (decide (1048576 < v_45)))] rfl ⟨rfl, rfl, rfl, rfl, rfl, rfl, rfl, rfl, trivial⟩ ?_
                      refine WO_end ?_
                      cases hx139
                      refine WK.sub ?_ (WK.cls (fun _ h => h) hk140)
                      exact ⟨rfl, rfl, rfl, rfl, rfl, rfl, rfl, rfl, trivial⟩
            · have hm14 := ifF hb138 hm14
              refine WK_exit rfl ?_
              cases hm14
              refine WK.sub ?_ (WK.cls (fun _ h => h) (hk13 ((), ()) (hd18 _ rfl)))
              exact ⟨rfl, rfl, rfl, rfl, rfl, trivial⟩
      · refine WK_region ?_
        refine WO_pure tbok 4 [(1, .slice a_p1 p1.length c_p1), (2, .slice a_p2 p2.length c_p2), (3, .pointer (some ⟨b4, 0, none⟩)), (6, .slice none 0 0), (7, .int .i64 0), (31, .bool (decide ((p1.length : Int) < 1)))] rfl ⟨rfl, rfl, rfl, rfl, rfl, rfl, trivial⟩ ?_
        refine WO_split (d := 31) (b := decide ((p1.length : Int) < 1)) rfl (fun hb153 => ?_) (fun hb153 => ?_)
        · have hx8 := ifT hb153 hx8
          refine WO_pure tbok 4 [(1, .slice a_p1 p1.length c_p1), (2, .slice a_p2 p2.length c_p2), (3, .pointer (some ⟨b4, 0, none⟩)), (6, .slice none 0 0), (7, .int .i64 0), (35, .bool true)] rfl ⟨rfl, rfl, rfl, rfl, rfl, rfl, trivial⟩ ?_
          refine WO_end ?_
          cases hx8
          refine WK.sub ?_ (WK.cls (fun _ h => h) hk9)
          exact ⟨rfl, rfl, rfl, rfl, rfl, rfl, trivial⟩
        · have hx8 := ifF hb153 hx8
          refine WO_pure tbok 4 [(1, .slice a_p1 p1.length c_p1), (2, .slice a_p2 p2.length c_p2), (3, .pointer (some ⟨b4, 0, none⟩)), (6, .slice none 0 0), (7, .int .i64 0), (35, .bool (decide (8 < (p1.length : Int))))] rfl ⟨rfl, rfl, rfl, rfl, rfl, rfl, trivial⟩ ?_
          refine WO_end ?_
          cases hx8
          refine WK.sub ?_ (WK.cls (fun _ h => h) hk9)
          exact ⟨rfl, rfl, rfl, rfl, rfl, rfl, trivial⟩
theorem fiduciallaw48_TerrainGround_walk {m : Mu} {p0_0 : Int} {p0_1 : Int} {p0_2 : Int} {p0_3 : Int} {p0_4 : Int} {p0_5 : List Int} {p1 : List Int} {p2 : List Int} {a_p0_5 : Option Addr} {q_p0_5 c_p0_5 : Nat} {a_p1 : Option Addr} {q_p1 c_p1 : Nat} {a_p2 : Option Addr} {q_p2 c_p2 : Nat} (h_p0_5 : SlR (FE (I1 .i64)) 1 m (.slice a_p0_5 q_p0_5 c_p0_5) p0_5) (h_p1 : SlR (FE (I1 .i64)) 1 m (.slice a_p1 q_p1 c_p1) p1) (h_p2 : SlR (FE (I1 .i64)) 1 m (.slice a_p2 q_p2 c_p2) p2) {r : Bool} (hm : fiduciallaw48_TerrainGround p0_0 p0_1 p0_2 p0_3 p0_4 p0_5 p1 p2 = some r) :
    Go.E.Spec Try.prog 4 [.agg #[.int .i64 p0_0, .int .i64 p0_1, .int .i64 p0_2, .int .i64 p0_3, .int .i64 p0_4, .slice a_p0_5 q_p0_5 c_p0_5], .slice a_p1 q_p1 c_p1, .slice a_p2 q_p2 c_p2] m (fun v _ _ => v = .bool r) := by
  refine Spec_enter Try.func4 rfl rfl rfl (fun w0 => ?_)
  refine WK.sub (e' := [(0, .agg #[.int .i64 p0_0, .int .i64 p0_1, .int .i64 p0_2, .int .i64 p0_3, .int .i64 p0_4, .slice a_p0_5 q_p0_5 c_p0_5]), (1, .slice a_p1 q_p1 c_p1), (2, .slice a_p2 q_p2 c_p2)]) ⟨rfl, rfl, rfl, trivial⟩ ?_
  obtain rfl := SlR.qlen h_p0_5
  obtain rfl := SlR.qlen h_p1
  obtain rfl := SlR.qlen h_p2
  refine WK.sub (e' := [(0, .agg #[.int .i64 p0_0, .int .i64 p0_1, .int .i64 p0_2, .int .i64 p0_3, .int .i64 p0_4, .slice a_p0_5 p0_5.length c_p0_5]), (1, .slice a_p1 p1.length c_p1), (2, .slice a_p2 p2.length c_p2)]) ⟨rfl, rfl, rfl, trivial⟩ ?_
  unfold fiduciallaw48_TerrainGround at hm
  refine WK_seq ?_
  refine WK_region ?_
  refine WO_box [.int .i64 p0_0, .int .i64 p0_1, .int .i64 p0_2, .int .i64 p0_3, .int .i64 p0_4, .slice a_p0_5 p0_5.length c_p0_5] rfl rfl trivial rfl rfl rfl (fun b4 => ?_)
  refine WO.cls (C' := St w0 m m [[⟨b4, 25, [.int .i64 p0_0, .int .i64 p0_1, .int .i64 p0_2, .int .i64 p0_3, .int .i64 p0_4, .slice a_p0_5 p0_5.length c_p0_5]⟩]]) (fun _ h => h) ?_
  refine WO_pure tbok 1 [(1, .slice a_p1 p1.length c_p1), (2, .slice a_p2 p2.length c_p2), (3, .pointer (some ⟨b4, 0, none⟩)), (6, .bool false)] rfl ⟨rfl, rfl, rfl, rfl, trivial⟩ ?_
  refine WO_end ?_
  refine WK_seq ?_
  refine WK_seq ?_
  refine WK_region ?_
  obtain ⟨y_1, hc5, hm⟩ := bind_some hm
  refine WO_call0 (.bool y_1) rfl rfl trivial rfl rfl rfl rfl St_closed ⟨11, #[], #[], rfl, callable_11, fun w hw => ⟨_, hw.sat, fiduciallaw48_known_walk hc5⟩⟩ ?_
  refine WO_pure tbok 1 [(1, .slice a_p1 p1.length c_p1), (2, .slice a_p2 p2.length c_p2), (3, .pointer (some ⟨b4, 0, none⟩)), (6, .bool false), (12, .bool (!y_1))] rfl ⟨rfl, rfl, rfl, rfl, rfl, trivial⟩ ?_
  refine WO_end ?_
  refine WK_cond (b := !y_1) rfl (fun hb6 => ?_) (fun hb6 => ?_)
  · have hm := ifT hb6 hm
    refine WK_seq ?_
    refine WK_region ?_
    refine WO_pure tbok 1 [(1, .slice a_p1 p1.length c_p1), (2, .slice a_p2 p2.length c_p2), (3, .pointer (some ⟨b4, 0, none⟩)), (6, .bool false)] rfl ⟨rfl, rfl, rfl, rfl, trivial⟩ ?_
    refine WO_end ?_
    cases hm
    exact WK_ret (ret_out (L := []) (RLc_tmp rfl RLc_nil) (List.nil_sublist _) rfl)
  · have hm := ifF hb6 hm
    refine WK_skip ?_
    refine WK_seq ?_
    refine WK_seq ?_
    obtain ⟨s_2, hx7, hm⟩ := bind_some hm
    refine WK_meet [(1, .slice a_p1 p1.length c_p1), (2, .slice a_p2 p2.length c_p2), (3, .pointer (some ⟨b4, 0, none⟩)), (6, .bool false), (25, .bool s_2)] (St w0 m m [[⟨b4, 25, [.int .i64 p0_0, .int .i64 p0_1, .int .i64 p0_2, .int .i64 p0_3, .int .i64 p0_4, .slice a_p0_5 p0_5.length c_p0_5]⟩]]) ?_ (fun hk8 => ?_)
    · refine WK_cond (b := s_2) rfl (fun hb9 => ?_) (fun hb9 => ?_)
      · have hm := ifT hb9 hm
        refine WK_seq ?_
        refine WK_region ?_
        refine WO_pure tbok 1 [(1, .slice a_p1 p1.length c_p1), (2, .slice a_p2 p2.length c_p2), (3, .pointer (some ⟨b4, 0, none⟩)), (6, .bool true)] rfl ⟨rfl, rfl, rfl, rfl, trivial⟩ ?_
        refine WO_end ?_
        cases hm
        exact WK_ret (ret_out (L := []) (RLc_tmp rfl RLc_nil) (List.nil_sublist _) rfl)
      · have hm := ifF hb9 hm
        refine WK_skip ?_
        refine WK_seq ?_
        refine WK_region ?_
        refine WO_loadB tbok 0 rfl rfl rfl rfl (fun _ h => h) rfl rfl ?_
        refine WO_pure tbok 2 [(1, .slice a_p1 p1.length c_p1), (2, .slice a_p2 p2.length c_p2), (3, .pointer (some ⟨b4, 0, none⟩)), (6, .bool false), (27, .agg #[.int .i64 p0_0, .int .i64 p0_1, .int .i64 p0_2, .int .i64 p0_3, .int .i64 p0_4, .slice a_p0_5 p0_5.length c_p0_5]), (28, .slice a_p1 p1.length c_p1), (29, .slice a_p2 p2.length c_p2)] rfl ⟨rfl, rfl, rfl, rfl, rfl, rfl, rfl, trivial⟩ ?_
        obtain ⟨⟨y_3, y_4⟩, hc10, hm⟩ := bind_some hm
        refine WO_call1 (terrain_Ground_Q (y_3, y_4)) rfl rfl trivial rfl rfl rfl rfl ⟨18, #[], #[], rfl, callable_18, fun w hw => ⟨_, hw.sat, terrain_Ground_walk h_p0_5 h_p1 h_p2 hc10⟩⟩ (fun v15 L14 hq => ?_)
        obtain ⟨a11, qa11, c12, rfl, hL14⟩ := hq
        obtain rfl := OwnE.qlen hL14
        refine WO.cls (C' := St w0 m m [[⟨b4, 25, [.int .i64 p0_0, .int .i64 p0_1, .int .i64 p0_2, .int .i64 p0_3, .int .i64 p0_4, .slice a_p0_5 p0_5.length c_p0_5]⟩], L14]) (fun _ h => h) ?_
        refine WO_pure tbok 5 [(1, .slice a_p1 p1.length c_p1), (2, .slice a_p2 p2.length c_p2), (3, .pointer (some ⟨b4, 0, none⟩)), (6, .bool false), (7, .slice a11 ((y_3).length) c12), (8, .int .i64 y_4)] rfl ⟨rfl, rfl, rfl, rfl, rfl, rfl, trivial⟩ ?_
        refine WO_end ?_
        refine WK_seq ?_
        refine WK_region ?_
        refine WO_loadB tbok 0 rfl rfl rfl rfl (fun _ h => h) rfl rfl ?_
        refine WO_pure tbok 2 [(6, .bool false), (7, .slice a11 ((y_3).length) c12), (8, .int .i64 y_4), (34, .agg #[.int .i64 p0_0, .int .i64 p0_1, .int .i64 p0_2, .int .i64 p0_3, .int .i64 p0_4, .slice a_p0_5 p0_5.length c_p0_5]), (35, .slice a_p1 p1.length c_p1), (36, .slice a_p2 p2.length c_p2)] rfl ⟨rfl, rfl, rfl, rfl, rfl, rfl, trivial⟩ ?_
        obtain ⟨⟨y_5, y_6⟩, hc16, hm⟩ := bind_some hm
        refine WO_call1 (fiduciallaw48_ground_Q (y_5, y_6)) rfl rfl trivial rfl rfl rfl rfl ⟨19, #[], #[], rfl, callable_19, fun w hw => ⟨_, hw.sat, fiduciallaw48_ground_walk h_p0_5 h_p1 h_p2 hc16⟩⟩ (fun v21 L20 hq => ?_)
        obtain ⟨a17, qa17, c18, rfl, hL20⟩ := hq
        obtain rfl := OwnE.qlen hL20
        refine WO.cls (C' := St w0 m m [[⟨b4, 25, [.int .i64 p0_0, .int .i64 p0_1, .int .i64 p0_2, .int .i64 p0_3, .int .i64 p0_4, .slice a_p0_5 p0_5.length c_p0_5]⟩], L14, L20]) (fun _ h => h) ?_
        refine WO_pure tbok 5 [(6, .bool false), (7, .slice a11 ((y_3).length) c12), (8, .int .i64 y_4), (9, .slice a17 ((y_5).length) c18), (10, .int .i64 y_6)] rfl ⟨rfl, rfl, rfl, rfl, rfl, trivial⟩ ?_
        refine WO_end ?_
        refine WK_seq ?_
        refine WK_region ?_
        refine WO_pure tbok 4 [(6, .bool false), (7, .slice a11 ((y_3).length) c12), (9, .slice a17 ((y_5).length) c18), (43, .bool (y_4 == y_6))] rfl ⟨rfl, rfl, rfl, rfl, trivial⟩ ?_
        refine WO_split (d := 43) (b := y_4 == y_6) rfl (fun hb22 => ?_) (fun hb22 => ?_)
        · have hm := ifT hb22 hm
          refine WO_pure tbok 2 [(6, .bool false), (43, .bool true), (44, .slice a11 ((y_3).length) c12), (45, .slice a17 ((y_5).length) c18)] rfl ⟨rfl, rfl, rfl, rfl, trivial⟩ ?_
          obtain ⟨y_7, hc23, hm⟩ := bind_some hm
          refine WO_call0 (.bool y_7) rfl rfl trivial rfl rfl rfl rfl St_closed ⟨20, #[], #[], rfl, callable_20, fun w hw => ⟨_, hw.satV, slices_Equal_sbool_walk (OwnE.rd (E := B1) (k := 1) (fun _ => rfl) hL14 (fun _ hx => hw.memV (i := 1) rfl hx)) (OwnE.rd (E := B1) (k := 1) (fun _ => rfl) hL20 (fun _ hx => hw.memV (i := 2) rfl hx)) hc23⟩⟩ ?_
          refine WO_pure tbok 2 [(6, .bool y_7)] rfl ⟨rfl, trivial⟩ ?_
          refine WO_end ?_
          cases hm
          exact WK_ret (ret_out (L := []) (RLc_tmp rfl RLc_nil) (List.nil_sublist _) rfl)
        · have hm := ifF hb22 hm
          refine WO_pure tbok 2 [(6, .bool false), (43, .bool false)] rfl ⟨rfl, rfl, trivial⟩ ?_
          refine WO_skip rfl rfl ?_
          refine WO_pure tbok 2 [(6, .bool false)] rfl ⟨rfl, trivial⟩ ?_
          refine WO_end ?_
          cases hm
          exact WK_ret (ret_out (L := []) (RLc_tmp rfl RLc_nil) (List.nil_sublist _) rfl)
    · refine WK_region ?_
      refine WO_loadB tbok 0 rfl rfl rfl rfl (fun _ h => h) rfl rfl ?_
      obtain ⟨y_8, hc24, hx7⟩ := bind_some hx7
      refine WO_call0 (.bool y_8) rfl rfl trivial rfl rfl rfl rfl St_closed ⟨12, #[], #[], rfl, callable_12, fun w hw => ⟨_, hw.sat, fiduciallaw48_few_walk h_p0_5 hc24⟩⟩ ?_
      refine WO_pure tbok 2 [(1, .slice a_p1 p1.length c_p1), (2, .slice a_p2 p2.length c_p2), (3, .pointer (some ⟨b4, 0, none⟩)), (6, .bool false), (16, .bool (!y_8))] rfl ⟨rfl, rfl, rfl, rfl, rfl, trivial⟩ ?_
      refine WO_split (d := 16) (b := !y_8) rfl (fun hb25 => ?_) (fun hb25 => ?_)
      · have hx7 := ifT hb25 hx7
        refine WO_pure tbok 9 [(1, .slice a_p1 p1.length c_p1), (2, .slice a_p2 p2.length c_p2), (3, .pointer (some ⟨b4, 0, none⟩)), (6, .bool false), (25, .bool true)] rfl ⟨rfl, rfl, rfl, rfl, rfl, trivial⟩ ?_
        refine WO_end ?_
        cases hx7
        refine WK.sub ?_ (WK.cls (fun _ h => h) hk8)
        exact ⟨rfl, rfl, rfl, rfl, rfl, trivial⟩
      · have hx7 := ifF hb25 hx7
        refine WO_pure tbok 5 [(1, .slice a_p1 p1.length c_p1), (2, .slice a_p2 p2.length c_p2), (3, .pointer (some ⟨b4, 0, none⟩)), (6, .bool false), (21, .bool (decide (10 < (p1.length : Int))))] rfl ⟨rfl, rfl, rfl, rfl, rfl, trivial⟩ ?_
        refine WO_split (d := 21) (b := decide (10 < (p1.length : Int))) rfl (fun hb26 => ?_) (fun hb26 => ?_)
        · have hx7 := ifT hb26 hx7
          refine WO_pure tbok 4 [(1, .slice a_p1 p1.length c_p1), (2, .slice a_p2 p2.length c_p2), (3, .pointer (some ⟨b4, 0, none⟩)), (6, .bool false), (25, .bool true)] rfl ⟨rfl, rfl, rfl, rfl, rfl, trivial⟩ ?_
          refine WO_end ?_
          cases hx7
          refine WK.sub ?_ (WK.cls (fun _ h => h) hk8)
          exact ⟨rfl, rfl, rfl, rfl, rfl, trivial⟩
        · have hx7 := ifF hb26 hx7
          refine WO_pure tbok 4 [(1, .slice a_p1 p1.length c_p1), (2, .slice a_p2 p2.length c_p2), (3, .pointer (some ⟨b4, 0, none⟩)), (6, .bool false), (25, .bool (decide (10 < (p2.length : Int))))] rfl ⟨rfl, rfl, rfl, rfl, rfl, trivial⟩ ?_
          refine WO_end ?_
          cases hx7
          refine WK.sub ?_ (WK.cls (fun _ h => h) hk8)
          exact ⟨rfl, rfl, rfl, rfl, rfl, trivial⟩
def terrain_Erode_Q (r : Int × Int × Int × Int × Int × List Int × Int) : Value → Mu → List Ent → Prop := fun v m L => ∃ (a0 : Option Addr) (q0 c0 : Nat), v = .tuple #[.agg #[.int .i64 r.1, .int .i64 r.2.1, .int .i64 r.2.2.1, .int .i64 r.2.2.2.1, .int .i64 r.2.2.2.2.1, .slice a0 q0 c0], .int .i64 r.2.2.2.2.2.2] ∧ SlR (FE (I1 .i64)) 1 m (.slice a0 q0 c0) r.2.2.2.2.2.1
theorem terrain_Erode_walk {m : Mu} {p0_0 : Int} {p0_1 : Int} {p0_2 : Int} {p0_3 : Int} {p0_4 : Int} {p0_5 : List Int} {p1 : Int} {a_p0_5 : Option Addr} {q_p0_5 c_p0_5 : Nat} (h_p0_5 : SlR (FE (I1 .i64)) 1 m (.slice a_p0_5 q_p0_5 c_p0_5) p0_5) {r : Int × Int × Int × Int × Int × List Int × Int} (hm : terrain_Erode p0_0 p0_1 p0_2 p0_3 p0_4 p0_5 p1 = some r) :
    Go.E.Spec Try.prog 24 [.agg #[.int .i64 p0_0, .int .i64 p0_1, .int .i64 p0_2, .int .i64 p0_3, .int .i64 p0_4, .slice a_p0_5 q_p0_5 c_p0_5], .int .i64 p1] m (terrain_Erode_Q r) := by
  refine Spec_enter Try.func24 rfl rfl rfl (fun w0 => ?_)
  refine WK.sub (e' := [(0, .agg #[.int .i64 p0_0, .int .i64 p0_1, .int .i64 p0_2, .int .i64 p0_3, .int .i64 p0_4, .slice a_p0_5 q_p0_5 c_p0_5]), (1, .int .i64 p1)]) ⟨rfl, rfl, trivial⟩ ?_
  obtain rfl := SlR.qlen h_p0_5
  refine WK.sub (e' := [(0, .agg #[.int .i64 p0_0, .int .i64 p0_1, .int .i64 p0_2, .int .i64 p0_3, .int .i64 p0_4, .slice a_p0_5 p0_5.length c_p0_5]), (1, .int .i64 p1)]) ⟨rfl, rfl, trivial⟩ ?_
  unfold terrain_Erode at hm
  refine WK_seq ?_
  refine WK_region ?_
  refine WO_box [.int .i64 p0_0, .int .i64 p0_1, .int .i64 p0_2, .int .i64 p0_3, .int .i64 p0_4, .slice a_p0_5 p0_5.length c_p0_5] rfl rfl trivial rfl rfl rfl (fun b2 => ?_)
  refine WO.cls (C' := St w0 m m [[⟨b2, 25, [.int .i64 p0_0, .int .i64 p0_1, .int .i64 p0_2, .int .i64 p0_3, .int .i64 p0_4, .slice a_p0_5 p0_5.length c_p0_5]⟩]]) (fun _ h => h) ?_
  refine WO_alloc tbok [.int .i64 0, .int .i64 0, .int .i64 0, .int .i64 0, .int .i64 0, .slice none 0 0] rfl rfl trivial rfl rfl rfl rfl (fun b3 => ?_)
  refine WO.cls (C' := St w0 m m [[⟨b2, 25, [.int .i64 p0_0, .int .i64 p0_1, .int .i64 p0_2, .int .i64 p0_3, .int .i64 p0_4, .slice a_p0_5 p0_5.length c_p0_5]⟩], [⟨b3, 25, [.int .i64 0, .int .i64 0, .int .i64 0, .int .i64 0, .int .i64 0, .slice none 0 0]⟩]]) (fun _ h => h) ?_
  refine WO_pure tbok 1 [(1, .int .i64 p1), (2, .pointer (some ⟨b2, 0, none⟩)), (4, .pointer (some ⟨b3, 0, none⟩)), (5, .int .i64 0)] rfl ⟨rfl, rfl, rfl, rfl, trivial⟩ ?_
  refine WO_end ?_
  refine WK_seq ?_
  refine WK_seq ?_
  refine WK_region ?_
  refine WO_loadB tbok 0 rfl rfl rfl rfl (fun _ h => h) rfl rfl ?_
  refine WO_pure tbok 1 [(1, .int .i64 p1), (2, .pointer (some ⟨b2, 0, none⟩)), (4, .pointer (some ⟨b3, 0, none⟩)), (5, .int .i64 0), (7, .agg #[.int .i64 p0_0, .int .i64 p0_1, .int .i64 p0_2, .int .i64 p0_3, .int .i64 p0_4, .slice a_p0_5 p0_5.length c_p0_5]), (8, .int .i64 p1)] rfl ⟨rfl, rfl, rfl, rfl, rfl, rfl, trivial⟩ ?_
  obtain ⟨y_1, hc4, hm⟩ := bind_some hm
  refine WO_call0 (.int .i64 y_1) rfl rfl trivial rfl rfl rfl rfl St_closed ⟨51, #[], #[], rfl, callable_51, fun w hw => ⟨_, hw.sat, terrain_checked_walk h_p0_5 hc4⟩⟩ ?_
  refine WO_pure tbok 1 [(1, .int .i64 p1), (2, .pointer (some ⟨b2, 0, none⟩)), (4, .pointer (some ⟨b3, 0, none⟩)), (5, .int .i64 0), (6, .int .i64 y_1)] rfl ⟨rfl, rfl, rfl, rfl, rfl, trivial⟩ ?_
  refine WO_end ?_
  refine WK_seq ?_
  refine WK_region ?_
  refine WO_pure tbok 2 [(1, .int .i64 p1), (2, .pointer (some ⟨b2, 0, none⟩)), (4, .pointer (some ⟨b3, 0, none⟩)), (5, .int .i64 0), (6, .int .i64 y_1), (11, .bool (y_1 != 0))] rfl ⟨rfl, rfl, rfl, rfl, rfl, rfl, trivial⟩ ?_
  refine WO_end ?_
  refine WK_cond (b := y_1 != 0) rfl (fun hb5 => ?_) (fun hb5 => ?_)
  · have hm := ifT hb5 hm
    refine WK_seq ?_
    refine WK_region ?_
    refine WO_pure tbok 2 [(1, .int .i64 p1), (2, .pointer (some ⟨b2, 0, none⟩)), (4, .pointer (some ⟨b3, 0, none⟩)), (5, .int .i64 0), (12, .agg #[.int .i64 0, .int .i64 0, .int .i64 0, .int .i64 0, .int .i64 0, .slice none 0 0]), (13, .int .i64 y_1)] rfl ⟨rfl, rfl, rfl, rfl, rfl, rfl, trivial⟩ ?_
    refine WO_storeB tbok 1 [.int .i64 0, .int .i64 0, .int .i64 0, .int .i64 0, .int .i64 0, .slice none 0 0] rfl rfl rfl rfl rfl rfl rfl ?_
    refine WO.cls (C' := St w0 m m [[⟨b2, 25, [.int .i64 p0_0, .int .i64 p0_1, .int .i64 p0_2, .int .i64 p0_3, .int .i64 p0_4, .slice a_p0_5 p0_5.length c_p0_5]⟩], [⟨b3, 25, [.int .i64 0, .int .i64 0, .int .i64 0, .int .i64 0, .int .i64 0, .slice none 0 0]⟩]]) (fun _ h => h) ?_
    refine WO_pure tbok 1 [(1, .int .i64 p1), (2, .pointer (some ⟨b2, 0, none⟩)), (4, .pointer (some ⟨b3, 0, none⟩)), (5, .int .i64 y_1)] rfl ⟨rfl, rfl, rfl, rfl, trivial⟩ ?_
    refine WO_end ?_
    cases hm
    exact WK_ret (ret_out (L := []) (RLc_cell tbok 1 rfl rfl rfl (RLc_tmp rfl RLc_nil)) (List.nil_sublist _) ⟨none, 0, 0, rfl, SlR_nil⟩)
  · have hm := ifF hb5 hm
    refine WK_skip ?_
    refine WK_seq ?_
    refine WK_region ?_
    refine WO_loadB tbok 0 rfl rfl rfl rfl (fun _ h => h) rfl rfl ?_
    refine WO_pure tbok 1 [(4, .pointer (some ⟨b3, 0, none⟩)), (5, .int .i64 0), (14, .agg #[.int .i64 p0_0, .int .i64 p0_1, .int .i64 p0_2, .int .i64 p0_3, .int .i64 p0_4, .slice a_p0_5 p0_5.length c_p0_5]), (15, .int .i64 p1)] rfl ⟨rfl, rfl, rfl, rfl, trivial⟩ ?_
    obtain ⟨⟨y_4, y_5, y_6, y_7, y_8, y_9⟩, hc6, hm⟩ := bind_some hm
    refine WO_call2 (terrain_filtered_Q (y_4, y_5, y_6, y_7, y_8, y_9)) rfl rfl trivial rfl rfl rfl rfl ⟨52, #[], #[], rfl, callable_52, terrain_filtered_walk h_p0_5 (fun m1 hm1 z_2 z_3 _ h => specV_cap callable_53 (terrain_least_walk h)) hc6⟩ (fun v11 m12 L10 hle13 hq => ?_)
    obtain ⟨a7, qa7, c8, rfl, h14⟩ := hq
    obtain rfl := SlR.qlen h14
    refine WO.cls (C' := St w0 m m12 [[⟨b2, 25, [.int .i64 p0_0, .int .i64 p0_1, .int .i64 p0_2, .int .i64 p0_3, .int .i64 p0_4, .slice a_p0_5 p0_5.length c_p0_5]⟩], [⟨b3, 25, [.int .i64 0, .int .i64 0, .int .i64 0, .int .i64 0, .int .i64 0, .slice none 0 0]⟩], L10]) (fun _ h => h.sub (by simp)) ?_
    refine WO_storeB tbok 1 [.int .i64 y_4, .int .i64 y_5, .int .i64 y_6, .int .i64 y_7, .int .i64 y_8, .slice a7 ((y_9).length) c8] rfl rfl rfl rfl rfl rfl rfl ?_
    refine WO.cls (C' := St w0 m m12 [[⟨b2, 25, [.int .i64 p0_0, .int .i64 p0_1, .int .i64 p0_2, .int .i64 p0_3, .int .i64 p0_4, .slice a_p0_5 p0_5.length c_p0_5]⟩], [⟨b3, 25, [.int .i64 y_4, .int .i64 y_5, .int .i64 y_6, .int .i64 y_7, .int .i64 y_8, .slice a7 ((y_9).length) c8]⟩], L10]) (fun _ h => h) ?_
    refine WO_pure tbok 1 [(4, .pointer (some ⟨b3, 0, none⟩)), (5, .int .i64 0)] rfl ⟨rfl, rfl, trivial⟩ ?_
    refine WO_end ?_
    cases hm
    exact WK_ret (ret_out (L := []) (RLc_cell tbok 1 rfl rfl rfl (RLc_tmp rfl RLc_nil)) (List.nil_sublist _) ⟨a7, _, c8, rfl, h14⟩)
def terrain_Dilate_Q (r : Int × Int × Int × Int × Int × List Int × Int) : Value → Mu → List Ent → Prop := fun v m L => ∃ (a0 : Option Addr) (q0 c0 : Nat), v = .tuple #[.agg #[.int .i64 r.1, .int .i64 r.2.1, .int .i64 r.2.2.1, .int .i64 r.2.2.2.1, .int .i64 r.2.2.2.2.1, .slice a0 q0 c0], .int .i64 r.2.2.2.2.2.2] ∧ SlR (FE (I1 .i64)) 1 m (.slice a0 q0 c0) r.2.2.2.2.2.1
theorem terrain_Dilate_walk {m : Mu} {p0_0 : Int} {p0_1 : Int} {p0_2 : Int} {p0_3 : Int} {p0_4 : Int} {p0_5 : List Int} {p1 : Int} {a_p0_5 : Option Addr} {q_p0_5 c_p0_5 : Nat} (h_p0_5 : SlR (FE (I1 .i64)) 1 m (.slice a_p0_5 q_p0_5 c_p0_5) p0_5) {r : Int × Int × Int × Int × Int × List Int × Int} (hm : terrain_Dilate p0_0 p0_1 p0_2 p0_3 p0_4 p0_5 p1 = some r) :
    Go.E.Spec Try.prog 25 [.agg #[.int .i64 p0_0, .int .i64 p0_1, .int .i64 p0_2, .int .i64 p0_3, .int .i64 p0_4, .slice a_p0_5 q_p0_5 c_p0_5], .int .i64 p1] m (terrain_Dilate_Q r) := by
  refine Spec_enter Try.func25 rfl rfl rfl (fun w0 => ?_)
  refine WK.sub (e' := [(0, .agg #[.int .i64 p0_0, .int .i64 p0_1, .int .i64 p0_2, .int .i64 p0_3, .int .i64 p0_4, .slice a_p0_5 q_p0_5 c_p0_5]), (1, .int .i64 p1)]) ⟨rfl, rfl, trivial⟩ ?_
  obtain rfl := SlR.qlen h_p0_5
  refine WK.sub (e' := [(0, .agg #[.int .i64 p0_0, .int .i64 p0_1, .int .i64 p0_2, .int .i64 p0_3, .int .i64 p0_4, .slice a_p0_5 p0_5.length c_p0_5]), (1, .int .i64 p1)]) ⟨rfl, rfl, trivial⟩ ?_
  unfold terrain_Dilate at hm
  refine WK_seq ?_
  refine WK_region ?_
  refine WO_box [.int .i64 p0_0, .int .i64 p0_1, .int .i64 p0_2, .int .i64 p0_3, .int .i64 p0_4, .slice a_p0_5 p0_5.length c_p0_5] rfl rfl trivial rfl rfl rfl (fun b2 => ?_)
  refine WO.cls (C' := St w0 m m [[⟨b2, 25, [.int .i64 p0_0, .int .i64 p0_1, .int .i64 p0_2, .int .i64 p0_3, .int .i64 p0_4, .slice a_p0_5 p0_5.length c_p0_5]⟩]]) (fun _ h => h) ?_
  refine WO_alloc tbok [.int .i64 0, .int .i64 0, .int .i64 0, .int .i64 0, .int .i64 0, .slice none 0 0] rfl rfl trivial rfl rfl rfl rfl (fun b3 => ?_)
  refine WO.cls (C' := St w0 m m [[⟨b2, 25, [.int .i64 p0_0, .int .i64 p0_1, .int .i64 p0_2, .int .i64 p0_3, .int .i64 p0_4, .slice a_p0_5 p0_5.length c_p0_5]⟩], [⟨b3, 25, [.int .i64 0, .int .i64 0, .int .i64 0, .int .i64 0, .int .i64 0, .slice none 0 0]⟩]]) (fun _ h => h) ?_
  refine WO_pure tbok 1 [(1, .int .i64 p1), (2, .pointer (some ⟨b2, 0, none⟩)), (4, .pointer (some ⟨b3, 0, none⟩)), (5, .int .i64 0)] rfl ⟨rfl, rfl, rfl, rfl, trivial⟩ ?_
  refine WO_end ?_
  refine WK_seq ?_
  refine WK_seq ?_
  refine WK_region ?_
  refine WO_loadB tbok 0 rfl rfl rfl rfl (fun _ h => h) rfl rfl ?_
  refine WO_pure tbok 1 [(1, .int .i64 p1), (2, .pointer (some ⟨b2, 0, none⟩)), (4, .pointer (some ⟨b3, 0, none⟩)), (5, .int .i64 0), (7, .agg #[.int .i64 p0_0, .int .i64 p0_1, .int .i64 p0_2, .int .i64 p0_3, .int .i64 p0_4, .slice a_p0_5 p0_5.length c_p0_5]), (8, .int .i64 p1)] rfl ⟨rfl, rfl, rfl, rfl, rfl, rfl, trivial⟩ ?_
  obtain ⟨y_1, hc4, hm⟩ := bind_some hm
  refine WO_call0 (.int .i64 y_1) rfl rfl trivial rfl rfl rfl rfl St_closed ⟨51, #[], #[], rfl, callable_51, fun w hw => ⟨_, hw.sat, terrain_checked_walk h_p0_5 hc4⟩⟩ ?_
  refine WO_pure tbok 1 [(1, .int .i64 p1), (2, .pointer (some ⟨b2, 0, none⟩)), (4, .pointer (some ⟨b3, 0, none⟩)), (5, .int .i64 0), (6, .int .i64 y_1)] rfl ⟨rfl, rfl, rfl, rfl, rfl, trivial⟩ ?_
  refine WO_end ?_
  refine WK_seq ?_
  refine WK_region ?_
  refine WO_pure tbok 2 [(1, .int .i64 p1), (2, .pointer (some ⟨b2, 0, none⟩)), (4, .pointer (some ⟨b3, 0, none⟩)), (5, .int .i64 0), (6, .int .i64 y_1), (11, .bool (y_1 != 0))] rfl ⟨rfl, rfl, rfl, rfl, rfl, rfl, trivial⟩ ?_
  refine WO_end ?_
  refine WK_cond (b := y_1 != 0) rfl (fun hb5 => ?_) (fun hb5 => ?_)
  · have hm := ifT hb5 hm
    refine WK_seq ?_
    refine WK_region ?_
    refine WO_pure tbok 2 [(1, .int .i64 p1), (2, .pointer (some ⟨b2, 0, none⟩)), (4, .pointer (some ⟨b3, 0, none⟩)), (5, .int .i64 0), (12, .agg #[.int .i64 0, .int .i64 0, .int .i64 0, .int .i64 0, .int .i64 0, .slice none 0 0]), (13, .int .i64 y_1)] rfl ⟨rfl, rfl, rfl, rfl, rfl, rfl, trivial⟩ ?_
    refine WO_storeB tbok 1 [.int .i64 0, .int .i64 0, .int .i64 0, .int .i64 0, .int .i64 0, .slice none 0 0] rfl rfl rfl rfl rfl rfl rfl ?_
    refine WO.cls (C' := St w0 m m [[⟨b2, 25, [.int .i64 p0_0, .int .i64 p0_1, .int .i64 p0_2, .int .i64 p0_3, .int .i64 p0_4, .slice a_p0_5 p0_5.length c_p0_5]⟩], [⟨b3, 25, [.int .i64 0, .int .i64 0, .int .i64 0, .int .i64 0, .int .i64 0, .slice none 0 0]⟩]]) (fun _ h => h) ?_
    refine WO_pure tbok 1 [(1, .int .i64 p1), (2, .pointer (some ⟨b2, 0, none⟩)), (4, .pointer (some ⟨b3, 0, none⟩)), (5, .int .i64 y_1)] rfl ⟨rfl, rfl, rfl, rfl, trivial⟩ ?_
    refine WO_end ?_
    cases hm
    exact WK_ret (ret_out (L := []) (RLc_cell tbok 1 rfl rfl rfl (RLc_tmp rfl RLc_nil)) (List.nil_sublist _) ⟨none, 0, 0, rfl, SlR_nil⟩)
  · have hm := ifF hb5 hm
    refine WK_skip ?_
    refine WK_seq ?_
    refine WK_region ?_
    refine WO_loadB tbok 0 rfl rfl rfl rfl (fun _ h => h) rfl rfl ?_
    refine WO_pure tbok 1 [(4, .pointer (some ⟨b3, 0, none⟩)), (5, .int .i64 0), (14, .agg #[.int .i64 p0_0, .int .i64 p0_1, .int .i64 p0_2, .int .i64 p0_3, .int .i64 p0_4, .slice a_p0_5 p0_5.length c_p0_5]), (15, .int .i64 p1)] rfl ⟨rfl, rfl, rfl, rfl, trivial⟩ ?_
    obtain ⟨⟨y_4, y_5, y_6, y_7, y_8, y_9⟩, hc6, hm⟩ := bind_some hm
    refine WO_call2 (terrain_filtered_Q (y_4, y_5, y_6, y_7, y_8, y_9)) rfl rfl trivial rfl rfl rfl rfl ⟨52, #[], #[], rfl, callable_52, terrain_filtered_walk h_p0_5 (fun m1 hm1 z_2 z_3 _ h => specV_cap callable_54 (terrain_greatest_walk h)) hc6⟩ (fun v11 m12 L10 hle13 hq => ?_)
    obtain ⟨a7, qa7, c8, rfl, h14⟩ := hq
    obtain rfl := SlR.qlen h14
    refine WO.cls (C' := St w0 m m12 [[⟨b2, 25, [.int .i64 p0_0, .int .i64 p0_1, .int .i64 p0_2, .int .i64 p0_3, .int .i64 p0_4, .slice a_p0_5 p0_5.length c_p0_5]⟩], [⟨b3, 25, [.int .i64 0, .int .i64 0, .int .i64 0, .int .i64 0, .int .i64 0, .slice none 0 0]⟩], L10]) (fun _ h => h.sub (by simp)) ?_
    refine WO_storeB tbok 1 [.int .i64 y_4, .int .i64 y_5, .int .i64 y_6, .int .i64 y_7, .int .i64 y_8, .slice a7 ((y_9).length) c8] rfl rfl rfl rfl rfl rfl rfl ?_
    refine WO.cls (C' := St w0 m m12 [[⟨b2, 25, [.int .i64 p0_0, .int .i64 p0_1, .int .i64 p0_2, .int .i64 p0_3, .int .i64 p0_4, .slice a_p0_5 p0_5.length c_p0_5]⟩], [⟨b3, 25, [.int .i64 y_4, .int .i64 y_5, .int .i64 y_6, .int .i64 y_7, .int .i64 y_8, .slice a7 ((y_9).length) c8]⟩], L10]) (fun _ h => h) ?_
    refine WO_pure tbok 1 [(4, .pointer (some ⟨b3, 0, none⟩)), (5, .int .i64 0)] rfl ⟨rfl, rfl, trivial⟩ ?_
    refine WO_end ?_
    cases hm
    exact WK_ret (ret_out (L := []) (RLc_cell tbok 1 rfl rfl rfl (RLc_tmp rfl RLc_nil)) (List.nil_sublist _) ⟨a7, _, c8, rfl, h14⟩)
end Go.Proofs.Ytcaeieofjchpjaa
