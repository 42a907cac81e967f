import Derived.Test.YtcaeieofjchpjaaTab
import Derived.Test.YtcaeieofjchpjaaM
import Derived.Test.YtcaeieofjchpjaaW3
set_option linter.unusedVariables false
set_option maxRecDepth 100000
set_option maxHeartbeats 4000000
namespace Go.Proofs.Ytcaeieofjchpjaa
open Go.E Go.RowKit
attribute [local irreducible] Go.E.WO Go.E.WK
def fiduciallaw48_window_Q (r : List Int) : Value → List Ent → Prop := fun v L => ∃ (a0 : Option Addr) (q0 c0 : Nat), v = .slice a0 q0 c0 ∧ OwnE 3 1 (I1 .i64) (.slice a0 q0 c0) r L
theorem fiduciallaw48_window_walk {m : Mu} {p0_0 : Int} {p0_1 : Int} {p0_2 : Int} {p0_3 : Int} {p0_4 : Int} {p0_5 : List Int} {p1 : Int} {p2 : Int} {a_p0_5 : Option Addr} {q_p0_5 c_p0_5 : Nat} (h_p0_5 : SlR (FE (I1 .i64)) 1 m (.slice a_p0_5 q_p0_5 c_p0_5) p0_5) {r : List Int} (hm : fiduciallaw48_window p0_0 p0_1 p0_2 p0_3 p0_4 p0_5 p1 p2 = some r) :
    Go.E.Spec Try.prog 55 [.agg #[.int .i64 p0_0, .int .i64 p0_1, .int .i64 p0_2, .int .i64 p0_3, .int .i64 p0_4, .slice a_p0_5 q_p0_5 c_p0_5], .int .i64 p1, .int .i64 p2] m (fun v _ L => fiduciallaw48_window_Q r v L) := by
  refine Spec_enter Try.func55 rfl rfl rfl (fun w0 => ?_)
  refine WK.sub (e' := [(0, .agg #[.int .i64 p0_0, .int .i64 p0_1, .int .i64 p0_2, .int .i64 p0_3, .int .i64 p0_4, .slice a_p0_5 q_p0_5 c_p0_5]), (1, .int .i64 p1), (2, .int .i64 p2)]) ⟨rfl, rfl, rfl, trivial⟩ ?_
  obtain rfl := SlR.qlen h_p0_5
  refine WK.sub (e' := [(0, .agg #[.int .i64 p0_0, .int .i64 p0_1, .int .i64 p0_2, .int .i64 p0_3, .int .i64 p0_4, .slice a_p0_5 p0_5.length c_p0_5]), (1, .int .i64 p1), (2, .int .i64 p2)]) ⟨rfl, rfl, rfl, trivial⟩ ?_
  unfold fiduciallaw48_window at hm
  refine WK_seq ?_
  refine WK_region ?_
  refine WO_box [.int .i64 p0_0, .int .i64 p0_1, .int .i64 p0_2, .int .i64 p0_3, .int .i64 p0_4, .slice a_p0_5 p0_5.length c_p0_5] rfl rfl trivial rfl rfl rfl (fun b1 => ?_)
  refine WO.cls (C' := St w0 m m [[⟨b1, 25, [.int .i64 p0_0, .int .i64 p0_1, .int .i64 p0_2, .int .i64 p0_3, .int .i64 p0_4, .slice a_p0_5 p0_5.length c_p0_5]⟩]]) (fun _ h => h) ?_
  refine WO_pure tbok 1 [(1, .int .i64 p1), (2, .int .i64 p2), (3, .pointer (some ⟨b1, 0, none⟩)), (6, .slice none 0 0)] rfl ⟨rfl, rfl, rfl, rfl, trivial⟩ ?_
  refine WO_end ?_
  refine WK_seq ?_
  refine WK_region ?_
  refine WO_pure tbok 1 [(1, .int .i64 p1), (2, .int .i64 p2), (3, .pointer (some ⟨b1, 0, none⟩)), (6, .slice none 0 0), (7, .slice none 0 0)] rfl ⟨rfl, rfl, rfl, rfl, rfl, trivial⟩ ?_
  refine WO_end ?_
  refine WK_seq ?_
  refine WK_draw 10 [0, 1, 2, 3, 4, 5, 6, 7, 8, 9] follows_ok (by kernel_rfl) St_closed ?_
  refine WO_pure tbok 2 [(1, .int .i64 p1), (2, .int .i64 p2), (3, .pointer (some ⟨b1, 0, none⟩)), (6, .slice none 0 0), (7, .slice none 0 0), (13, .int .i64 p1), (14, .pointer (some ⟨b1, 3, none⟩))] rfl ⟨rfl, rfl, rfl, rfl, rfl, rfl, rfl, trivial⟩ ?_
  refine WO_loadB tbok 0 rfl rfl rfl rfl (fun _ h => h) rfl rfl ?_
  obtain ⟨hc2, hm⟩ := chk_some hm
  refine WO_rem rfl rfl rfl rfl rfl hc2 ?_
  refine WO_pure tbok 2 [(2, .int .i64 p2), (3, .pointer (some ⟨b1, 0, none⟩)), (6, .slice none 0 0), (7, .slice none 0 0), (16, .int .i64 (Int.tmod p1 p0_3)), (17, .int .i64 p1), (18, .pointer (some ⟨b1, 3, none⟩))] rfl ⟨rfl, rfl, rfl, rfl, rfl, rfl, rfl, trivial⟩ ?_
  refine WO_loadB tbok 0 rfl rfl rfl rfl (fun _ h => h) rfl rfl ?_
  obtain ⟨hc3, hm⟩ := chk_some hm
  refine WO_quo rfl rfl rfl rfl rfl hc3 ?_
  refine WO_pure tbok 2 [(2, .int .i64 p2), (3, .pointer (some ⟨b1, 0, none⟩)), (6, .slice none 0 0), (7, .slice none 0 0), (8, .int .i64 (Int.tmod p1 p0_3)), (9, .int .i64 (w64 (Int.tdiv p1 p0_3)))] rfl ⟨rfl, rfl, rfl, rfl, rfl, rfl, trivial⟩ ?_
  refine WO_tail ?_
  refine WO_end ?_
  refine WK_seq ?_
  refine WK_seq ?_
  refine WK_region ?_
  refine WO_pure tbok 5 [(2, .int .i64 p2), (3, .pointer (some ⟨b1, 0, none⟩)), (6, .slice none 0 0), (7, .slice none 0 0), (8, .int .i64 (Int.tmod p1 p0_3)), (9, .int .i64 (w64 (Int.tdiv p1 p0_3))), (10, .int .i64 (if (w64 ((w64 (Int.tdiv p1 p0_3)) - p2)) < 0 then 0 else (w64 ((w64 (Int.tdiv p1 p0_3)) - p2))))] rfl ⟨rfl, rfl, rfl, rfl, rfl, rfl, rfl, trivial⟩ ?_
  refine WO_end ?_
  refine WK_pad ?_
  obtain ⟨x12, hx13, hm⟩ := bind_some hm
  refine WK_join (β := (List Int) × (Option Addr × Nat × Nat × List Ent)) (fun p => p.1 = x12 ∧ OwnE 3 1 (I1 .i64) (.slice p.2.1 p.2.2.1 p.2.2.2.1) p.1 p.2.2.2.2) (fun p => [(6, .slice none 0 0), (7, .slice p.2.1 p.2.2.1 p.2.2.2.1)]) (fun p => St w0 m m [[⟨b1, 25, [.int .i64 p0_0, .int .i64 p0_1, .int .i64 p0_2, .int .i64 p0_3, .int .i64 p0_4, .slice a_p0_5 p0_5.length c_p0_5]⟩], p.2.2.2.2]) ?_ (fun hk14 => ?_)
  · rintro ⟨l_3, ⟨a9, q10, c11, L8⟩⟩ ⟨hq20, hL8⟩
    subst hq20
    have hqq : q10 = l_3.length := OwnE.qlen hL8
    subst hqq
    refine WK.sub (e' := [(6, .slice none 0 0), (7, .slice a9 ((l_3).length) c11)]) ⟨rfl, rfl, trivial⟩ (WK.cls (C' := St w0 m m [[⟨b1, 25, [.int .i64 p0_0, .int .i64 p0_1, .int .i64 p0_2, .int .i64 p0_3, .int .i64 p0_4, .slice a_p0_5 p0_5.length c_p0_5]⟩], L8]) (fun _ h => h) ?_)
    refine WK_seq ?_
    refine WK_region ?_
    refine WO_pure tbok 2 [(6, .slice a9 ((l_3).length) c11)] rfl ⟨rfl, trivial⟩ ?_
    refine WO_end ?_
    cases hm
    exact WK_ret (ret_out (L := L8) (RLc_tmp rfl RLc_nil) (seg_sub 1 rfl) ⟨a9, _, c11, rfl, hL8⟩)
  · refine WK_block ?_
    refine WK_loop (S := List Int × Int) (G := Option Addr × Nat × Nat × List Ent) (fun s => fiduciallaw48_window_s1 p0_3 p0_4 p0_5 p1 p2 s.1 s.2) (fun s g => [(2, .int .i64 p2), (3, .pointer (some ⟨b1, 0, none⟩)), (6, .slice none 0 0), (7, .slice g.1 g.2.1 g.2.2.1), (8, .int .i64 (Int.tmod p1 p0_3)), (9, .int .i64 (w64 (Int.tdiv p1 p0_3))), (10, .int .i64 s.2)]) (fun s g => St w0 m m [[⟨b1, 25, [.int .i64 p0_0, .int .i64 p0_1, .int .i64 p0_2, .int .i64 p0_3, .int .i64 p0_4, .slice a_p0_5 p0_5.length c_p0_5]⟩], g.2.2.2]) (fun s g => OwnE 3 1 (I1 .i64) (.slice g.1 g.2.1 g.2.2.1) s.1 g.2.2.2) FUEL (([] : List Int), (if (w64 ((w64 (Int.tdiv p1 p0_3)) - p2)) < 0 then 0 else (w64 ((w64 (Int.tdiv p1 p0_3)) - p2)))) (none, 0, 0, []) x12 hx13 (OwnE.nil (T := 3) (k := 1) (E := (I1 .i64)) none) ⟨rfl, rfl, rfl, rfl, rfl, rfl, rfl, trivial⟩ (fun _ h => h) ?_
    rintro ⟨l_1, s_2⟩ ⟨a5, q6, c7, L4⟩ o16 fl17 hm15 hL4 hn18 hd19
    have hm15 : fiduciallaw48_window_s1 p0_3 p0_4 p0_5 p1 p2 l_1 s_2 = some o16 := hm15
    unfold fiduciallaw48_window_s1 at hm15
    have hqq : q6 = l_1.length := OwnE.qlen hL4
    subst hqq
    refine WK.sub (e' := [(2, .int .i64 p2), (3, .pointer (some ⟨b1, 0, none⟩)), (6, .slice none 0 0), (7, .slice a5 ((l_1).length) c7), (8, .int .i64 (Int.tmod p1 p0_3)), (9, .int .i64 (w64 (Int.tdiv p1 p0_3))), (10, .int .i64 s_2)]) ⟨rfl, rfl, rfl, rfl, rfl, rfl, rfl, trivial⟩ (WK.cls (C' := St w0 m m [[⟨b1, 25, [.int .i64 p0_0, .int .i64 p0_1, .int .i64 p0_2, .int .i64 p0_3, .int .i64 p0_4, .slice a_p0_5 p0_5.length c_p0_5]⟩], L4]) (fun _ h => h) ?_)
    refine WK_seq ?_
    refine WK_seq ?_
    refine WK_region ?_
    refine WO_pure tbok 5 [(2, .int .i64 p2), (3, .pointer (some ⟨b1, 0, none⟩)), (6, .slice none 0 0), (7, .slice a5 ((l_1).length) c7), (8, .int .i64 (Int.tmod p1 p0_3)), (9, .int .i64 (w64 (Int.tdiv p1 p0_3))), (10, .int .i64 s_2), (25, .int .i64 s_2), (28, .int .i64 (w64 ((w64 (Int.tdiv p1 p0_3)) + p2))), (29, .pointer (some ⟨b1, 4, none⟩))] rfl ⟨rfl, rfl, rfl, rfl, rfl, rfl, rfl, rfl, rfl, rfl, trivial⟩ ?_
    refine WO_loadB tbok 0 rfl rfl rfl rfl (fun _ h => h) rfl rfl ?_
    refine WO_pure tbok 3 [(2, .int .i64 p2), (3, .pointer (some ⟨b1, 0, none⟩)), (6, .slice none 0 0), (7, .slice a5 ((l_1).length) c7), (8, .int .i64 (Int.tmod p1 p0_3)), (9, .int .i64 (w64 (Int.tdiv p1 p0_3))), (10, .int .i64 s_2), (33, .bool (decide (s_2 ≤ (if (w64 (p0_4 - 1)) < (w64 ((w64 (Int.tdiv p1 p0_3)) + p2)) then (w64 (p0_4 - 1)) else (w64 ((w64 (Int.tdiv p1 p0_3)) + p2))))))] rfl ⟨rfl, rfl, rfl, rfl, rfl, rfl, rfl, rfl, trivial⟩ ?_
    refine WO_end ?_
    refine WK_cond (b := decide (s_2 ≤ (if (w64 (p0_4 - 1)) < (w64 ((w64 (Int.tdiv p1 p0_3)) + p2)) then (w64 (p0_4 - 1)) else (w64 ((w64 (Int.tdiv p1 p0_3)) + p2))))) rfl (fun hb21 => ?_) (fun hb21 => ?_)
    · have hm15 := ifT hb21 hm15
      refine WK_skip ?_
      refine WK_seq ?_
      refine WK_block ?_
      refine WK_seq ?_
      refine WK_region ?_
      refine WO_pure tbok 5 [(2, .int .i64 p2), (3, .pointer (some ⟨b1, 0, none⟩)), (6, .slice none 0 0), (7, .slice a5 ((l_1).length) c7), (8, .int .i64 (Int.tmod p1 p0_3)), (9, .int .i64 (w64 (Int.tdiv p1 p0_3))), (10, .int .i64 s_2), (11, .int .i64 (if (w64 ((Int.tmod p1 p0_3) - p2)) < 0 then 0 else (w64 ((Int.tmod p1 p0_3) - p2))))] rfl ⟨rfl, rfl, rfl, rfl, rfl, rfl, rfl, rfl, trivial⟩ ?_
      refine WO_end ?_
      obtain ⟨x30, hx31, hm15⟩ := bind_some hm15
      refine WK_join (β := (List Int) × (Option Addr × Nat × Nat × List Ent)) (fun p => p.1 = x30 ∧ OwnE 3 1 (I1 .i64) (.slice p.2.1 p.2.2.1 p.2.2.2.1) p.1 p.2.2.2.2) (fun p => [(2, .int .i64 p2), (3, .pointer (some ⟨b1, 0, none⟩)), (6, .slice none 0 0), (7, .slice p.2.1 p.2.2.1 p.2.2.2.1), (8, .int .i64 (Int.tmod p1 p0_3)), (9, .int .i64 (w64 (Int.tdiv p1 p0_3))), (10, .int .i64 s_2)]) (fun p => St w0 m m [[⟨b1, 25, [.int .i64 p0_0, .int .i64 p0_1, .int .i64 p0_2, .int .i64 p0_3, .int .i64 p0_4, .slice a_p0_5 p0_5.length c_p0_5]⟩], p.2.2.2.2]) ?_ (fun hk32 => ?_)
      · rintro ⟨l_6, ⟨a27, q28, c29, L26⟩⟩ ⟨hq38, hL26⟩
        subst hq38
        have hqq : q28 = l_6.length := OwnE.qlen hL26
        subst hqq
        refine WK.sub (e' := [(2, .int .i64 p2), (3, .pointer (some ⟨b1, 0, none⟩)), (6, .slice none 0 0), (7, .slice a27 ((l_6).length) c29), (8, .int .i64 (Int.tmod p1 p0_3)), (9, .int .i64 (w64 (Int.tdiv p1 p0_3))), (10, .int .i64 s_2)]) ⟨rfl, rfl, rfl, rfl, rfl, rfl, rfl, trivial⟩ (WK.cls (C' := St w0 m m [[⟨b1, 25, [.int .i64 p0_0, .int .i64 p0_1, .int .i64 p0_2, .int .i64 p0_3, .int .i64 p0_4, .slice a_p0_5 p0_5.length c_p0_5]⟩], L26]) (fun _ h => h) ?_)
        refine WK_blk ?_
        refine WK_region ?_
        refine WO_pure tbok 3 [(2, .int .i64 p2), (3, .pointer (some ⟨b1, 0, none⟩)), (6, .slice none 0 0), (7, .slice a27 ((l_6).length) c29), (8, .int .i64 (Int.tmod p1 p0_3)), (9, .int .i64 (w64 (Int.tdiv p1 p0_3))), (10, .int .i64 (w64 (s_2 + 1)))] rfl ⟨rfl, rfl, rfl, rfl, rfl, rfl, rfl, trivial⟩ ?_
        refine WO_end ?_
        cases hm15
        refine WK.sub ?_ (WK.cls (fun _ h => h) (hn18 _ (a27, _, c29, L26) rfl hL26))
        exact ⟨rfl, rfl, rfl, rfl, rfl, rfl, rfl, trivial⟩
      · refine WK_block ?_
        refine WK_loop (S := List Int × Int) (G := Option Addr × Nat × Nat × List Ent) (fun s => fiduciallaw48_window_s2 p0_3 p0_5 p1 p2 s_2 s.1 s.2) (fun s g => [(2, .int .i64 p2), (3, .pointer (some ⟨b1, 0, none⟩)), (6, .slice none 0 0), (7, .slice g.1 g.2.1 g.2.2.1), (8, .int .i64 (Int.tmod p1 p0_3)), (9, .int .i64 (w64 (Int.tdiv p1 p0_3))), (10, .int .i64 s_2), (11, .int .i64 s.2)]) (fun s g => St w0 m m [[⟨b1, 25, [.int .i64 p0_0, .int .i64 p0_1, .int .i64 p0_2, .int .i64 p0_3, .int .i64 p0_4, .slice a_p0_5 p0_5.length c_p0_5]⟩], g.2.2.2]) (fun s g => OwnE 3 1 (I1 .i64) (.slice g.1 g.2.1 g.2.2.1) s.1 g.2.2.2) FUEL (l_1, (if (w64 ((Int.tmod p1 p0_3) - p2)) < 0 then 0 else (w64 ((Int.tmod p1 p0_3) - p2)))) (a5, _, c7, L4) x30 hx31 hL4 ⟨rfl, rfl, rfl, rfl, rfl, rfl, rfl, rfl, trivial⟩ (fun _ h => h) ?_
        rintro ⟨l_4, s_5⟩ ⟨a23, q24, c25, L22⟩ o34 fl35 hm33 hL22 hn36 hd37
        have hm33 : fiduciallaw48_window_s2 p0_3 p0_5 p1 p2 s_2 l_4 s_5 = some o34 := hm33
        unfold fiduciallaw48_window_s2 at hm33
        have hqq : q24 = l_4.length := OwnE.qlen hL22
        subst hqq
        refine WK.sub (e' := [(2, .int .i64 p2), (3, .pointer (some ⟨b1, 0, none⟩)), (6, .slice none 0 0), (7, .slice a23 ((l_4).length) c25), (8, .int .i64 (Int.tmod p1 p0_3)), (9, .int .i64 (w64 (Int.tdiv p1 p0_3))), (10, .int .i64 s_2), (11, .int .i64 s_5)]) ⟨rfl, rfl, rfl, rfl, rfl, rfl, rfl, rfl, trivial⟩ (WK.cls (C' := St w0 m m [[⟨b1, 25, [.int .i64 p0_0, .int .i64 p0_1, .int .i64 p0_2, .int .i64 p0_3, .int .i64 p0_4, .slice a_p0_5 p0_5.length c_p0_5]⟩], L22]) (fun _ h => h) ?_)
        refine WK_seq ?_
        refine WK_seq ?_
        refine WK_region ?_
        refine WO_pure tbok 5 [(2, .int .i64 p2), (3, .pointer (some ⟨b1, 0, none⟩)), (6, .slice none 0 0), (7, .slice a23 ((l_4).length) c25), (8, .int .i64 (Int.tmod p1 p0_3)), (9, .int .i64 (w64 (Int.tdiv p1 p0_3))), (10, .int .i64 s_2), (11, .int .i64 s_5), (40, .int .i64 s_5), (43, .int .i64 (w64 ((Int.tmod p1 p0_3) + p2))), (44, .pointer (some ⟨b1, 3, none⟩))] rfl ⟨rfl, rfl, rfl, rfl, rfl, rfl, rfl, rfl, rfl, rfl, rfl, trivial⟩ ?_
        refine WO_loadB tbok 0 rfl rfl rfl rfl (fun _ h => h) rfl rfl ?_
        refine WO_pure tbok 3 [(2, .int .i64 p2), (3, .pointer (some ⟨b1, 0, none⟩)), (6, .slice none 0 0), (7, .slice a23 ((l_4).length) c25), (8, .int .i64 (Int.tmod p1 p0_3)), (9, .int .i64 (w64 (Int.tdiv p1 p0_3))), (10, .int .i64 s_2), (11, .int .i64 s_5), (48, .bool (decide (s_5 ≤ (if (w64 (p0_3 - 1)) < (w64 ((Int.tmod p1 p0_3) + p2)) then (w64 (p0_3 - 1)) else (w64 ((Int.tmod p1 p0_3) + p2))))))] rfl ⟨rfl, rfl, rfl, rfl, rfl, rfl, rfl, rfl, rfl, trivial⟩ ?_
        refine WO_end ?_
        refine WK_cond (b := decide (s_5 ≤ (if (w64 (p0_3 - 1)) < (w64 ((Int.tmod p1 p0_3) + p2)) then (w64 (p0_3 - 1)) else (w64 ((Int.tmod p1 p0_3) + p2))))) rfl (fun hb39 => ?_) (fun hb39 => ?_)
        · have hm33 := ifT hb39 hm33
          refine WK_skip ?_
          refine WK_seq ?_
          refine WK_block ?_
          refine WK_seq ?_
          refine WK_region ?_
          refine WO_pure tbok 1 [(2, .int .i64 p2), (3, .pointer (some ⟨b1, 0, none⟩)), (6, .slice none 0 0), (7, .slice a23 ((l_4).length) c25), (8, .int .i64 (Int.tmod p1 p0_3)), (9, .int .i64 (w64 (Int.tdiv p1 p0_3))), (10, .int .i64 s_2), (11, .int .i64 s_5), (51, .pointer (some ⟨b1, 5, none⟩))] rfl ⟨rfl, rfl, rfl, rfl, rfl, rfl, rfl, rfl, rfl, trivial⟩ ?_
          refine WO_loadB tbok 0 rfl rfl rfl rfl (fun _ h => h) rfl rfl ?_
          refine WO_pure tbok 2 [(2, .int .i64 p2), (3, .pointer (some ⟨b1, 0, none⟩)), (6, .slice none 0 0), (7, .slice a23 ((l_4).length) c25), (8, .int .i64 (Int.tmod p1 p0_3)), (9, .int .i64 (w64 (Int.tdiv p1 p0_3))), (10, .int .i64 s_2), (11, .int .i64 s_5), (52, .slice a_p0_5 p0_5.length c_p0_5), (53, .int .i64 s_2), (54, .pointer (some ⟨b1, 3, none⟩))] rfl ⟨rfl, rfl, rfl, rfl, rfl, rfl, rfl, rfl, rfl, rfl, rfl, trivial⟩ ?_
          refine WO_loadB tbok 0 rfl rfl rfl rfl (fun _ h => h) rfl rfl ?_
          refine WO_pure tbok 3 [(2, .int .i64 p2), (3, .pointer (some ⟨b1, 0, none⟩)), (6, .slice none 0 0), (7, .slice a23 ((l_4).length) c25), (8, .int .i64 (Int.tmod p1 p0_3)), (9, .int .i64 (w64 (Int.tdiv p1 p0_3))), (10, .int .i64 s_2), (11, .int .i64 s_5), (52, .slice a_p0_5 p0_5.length c_p0_5), (58, .int .i64 (w64 ((w64 (s_2 * p0_3)) + s_5)))] rfl ⟨rfl, rfl, rfl, rfl, rfl, rfl, rfl, rfl, rfl, rfl, trivial⟩ ?_
          obtain ⟨v_7, hy40, hm33⟩ := bind_some hm33
          obtain ⟨hc41, hy40⟩ := ix_some hy40
          refine WO_index tbok rfl rfl rfl rfl rfl rfl rfl rfl (SlR.addr h_p0_5) hc41 ?_
          refine WO_loadE tbok rfl rfl rfl rfl (fun _ h => St.sat h) h_p0_5 hy40 rfl ?_
          refine WO_pure tbok 1 [(2, .int .i64 p2), (3, .pointer (some ⟨b1, 0, none⟩)), (6, .slice none 0 0), (7, .slice a23 ((l_4).length) c25), (8, .int .i64 (Int.tmod p1 p0_3)), (9, .int .i64 (w64 (Int.tdiv p1 p0_3))), (10, .int .i64 s_2), (11, .int .i64 s_5), (12, .int .i64 v_7)] rfl ⟨rfl, rfl, rfl, rfl, rfl, rfl, rfl, rfl, rfl, trivial⟩ ?_
          refine WO_end ?_
          refine WK_seq ?_
          refine WK_region ?_
          refine WO_pure tbok 2 [(2, .int .i64 p2), (3, .pointer (some ⟨b1, 0, none⟩)), (6, .slice none 0 0), (7, .slice a23 ((l_4).length) c25), (8, .int .i64 (Int.tmod p1 p0_3)), (9, .int .i64 (w64 (Int.tdiv p1 p0_3))), (10, .int .i64 s_2), (11, .int .i64 s_5), (12, .int .i64 v_7), (62, .bool (v_7 != (-2147483648)))] rfl ⟨rfl, rfl, rfl, rfl, rfl, rfl, rfl, rfl, rfl, rfl, trivial⟩ ?_
          refine WO_end ?_
          obtain ⟨l_8, hx46, hm33⟩ := bind_some hm33
          refine WK_join (β := Option Addr × Nat × Nat × List Ent) (fun p => OwnE 3 1 (I1 .i64) (.slice p.1 p.2.1 p.2.2.1) l_8 p.2.2.2) (fun p => [(2, .int .i64 p2), (3, .pointer (some ⟨b1, 0, none⟩)), (6, .slice none 0 0), (7, .slice p.1 p.2.1 p.2.2.1), (8, .int .i64 (Int.tmod p1 p0_3)), (9, .int .i64 (w64 (Int.tdiv p1 p0_3))), (10, .int .i64 s_2), (11, .int .i64 s_5)]) (fun p => St w0 m m [[⟨b1, 25, [.int .i64 p0_0, .int .i64 p0_1, .int .i64 p0_2, .int .i64 p0_3, .int .i64 p0_4, .slice a_p0_5 p0_5.length c_p0_5]⟩], p.2.2.2]) ?_ (fun hk47 => ?_)
          · rintro ⟨a43, q44, c45, L42⟩ hL42
            have hqq : q44 = l_8.length := OwnE.qlen hL42
            subst hqq
            refine WK.sub (e' := [(2, .int .i64 p2), (3, .pointer (some ⟨b1, 0, none⟩)), (6, .slice none 0 0), (7, .slice a43 ((l_8).length) c45), (8, .int .i64 (Int.tmod p1 p0_3)), (9, .int .i64 (w64 (Int.tdiv p1 p0_3))), (10, .int .i64 s_2), (11, .int .i64 s_5)]) ⟨rfl, rfl, rfl, rfl, rfl, rfl, rfl, rfl, trivial⟩ (WK.cls (C' := St w0 m m [[⟨b1, 25, [.int .i64 p0_0, .int .i64 p0_1, .int .i64 p0_2, .int .i64 p0_3, .int .i64 p0_4, .slice a_p0_5 p0_5.length c_p0_5]⟩], L42]) (fun _ h => h) ?_)
            refine WK_blk ?_
            refine WK_region ?_
            refine WO_pure tbok 3 [(2, .int .i64 p2), (3, .pointer (some ⟨b1, 0, none⟩)), (6, .slice none 0 0), (7, .slice a43 ((l_8).length) c45), (8, .int .i64 (Int.tmod p1 p0_3)), (9, .int .i64 (w64 (Int.tdiv p1 p0_3))), (10, .int .i64 s_2), (11, .int .i64 (w64 (s_5 + 1)))] rfl ⟨rfl, rfl, rfl, rfl, rfl, rfl, rfl, rfl, trivial⟩ ?_
            refine WO_end ?_
            cases hm33
            refine WK.sub ?_ (WK.cls (fun _ h => h) (hn36 _ (a43, _, c45, L42) rfl hL42))
            exact ⟨rfl, rfl, rfl, rfl, rfl, rfl, rfl, rfl, trivial⟩
          · refine WK_cond (b := v_7 != (-2147483648)) rfl (fun hb48 => ?_) (fun hb48 => ?_)
            · have hx46 := ifT hb48 hx46
              refine WK_region ?_
              refine WO_pure tbok 2 [(2, .int .i64 p2), (3, .pointer (some ⟨b1, 0, none⟩)), (6, .slice none 0 0), (7, .slice a23 ((l_4).length) c25), (8, .int .i64 (Int.tmod p1 p0_3)), (9, .int .i64 (w64 (Int.tdiv p1 p0_3))), (10, .int .i64 s_2), (11, .int .i64 s_5), (63, .slice a23 ((l_4).length) c25), (64, .int .i64 v_7)] rfl ⟨rfl, rfl, rfl, rfl, rfl, rfl, rfl, rfl, rfl, rfl, trivial⟩ ?_
              refine WO_bslice (E := (I1 .i64)) tbok (fun _ => rfl) (by decide) [.int .i64 v_7] ([v_7] : List Int) rfl rfl trivial rfl rfl rfl rfl rfl rfl rfl rfl rfl rfl rfl rfl (fun b49 hb49 => ?_)
              refine WO.cls (C' := St w0 m m [[⟨b1, 25, [.int .i64 p0_0, .int .i64 p0_1, .int .i64 p0_2, .int .i64 p0_3, .int .i64 p0_4, .slice a_p0_5 p0_5.length c_p0_5]⟩], L22, [⟨b49, 3, ([v_7] : List Int).flatMap (I1 .i64)⟩]]) (fun _ h => h) ?_
              obtain ⟨hc50, hx46⟩ := chk_some hx46
              refine WO_append (E := (I1 .i64)) tbok (fun _ => rfl) 1 ([v_7] : List Int) (fun _ _ => rfl) rfl rfl rfl rfl rfl rfl rfl rfl rfl rfl rfl rfl hL22 rfl (src_seg (j := 2) rfl) (ap_ok (by decide) hc50) (ap_max hc50) (fun a51 c52 L53 hL53 => ?_)
              refine WO.cls (C' := St w0 m m [[⟨b1, 25, [.int .i64 p0_0, .int .i64 p0_1, .int .i64 p0_2, .int .i64 p0_3, .int .i64 p0_4, .slice a_p0_5 p0_5.length c_p0_5]⟩], L53, [⟨b49, 3, ([v_7] : List Int).flatMap (I1 .i64)⟩]]) (fun _ h => h) ?_
              refine WO_pure tbok 1 [(2, .int .i64 p2), (3, .pointer (some ⟨b1, 0, none⟩)), (6, .slice none 0 0), (7, .slice a51 ((l_4 ++ ([v_7] : List Int)).length) c52), (8, .int .i64 (Int.tmod p1 p0_3)), (9, .int .i64 (w64 (Int.tdiv p1 p0_3))), (10, .int .i64 s_2), (11, .int .i64 s_5)] rfl ⟨rfl, rfl, rfl, rfl, rfl, rfl, rfl, rfl, trivial⟩ ?_
              refine WO_end ?_
              cases hx46
              refine WK.sub ?_ (WK.cls (fun _ h => St.take 2 h) (hk47 ⟨a51, (l_4 ++ ([v_7] : List Int)).length, c52, L53⟩ hL53))
              exact ⟨rfl, rfl, rfl, rfl, rfl, rfl, rfl, rfl, trivial⟩
            · have hx46 := ifF hb48 hx46
              refine WK_skip ?_
              cases hx46
              refine WK.sub ?_ (WK.cls (fun _ h => h) (hk47 ⟨a23, _, c25, L22⟩ hL22))
              exact ⟨rfl, rfl, rfl, rfl, rfl, rfl, rfl, rfl, trivial⟩
        · have hm33 := ifF hb39 hm33
          refine WK_exit rfl ?_
          cases hm33
          refine WK.sub ?_ (WK.cls (fun _ h => h) (hk32 (l_4, (a23, _, c25, L22)) ⟨(hd37 _ rfl), hL22⟩))
          exact ⟨rfl, rfl, rfl, rfl, rfl, rfl, rfl, trivial⟩
    · have hm15 := ifF hb21 hm15
      refine WK_exit rfl ?_
      cases hm15
      refine WK.sub ?_ (WK.cls (fun _ h => h) (hk14 (l_1, (a5, _, c7, L4)) ⟨(hd19 _ rfl), hL4⟩))
      exact ⟨rfl, rfl, trivial⟩
def fiduciallaw48_filtered_Q (r : Int × Int × Int × Int × Int × List Int) : Value → Mu → List Ent → Prop := fun v m L => ∃ (a0 : Option Addr) (q0 c0 : Nat), v = .agg #[.int .i64 r.1, .int .i64 r.2.1, .int .i64 r.2.2.1, .int .i64 r.2.2.2.1, .int .i64 r.2.2.2.2.1, .slice a0 q0 c0] ∧ SlR (FE (I1 .i64)) 1 m (.slice a0 q0 c0) r.2.2.2.2.2
theorem fiduciallaw48_filtered_walk {m : Mu} {p0_0 : Int} {p0_1 : Int} {p0_2 : Int} {p0_3 : Int} {p0_4 : Int} {p0_5 : List Int} {p1 : Int} {p2 : List Int → Option Int} {a_p0_5 : Option Addr} {q_p0_5 c_p0_5 : Nat} {p2v : Value} (h_p0_5 : SlR (FE (I1 .i64)) 1 m (.slice a_p0_5 q_p0_5 c_p0_5) p0_5) (hp2 : ∀ (m1 : Mu), Le m m1 → ∀ (au1 : Option Addr) (qu1 cu1 : Nat) (u1 : List Int), SlR (FE (I1 .i64)) 1 m1 (.slice au1 qu1 cu1) u1 → ∀ (r : Int), p2 u1 = some r → SpecV Try.prog p2v [.slice au1 qu1 cu1] m1 (fun v _ _ => v = .int .i64 r)) {r : Int × Int × Int × Int × Int × List Int} (hm : fiduciallaw48_filtered p0_0 p0_1 p0_2 p0_3 p0_4 p0_5 p1 p2 = some r) :
    Go.E.Spec Try.prog 27 [.agg #[.int .i64 p0_0, .int .i64 p0_1, .int .i64 p0_2, .int .i64 p0_3, .int .i64 p0_4, .slice a_p0_5 q_p0_5 c_p0_5], .int .i64 p1, p2v] m (fiduciallaw48_filtered_Q r) := by
  refine Spec_enter Try.func27 rfl rfl rfl (fun w0 => ?_)
  refine WK.sub (e' := [(0, .agg #[.int .i64 p0_0, .int .i64 p0_1, .int .i64 p0_2, .int .i64 p0_3, .int .i64 p0_4, .slice a_p0_5 q_p0_5 c_p0_5]), (1, .int .i64 p1), (2, p2v)]) ⟨rfl, rfl, rfl, trivial⟩ ?_
  obtain rfl := SlR.qlen h_p0_5
  refine WK.sub (e' := [(0, .agg #[.int .i64 p0_0, .int .i64 p0_1, .int .i64 p0_2, .int .i64 p0_3, .int .i64 p0_4, .slice a_p0_5 p0_5.length c_p0_5]), (1, .int .i64 p1), (2, p2v)]) ⟨rfl, rfl, rfl, trivial⟩ ?_
  unfold fiduciallaw48_filtered at hm
  refine WK_seq ?_
  refine WK_region ?_
  refine WO_box [.int .i64 p0_0, .int .i64 p0_1, .int .i64 p0_2, .int .i64 p0_3, .int .i64 p0_4, .slice a_p0_5 p0_5.length c_p0_5] rfl rfl trivial rfl rfl rfl (fun b1 => ?_)
  refine WO.cls (C' := St w0 m m [[⟨b1, 25, [.int .i64 p0_0, .int .i64 p0_1, .int .i64 p0_2, .int .i64 p0_3, .int .i64 p0_4, .slice a_p0_5 p0_5.length c_p0_5]⟩]]) (fun _ h => h) ?_
  refine WO_alloc tbok [.int .i64 0, .int .i64 0, .int .i64 0, .int .i64 0, .int .i64 0, .slice none 0 0] rfl rfl trivial rfl rfl rfl rfl (fun b2 => ?_)
  refine WO.cls (C' := St w0 m m [[⟨b1, 25, [.int .i64 p0_0, .int .i64 p0_1, .int .i64 p0_2, .int .i64 p0_3, .int .i64 p0_4, .slice a_p0_5 p0_5.length c_p0_5]⟩], [⟨b2, 25, [.int .i64 0, .int .i64 0, .int .i64 0, .int .i64 0, .int .i64 0, .slice none 0 0]⟩]]) (fun _ h => h) ?_
  refine WO_end ?_
  refine WK_seq ?_
  refine WK_region ?_
  refine WO_pure tbok 1 [(1, .int .i64 p1), (2, p2v), (3, .pointer (some ⟨b1, 0, none⟩)), (6, .pointer (some ⟨b2, 0, none⟩)), (7, .slice none 0 0)] rfl ⟨rfl, rfl, rfl, rfl, rfl, trivial⟩ ?_
  refine WO_end ?_
  refine WK_seq ?_
  refine WK_seq ?_
  refine WK_region ?_
  refine WO_pure tbok 1 [(1, .int .i64 p1), (2, p2v), (3, .pointer (some ⟨b1, 0, none⟩)), (6, .pointer (some ⟨b2, 0, none⟩)), (7, .slice none 0 0), (10, .pointer (some ⟨b1, 5, none⟩))] rfl ⟨rfl, rfl, rfl, rfl, rfl, rfl, trivial⟩ ?_
  refine WO_loadB tbok 0 rfl rfl rfl rfl (fun _ h => h) rfl rfl ?_
  refine WO_pure tbok 2 [(1, .int .i64 p1), (2, p2v), (3, .pointer (some ⟨b1, 0, none⟩)), (6, .pointer (some ⟨b2, 0, none⟩)), (7, .slice none 0 0), (11, .slice a_p0_5 p0_5.length c_p0_5), (12, .int .i64 (p0_5.length : Int)), (13, .int .i64 0)] rfl ⟨rfl, rfl, rfl, rfl, rfl, rfl, rfl, rfl, trivial⟩ ?_
  refine WO_end ?_
  refine WK_pad ?_
  obtain ⟨x15, hx16, hm⟩ := bind_some hm
  refine WK_join (β := (List Int) × (Mu × Option Addr × Nat × Nat × List Ent)) (fun p => p.1 = x15 ∧ Le m p.2.1 ∧ OwnE 3 1 (I1 .i64) (.slice p.2.2.1 p.2.2.2.1 p.2.2.2.2.1) p.1 p.2.2.2.2.2) (fun p => [(3, .pointer (some ⟨b1, 0, none⟩)), (6, .pointer (some ⟨b2, 0, none⟩)), (7, .slice p.2.2.1 p.2.2.2.1 p.2.2.2.2.1)]) (fun p => St w0 m p.2.1 [[⟨b1, 25, [.int .i64 p0_0, .int .i64 p0_1, .int .i64 p0_2, .int .i64 p0_3, .int .i64 p0_4, .slice a_p0_5 p0_5.length c_p0_5]⟩], [⟨b2, 25, [.int .i64 0, .int .i64 0, .int .i64 0, .int .i64 0, .int .i64 0, .slice none 0 0]⟩], p.2.2.2.2.2]) ?_ (fun hk17 => ?_)
  · rintro ⟨l_3, ⟨m9, a12, q13, c14, L11⟩⟩ ⟨hq23, hle10, hL11⟩
    subst hq23
    have hqq : q13 = l_3.length := OwnE.qlen hL11
    subst hqq
    refine WK.sub (e' := [(3, .pointer (some ⟨b1, 0, none⟩)), (6, .pointer (some ⟨b2, 0, none⟩)), (7, .slice a12 ((l_3).length) c14)]) ⟨rfl, rfl, rfl, trivial⟩ (WK.cls (C' := St w0 m m9 [[⟨b1, 25, [.int .i64 p0_0, .int .i64 p0_1, .int .i64 p0_2, .int .i64 p0_3, .int .i64 p0_4, .slice a_p0_5 p0_5.length c_p0_5]⟩], [⟨b2, 25, [.int .i64 0, .int .i64 0, .int .i64 0, .int .i64 0, .int .i64 0, .slice none 0 0]⟩], L11]) (fun _ h => h) ?_)
    refine WK_seq ?_
    refine WK_region ?_
    refine WO_loadB tbok 0 rfl rfl rfl rfl (fun _ h => h) rfl rfl ?_
    refine WO_pure tbok 1 [(6, .pointer (some ⟨b2, 0, none⟩)), (31, .agg #[.int .i64 p0_0, .int .i64 p0_1, .int .i64 p0_2, .int .i64 p0_3, .int .i64 p0_4, .slice a_p0_5 p0_5.length c_p0_5]), (32, .slice a12 ((l_3).length) c14)] rfl ⟨rfl, rfl, rfl, trivial⟩ ?_
    refine WO_freeze 2 rfl (fun m24 hle25 hmm26 => ?_)
    refine WO.cls (C' := St w0 m m24 [[⟨b1, 25, [.int .i64 p0_0, .int .i64 p0_1, .int .i64 p0_2, .int .i64 p0_3, .int .i64 p0_4, .slice a_p0_5 p0_5.length c_p0_5]⟩], [⟨b2, 25, [.int .i64 0, .int .i64 0, .int .i64 0, .int .i64 0, .int .i64 0, .slice none 0 0]⟩], []]) (fun _ h => h) ?_
    obtain ⟨⟨y_4, y_5, y_6, y_7, y_8, y_9⟩, hc27, hm⟩ := bind_some hm
    refine WO_call2 (fiduciallaw48_with_Q (y_4, y_5, y_6, y_7, y_8, y_9)) rfl rfl trivial rfl rfl rfl rfl ⟨22, #[], #[], rfl, callable_22, fiduciallaw48_with_walk ((h_p0_5.mono (mono_FE _) hle10).mono (mono_FE _) hle25) (OwnE.rd (E := (I1 .i64)) (k := 1) (fun _ => rfl) hL11 hmm26) hc27⟩ (fun v31 m32 L30 hle33 hq => ?_)
    obtain ⟨a28, qa28, c29, rfl, h34⟩ := hq
    obtain rfl := SlR.qlen h34
    refine WO.cls (C' := St w0 m m32 [[⟨b1, 25, [.int .i64 p0_0, .int .i64 p0_1, .int .i64 p0_2, .int .i64 p0_3, .int .i64 p0_4, .slice a_p0_5 p0_5.length c_p0_5]⟩], [⟨b2, 25, [.int .i64 0, .int .i64 0, .int .i64 0, .int .i64 0, .int .i64 0, .slice none 0 0]⟩], [], L30]) (fun _ h => h.sub (by simp)) ?_
    refine WO_storeB tbok 1 [.int .i64 y_4, .int .i64 y_5, .int .i64 y_6, .int .i64 y_7, .int .i64 y_8, .slice a28 ((y_9).length) c29] rfl rfl rfl rfl rfl rfl rfl ?_
    refine WO.cls (C' := St w0 m m32 [[⟨b1, 25, [.int .i64 p0_0, .int .i64 p0_1, .int .i64 p0_2, .int .i64 p0_3, .int .i64 p0_4, .slice a_p0_5 p0_5.length c_p0_5]⟩], [⟨b2, 25, [.int .i64 y_4, .int .i64 y_5, .int .i64 y_6, .int .i64 y_7, .int .i64 y_8, .slice a28 ((y_9).length) c29]⟩], [], L30]) (fun _ h => h) ?_
    refine WO_end ?_
    cases hm
    exact WK_ret (ret_out (L := []) (RLc_cell tbok 1 rfl rfl rfl RLc_nil) (List.nil_sublist _) ⟨a28, _, c29, rfl, h34⟩)
  · refine WK_block ?_
    refine WK_loop (S := List Int × Int) (G := Mu × Option Addr × Nat × Nat × List Ent) (fun s => fiduciallaw48_filtered_s1 p0_0 p0_1 p0_2 p0_3 p0_4 p0_5 p1 p2 s.1 s.2) (fun s g => [(1, .int .i64 p1), (2, p2v), (3, .pointer (some ⟨b1, 0, none⟩)), (6, .pointer (some ⟨b2, 0, none⟩)), (7, .slice g.2.1 g.2.2.1 g.2.2.2.1), (11, .slice a_p0_5 p0_5.length c_p0_5), (12, .int .i64 (p0_5.length : Int)), (13, .int .i64 s.2)]) (fun s g => St w0 m g.1 [[⟨b1, 25, [.int .i64 p0_0, .int .i64 p0_1, .int .i64 p0_2, .int .i64 p0_3, .int .i64 p0_4, .slice a_p0_5 p0_5.length c_p0_5]⟩], [⟨b2, 25, [.int .i64 0, .int .i64 0, .int .i64 0, .int .i64 0, .int .i64 0, .slice none 0 0]⟩], g.2.2.2.2]) (fun s g => Le m g.1 ∧ OwnE 3 1 (I1 .i64) (.slice g.2.1 g.2.2.1 g.2.2.2.1) s.1 g.2.2.2.2) FUEL (([] : List Int), 0) (m, none, 0, 0, []) x15 hx16 ⟨(Le.refl _), (OwnE.nil (T := 3) (k := 1) (E := (I1 .i64)) none)⟩ ⟨rfl, rfl, rfl, rfl, rfl, rfl, rfl, rfl, trivial⟩ (fun _ h => h) ?_
    rintro ⟨l_1, s_2⟩ ⟨m3, a6, q7, c8, L5⟩ o19 fl20 hm18 ⟨hle4, hL5⟩ hn21 hd22
    have hm18 : fiduciallaw48_filtered_s1 p0_0 p0_1 p0_2 p0_3 p0_4 p0_5 p1 p2 l_1 s_2 = some o19 := hm18
    unfold fiduciallaw48_filtered_s1 at hm18
    have hqq : q7 = l_1.length := OwnE.qlen hL5
    subst hqq
    refine WK.sub (e' := [(1, .int .i64 p1), (2, p2v), (3, .pointer (some ⟨b1, 0, none⟩)), (6, .pointer (some ⟨b2, 0, none⟩)), (7, .slice a6 ((l_1).length) c8), (11, .slice a_p0_5 p0_5.length c_p0_5), (12, .int .i64 (p0_5.length : Int)), (13, .int .i64 s_2)]) ⟨rfl, rfl, rfl, rfl, rfl, rfl, rfl, rfl, trivial⟩ (WK.cls (C' := St w0 m m3 [[⟨b1, 25, [.int .i64 p0_0, .int .i64 p0_1, .int .i64 p0_2, .int .i64 p0_3, .int .i64 p0_4, .slice a_p0_5 p0_5.length c_p0_5]⟩], [⟨b2, 25, [.int .i64 0, .int .i64 0, .int .i64 0, .int .i64 0, .int .i64 0, .slice none 0 0]⟩], L5]) (fun _ h => h) ?_)
    refine WK_seq ?_
    refine WK_region ?_
    refine WO_pure tbok 1 [(1, .int .i64 p1), (2, p2v), (3, .pointer (some ⟨b1, 0, none⟩)), (6, .pointer (some ⟨b2, 0, none⟩)), (7, .slice a6 ((l_1).length) c8), (11, .slice a_p0_5 p0_5.length c_p0_5), (12, .int .i64 (p0_5.length : Int)), (13, .int .i64 s_2), (14, .bool (decide (s_2 < (p0_5.length : Int))))] rfl ⟨rfl, rfl, rfl, rfl, rfl, rfl, rfl, rfl, rfl, trivial⟩ ?_
    refine WO_end ?_
    refine WK_seq ?_
    refine WK_cond (b := decide (s_2 < (p0_5.length : Int))) rfl (fun hb35 => ?_) (fun hb35 => ?_)
    · have hm18 := ifT hb35 hm18
      refine WK_skip ?_
      refine WK_seq ?_
      refine WK_block ?_
      refine WK_seq ?_
      refine WK_region ?_
      refine WO_pure tbok 1 [(1, .int .i64 p1), (2, p2v), (3, .pointer (some ⟨b1, 0, none⟩)), (6, .pointer (some ⟨b2, 0, none⟩)), (7, .slice a6 ((l_1).length) c8), (11, .slice a_p0_5 p0_5.length c_p0_5), (12, .int .i64 (p0_5.length : Int)), (13, .int .i64 s_2), (15, .int .i64 s_2)] rfl ⟨rfl, rfl, rfl, rfl, rfl, rfl, rfl, rfl, rfl, trivial⟩ ?_
      obtain ⟨v_10, hy36, hm18⟩ := bind_some hm18
      obtain ⟨hc37, hy36⟩ := ix_some hy36
      refine WO_index tbok rfl rfl rfl rfl rfl rfl rfl rfl (SlR.addr (h_p0_5.mono (mono_FE _) hle4)) hc37 ?_
      refine WO_loadE tbok rfl rfl rfl rfl (fun _ h => St.sat h) (h_p0_5.mono (mono_FE _) hle4) hy36 rfl ?_
      refine WO_pure tbok 2 [(1, .int .i64 p1), (2, p2v), (3, .pointer (some ⟨b1, 0, none⟩)), (6, .pointer (some ⟨b2, 0, none⟩)), (7, .slice a6 ((l_1).length) c8), (8, .int .i64 s_2), (9, .int .i64 v_10), (11, .slice a_p0_5 p0_5.length c_p0_5), (12, .int .i64 (p0_5.length : Int)), (13, .int .i64 s_2)] rfl ⟨rfl, rfl, rfl, rfl, rfl, rfl, rfl, rfl, rfl, rfl, trivial⟩ ?_
      refine WO_end ?_
      refine WK_seq ?_
      refine WK_seq ?_
      refine WK_region ?_
      refine WO_pure tbok 2 [(1, .int .i64 p1), (2, p2v), (3, .pointer (some ⟨b1, 0, none⟩)), (6, .pointer (some ⟨b2, 0, none⟩)), (7, .slice a6 ((l_1).length) c8), (8, .int .i64 s_2), (9, .int .i64 v_10), (11, .slice a_p0_5 p0_5.length c_p0_5), (12, .int .i64 (p0_5.length : Int)), (13, .int .i64 s_2), (19, .bool (v_10 != (-2147483648)))] rfl ⟨rfl, rfl, rfl, rfl, rfl, rfl, rfl, rfl, rfl, rfl, rfl, trivial⟩ ?_
      refine WO_end ?_
      obtain ⟨s_11, hx40, hm18⟩ := bind_some hm18
      refine WK_join (β := Mu) (fun p => Le m3 p) (fun p => [(1, .int .i64 p1), (2, p2v), (3, .pointer (some ⟨b1, 0, none⟩)), (6, .pointer (some ⟨b2, 0, none⟩)), (7, .slice a6 ((l_1).length) c8), (9, .int .i64 s_11), (11, .slice a_p0_5 p0_5.length c_p0_5), (12, .int .i64 (p0_5.length : Int)), (13, .int .i64 s_2)]) (fun p => St w0 m p [[⟨b1, 25, [.int .i64 p0_0, .int .i64 p0_1, .int .i64 p0_2, .int .i64 p0_3, .int .i64 p0_4, .slice a_p0_5 p0_5.length c_p0_5]⟩], [⟨b2, 25, [.int .i64 0, .int .i64 0, .int .i64 0, .int .i64 0, .int .i64 0, .slice none 0 0]⟩], L5]) ?_ (fun hk41 => ?_)
      · rintro m38 hle39
        refine WK.sub (e' := [(1, .int .i64 p1), (2, p2v), (3, .pointer (some ⟨b1, 0, none⟩)), (6, .pointer (some ⟨b2, 0, none⟩)), (7, .slice a6 ((l_1).length) c8), (9, .int .i64 s_11), (11, .slice a_p0_5 p0_5.length c_p0_5), (12, .int .i64 (p0_5.length : Int)), (13, .int .i64 s_2)]) ⟨rfl, rfl, rfl, rfl, rfl, rfl, rfl, rfl, rfl, trivial⟩ (WK.cls (C' := St w0 m m38 [[⟨b1, 25, [.int .i64 p0_0, .int .i64 p0_1, .int .i64 p0_2, .int .i64 p0_3, .int .i64 p0_4, .slice a_p0_5 p0_5.length c_p0_5]⟩], [⟨b2, 25, [.int .i64 0, .int .i64 0, .int .i64 0, .int .i64 0, .int .i64 0, .slice none 0 0]⟩], L5]) (fun _ h => h) ?_)
        refine WK_region ?_
        refine WO_pure tbok 2 [(1, .int .i64 p1), (2, p2v), (3, .pointer (some ⟨b1, 0, none⟩)), (6, .pointer (some ⟨b2, 0, none⟩)), (7, .slice a6 ((l_1).length) c8), (11, .slice a_p0_5 p0_5.length c_p0_5), (12, .int .i64 (p0_5.length : Int)), (13, .int .i64 s_2), (26, .slice a6 ((l_1).length) c8), (27, .int .i64 s_11)] rfl ⟨rfl, rfl, rfl, rfl, rfl, rfl, rfl, rfl, rfl, rfl, trivial⟩ ?_
        refine WO_bslice (E := (I1 .i64)) tbok (fun _ => rfl) (by decide) [.int .i64 s_11] ([s_11] : List Int) rfl rfl trivial rfl rfl rfl rfl rfl rfl rfl rfl rfl rfl rfl rfl (fun b42 hb42 => ?_)
        refine WO.cls (C' := St w0 m m38 [[⟨b1, 25, [.int .i64 p0_0, .int .i64 p0_1, .int .i64 p0_2, .int .i64 p0_3, .int .i64 p0_4, .slice a_p0_5 p0_5.length c_p0_5]⟩], [⟨b2, 25, [.int .i64 0, .int .i64 0, .int .i64 0, .int .i64 0, .int .i64 0, .slice none 0 0]⟩], L5, [⟨b42, 3, ([s_11] : List Int).flatMap (I1 .i64)⟩]]) (fun _ h => h) ?_
        obtain ⟨hc43, hm18⟩ := chk_some hm18
        refine WO_append (E := (I1 .i64)) tbok (fun _ => rfl) 2 ([s_11] : List Int) (fun _ _ => rfl) rfl rfl rfl rfl rfl rfl rfl rfl rfl rfl rfl rfl hL5 rfl (src_seg (j := 3) rfl) (ap_ok (by decide) hc43) (ap_max hc43) (fun a44 c45 L46 hL46 => ?_)
        refine WO.cls (C' := St w0 m m38 [[⟨b1, 25, [.int .i64 p0_0, .int .i64 p0_1, .int .i64 p0_2, .int .i64 p0_3, .int .i64 p0_4, .slice a_p0_5 p0_5.length c_p0_5]⟩], [⟨b2, 25, [.int .i64 0, .int .i64 0, .int .i64 0, .int .i64 0, .int .i64 0, .slice none 0 0]⟩], L46, [⟨b42, 3, ([s_11] : List Int).flatMap (I1 .i64)⟩]]) (fun _ h => h) ?_
        refine WO_pure tbok 1 [(1, .int .i64 p1), (2, p2v), (3, .pointer (some ⟨b1, 0, none⟩)), (6, .pointer (some ⟨b2, 0, none⟩)), (7, .slice a44 ((l_1 ++ ([s_11] : List Int)).length) c45), (11, .slice a_p0_5 p0_5.length c_p0_5), (12, .int .i64 (p0_5.length : Int)), (13, .int .i64 s_2)] rfl ⟨rfl, rfl, rfl, rfl, rfl, rfl, rfl, rfl, trivial⟩ ?_
        refine WO_end ?_
        refine WK_blk ?_
        refine WK_region ?_
        refine WO_pure tbok 2 [(1, .int .i64 p1), (2, p2v), (3, .pointer (some ⟨b1, 0, none⟩)), (6, .pointer (some ⟨b2, 0, none⟩)), (7, .slice a44 ((l_1 ++ ([s_11] : List Int)).length) c45), (11, .slice a_p0_5 p0_5.length c_p0_5), (12, .int .i64 (p0_5.length : Int)), (13, .int .i64 (w64 (s_2 + 1)))] rfl ⟨rfl, rfl, rfl, rfl, rfl, rfl, rfl, rfl, trivial⟩ ?_
        refine WO_end ?_
        cases hm18
        refine WK.sub ?_ (WK.cls (fun _ h => St.take 3 h) (hn21 _ (m38, a44, (l_1 ++ ([s_11] : List Int)).length, c45, L46) rfl ⟨(hle4.trans hle39), hL46⟩))
        exact ⟨rfl, rfl, rfl, rfl, rfl, rfl, rfl, rfl, trivial⟩
      · refine WK_cond (b := v_10 != (-2147483648)) rfl (fun hb47 => ?_) (fun hb47 => ?_)
        · have hx40 := ifT hb47 hx40
          refine WK_region ?_
          refine WO_pure tbok 1 [(1, .int .i64 p1), (2, p2v), (3, .pointer (some ⟨b1, 0, none⟩)), (6, .pointer (some ⟨b2, 0, none⟩)), (7, .slice a6 ((l_1).length) c8), (8, .int .i64 s_2), (9, .int .i64 v_10), (11, .slice a_p0_5 p0_5.length c_p0_5), (12, .int .i64 (p0_5.length : Int)), (13, .int .i64 s_2), (20, p2v)] rfl ⟨rfl, rfl, rfl, rfl, rfl, rfl, rfl, rfl, rfl, rfl, rfl, trivial⟩ ?_
          refine WO_loadB tbok 0 rfl rfl rfl rfl (fun _ h => h) rfl rfl ?_
          refine WO_pure tbok 2 [(1, .int .i64 p1), (2, p2v), (3, .pointer (some ⟨b1, 0, none⟩)), (6, .pointer (some ⟨b2, 0, none⟩)), (7, .slice a6 ((l_1).length) c8), (9, .int .i64 v_10), (11, .slice a_p0_5 p0_5.length c_p0_5), (12, .int .i64 (p0_5.length : Int)), (13, .int .i64 s_2), (20, p2v), (21, .agg #[.int .i64 p0_0, .int .i64 p0_1, .int .i64 p0_2, .int .i64 p0_3, .int .i64 p0_4, .slice a_p0_5 p0_5.length c_p0_5]), (22, .int .i64 s_2), (23, .int .i64 p1)] rfl ⟨rfl, rfl, rfl, rfl, rfl, rfl, rfl, rfl, rfl, rfl, rfl, rfl, rfl, trivial⟩ ?_
          obtain ⟨y_12, hc48, hx40⟩ := bind_some hx40
          refine WO_call1 (fiduciallaw48_window_Q y_12) rfl rfl trivial rfl rfl rfl rfl ⟨55, #[], #[], rfl, callable_55, fun w hw => ⟨_, hw.sat, fiduciallaw48_window_walk (h_p0_5.mono (mono_FE _) hle4) hc48⟩⟩ (fun v52 L51 hq => ?_)
          obtain ⟨a49, qa49, c50, rfl, hL51⟩ := hq
          obtain rfl := OwnE.qlen hL51
          refine WO.cls (C' := St w0 m m3 [[⟨b1, 25, [.int .i64 p0_0, .int .i64 p0_1, .int .i64 p0_2, .int .i64 p0_3, .int .i64 p0_4, .slice a_p0_5 p0_5.length c_p0_5]⟩], [⟨b2, 25, [.int .i64 0, .int .i64 0, .int .i64 0, .int .i64 0, .int .i64 0, .slice none 0 0]⟩], L5, L51]) (fun _ h => h) ?_
          refine WO_freeze 3 rfl (fun m53 hle54 hmm55 => ?_)
          refine WO.cls (C' := St w0 m m53 [[⟨b1, 25, [.int .i64 p0_0, .int .i64 p0_1, .int .i64 p0_2, .int .i64 p0_3, .int .i64 p0_4, .slice a_p0_5 p0_5.length c_p0_5]⟩], [⟨b2, 25, [.int .i64 0, .int .i64 0, .int .i64 0, .int .i64 0, .int .i64 0, .slice none 0 0]⟩], L5, []]) (fun _ h => h) ?_
          obtain ⟨y_13, hc56, hx40⟩ := bind_some hx40
          obtain ⟨f0, first0, cap0, hf0, hcal0, hsp0⟩ := hp2 _ (hle4.trans hle54) _ _ _ y_12 (OwnE.rd (E := (I1 .i64)) (k := 1) (fun _ => rfl) hL51 hmm55) _ hc56
          refine WO_call0 (.int .i64 y_13) rfl rfl trivial rfl rfl rfl rfl St_closed ⟨f0, first0, cap0, hf0, hcal0, fun w hw => ⟨m53, hw.sat, hsp0⟩⟩ ?_
          refine WO_pure tbok 1 [(1, .int .i64 p1), (2, p2v), (3, .pointer (some ⟨b1, 0, none⟩)), (6, .pointer (some ⟨b2, 0, none⟩)), (7, .slice a6 ((l_1).length) c8), (9, .int .i64 y_13), (11, .slice a_p0_5 p0_5.length c_p0_5), (12, .int .i64 (p0_5.length : Int)), (13, .int .i64 s_2)] rfl ⟨rfl, rfl, rfl, rfl, rfl, rfl, rfl, rfl, rfl, trivial⟩ ?_
          refine WO_end ?_
          cases hx40
          refine WK.sub ?_ (WK.cls (fun _ h => St.take 3 h) (hk41 m53 hle54))
          exact ⟨rfl, rfl, rfl, rfl, rfl, rfl, rfl, rfl, rfl, trivial⟩
        · have hx40 := ifF hb47 hx40
          refine WK_skip ?_
          cases hx40
          refine WK.sub ?_ (WK.cls (fun _ h => h) (hk41 m3 (Le.refl _)))
          exact ⟨rfl, rfl, rfl, rfl, rfl, rfl, rfl, rfl, rfl, trivial⟩
    · have hm18 := ifF hb35 hm18
      refine WK_exit rfl ?_
      cases hm18
      refine WK.sub ?_ (WK.cls (fun _ h => h) (hk17 (l_1, (m3, a6, _, c8, L5)) ⟨(hd22 _ rfl), hle4, hL5⟩))
      exact ⟨rfl, rfl, rfl, trivial⟩
theorem fiduciallaw48_least_walk {m : Mu} {p0 : List Int} {a_p0 : Option Addr} {q_p0 c_p0 : Nat} (h_p0 : SlR (FE (I1 .i64)) 1 m (.slice a_p0 q_p0 c_p0) p0) {r : Int} (hm : fiduciallaw48_least p0 = some r) :
    Go.E.Spec Try.prog 28 [.slice a_p0 q_p0 c_p0] m (fun v _ _ => v = .int .i64 r) := by
  refine Spec_enter Try.func28 rfl rfl rfl (fun w0 => ?_)
  refine WK.sub (e' := [(0, .slice a_p0 q_p0 c_p0)]) ⟨rfl, trivial⟩ ?_
  obtain rfl := SlR.qlen h_p0
  refine WK.sub (e' := [(0, .slice a_p0 p0.length c_p0)]) ⟨rfl, trivial⟩ ?_
  unfold fiduciallaw48_least at hm
  refine WK_seq ?_
  refine WK_region ?_
  refine WO_pure tbok 1 [(0, .slice a_p0 p0.length c_p0), (2, .int .i64 0)] rfl ⟨rfl, rfl, trivial⟩ ?_
  refine WO_end ?_
  refine WK_seq ?_
  refine WK_region ?_
  refine WO_pure tbok 1 [(0, .slice a_p0 p0.length c_p0), (2, .int .i64 0), (6, .slice a_p0 p0.length c_p0)] rfl ⟨rfl, rfl, rfl, trivial⟩ ?_
  obtain ⟨v_1, hy1, hm⟩ := bind_some hm
  obtain ⟨hc2, hy1⟩ := ix_some hy1
  refine WO_index tbok rfl rfl rfl rfl rfl rfl rfl rfl (SlR.addr h_p0) hc2 ?_
  refine WO_loadE tbok rfl rfl rfl rfl (fun _ h => St.sat h) h_p0 hy1 rfl ?_
  refine WO_pure tbok 1 [(0, .slice a_p0 p0.length c_p0), (2, .int .i64 0), (3, .int .i64 v_1)] rfl ⟨rfl, rfl, rfl, trivial⟩ ?_
  refine WO_end ?_
  refine WK_seq ?_
  refine WK_seq ?_
  refine WK_region ?_
  refine WO_pure tbok 3 [(2, .int .i64 0), (3, .int .i64 v_1), (9, .slice a_p0 p0.length c_p0), (10, .int .i64 (p0.length : Int)), (11, .int .i64 0)] rfl ⟨rfl, rfl, rfl, rfl, rfl, trivial⟩ ?_
  refine WO_end ?_
  obtain ⟨x3, hx4, hm⟩ := bind_some hm
  refine WK_join (β := Int × Unit) (fun p => p.1 = x3) (fun p => [(2, .int .i64 0), (3, .int .i64 p.1)]) (fun p => St w0 m m []) ?_ (fun hk5 => ?_)
  · rintro ⟨s_4, ⟨⟩⟩ hq11
    subst hq11
    refine WK.sub (e' := [(2, .int .i64 0), (3, .int .i64 s_4)]) ⟨rfl, rfl, trivial⟩ (WK.cls (C' := St w0 m m []) (fun _ h => h) ?_)
    refine WK_seq ?_
    refine WK_region ?_
    refine WO_pure tbok 2 [(2, .int .i64 s_4)] rfl ⟨rfl, trivial⟩ ?_
    refine WO_end ?_
    cases hm
    exact WK_ret (ret_out (L := []) (RLc_tmp rfl RLc_nil) (List.nil_sublist _) rfl)
  · refine WK_block ?_
    refine WK_loop (S := Int × Int) (G := Unit) (fun s => fiduciallaw48_least_s1 p0 s.1 s.2) (fun s g => [(2, .int .i64 0), (3, .int .i64 s.1), (9, .slice a_p0 p0.length c_p0), (10, .int .i64 (p0.length : Int)), (11, .int .i64 s.2)]) (fun s g => St w0 m m []) (fun s g => True) FUEL (v_1, 0) () x3 hx4 trivial ⟨rfl, rfl, rfl, rfl, rfl, trivial⟩ (fun _ h => h) ?_
    rintro ⟨s_2, s_3⟩ ⟨⟩ o7 fl8 hm6 - hn9 hd10
    have hm6 : fiduciallaw48_least_s1 p0 s_2 s_3 = some o7 := hm6
    unfold fiduciallaw48_least_s1 at hm6
    refine WK.sub (e' := [(2, .int .i64 0), (3, .int .i64 s_2), (9, .slice a_p0 p0.length c_p0), (10, .int .i64 (p0.length : Int)), (11, .int .i64 s_3)]) ⟨rfl, rfl, rfl, rfl, rfl, trivial⟩ (WK.cls (C' := St w0 m m []) (fun _ h => h) ?_)
    refine WK_seq ?_
    refine WK_region ?_
    refine WO_pure tbok 1 [(2, .int .i64 0), (3, .int .i64 s_2), (9, .slice a_p0 p0.length c_p0), (10, .int .i64 (p0.length : Int)), (11, .int .i64 s_3), (12, .bool (decide (s_3 < (p0.length : Int))))] rfl ⟨rfl, rfl, rfl, rfl, rfl, rfl, trivial⟩ ?_
    refine WO_end ?_
    refine WK_seq ?_
    refine WK_cond (b := decide (s_3 < (p0.length : Int))) rfl (fun hb12 => ?_) (fun hb12 => ?_)
    · have hm6 := ifT hb12 hm6
      refine WK_skip ?_
      refine WK_seq ?_
      refine WK_block ?_
      refine WK_seq ?_
      refine WK_region ?_
      obtain ⟨v_5, hy13, hm6⟩ := bind_some hm6
      obtain ⟨hc14, hy13⟩ := ix_some hy13
      refine WO_index tbok rfl rfl rfl rfl rfl rfl rfl rfl (SlR.addr h_p0) hc14 ?_
      refine WO_loadE tbok rfl rfl rfl rfl (fun _ h => St.sat h) h_p0 hy13 rfl ?_
      refine WO_pure tbok 1 [(2, .int .i64 0), (3, .int .i64 s_2), (5, .int .i64 v_5), (9, .slice a_p0 p0.length c_p0), (10, .int .i64 (p0.length : Int)), (11, .int .i64 s_3)] rfl ⟨rfl, rfl, rfl, rfl, rfl, rfl, trivial⟩ ?_
      refine WO_end ?_
      refine WK_region ?_
      refine WO_pure tbok 4 [(2, .int .i64 0), (3, .int .i64 (if v_5 < s_2 then v_5 else s_2)), (9, .slice a_p0 p0.length c_p0), (10, .int .i64 (p0.length : Int)), (11, .int .i64 s_3)] rfl ⟨rfl, rfl, rfl, rfl, rfl, trivial⟩ ?_
      refine WO_end ?_
      refine WK_blk ?_
      refine WK_region ?_
      refine WO_pure tbok 2 [(2, .int .i64 0), (3, .int .i64 (if v_5 < s_2 then v_5 else s_2)), (9, .slice a_p0 p0.length c_p0), (10, .int .i64 (p0.length : Int)), (11, .int .i64 (w64 (s_3 + 1)))] rfl ⟨rfl, rfl, rfl, rfl, rfl, trivial⟩ ?_
      refine WO_end ?_
      cases hm6
      refine WK.sub ?_ (WK.cls (fun _ h => h) (hn9 _ () rfl trivial))
      exact ⟨rfl, rfl, rfl, rfl, rfl, trivial⟩
    · have hm6 := ifF hb12 hm6
      refine WK_exit rfl ?_
      cases hm6
      refine WK.sub ?_ (WK.cls (fun _ h => h) (hk5 (s_2, ()) (hd10 _ rfl)))
      exact ⟨rfl, rfl, trivial⟩
theorem fiduciallaw48_greatest_walk {m : Mu} {p0 : List Int} {a_p0 : Option Addr} {q_p0 c_p0 : Nat} (h_p0 : SlR (FE (I1 .i64)) 1 m (.slice a_p0 q_p0 c_p0) p0) {r : Int} (hm : fiduciallaw48_greatest p0 = some r) :
    Go.E.Spec Try.prog 29 [.slice a_p0 q_p0 c_p0] m (fun v _ _ => v = .int .i64 r) := by
  refine Spec_enter Try.func29 rfl rfl rfl (fun w0 => ?_)
  refine WK.sub (e' := [(0, .slice a_p0 q_p0 c_p0)]) ⟨rfl, trivial⟩ ?_
  obtain rfl := SlR.qlen h_p0
  refine WK.sub (e' := [(0, .slice a_p0 p0.length c_p0)]) ⟨rfl, trivial⟩ ?_
  unfold fiduciallaw48_greatest at hm
  refine WK_seq ?_
  refine WK_region ?_
  refine WO_pure tbok 1 [(0, .slice a_p0 p0.length c_p0), (2, .int .i64 0)] rfl ⟨rfl, rfl, trivial⟩ ?_
  refine WO_end ?_
  refine WK_seq ?_
  refine WK_region ?_
  refine WO_pure tbok 1 [(0, .slice a_p0 p0.length c_p0), (2, .int .i64 0), (6, .slice a_p0 p0.length c_p0)] rfl ⟨rfl, rfl, rfl, trivial⟩ ?_
  obtain ⟨v_1, hy1, hm⟩ := bind_some hm
  obtain ⟨hc2, hy1⟩ := ix_some hy1
  refine WO_index tbok rfl rfl rfl rfl rfl rfl rfl rfl (SlR.addr h_p0) hc2 ?_
  refine WO_loadE tbok rfl rfl rfl rfl (fun _ h => St.sat h) h_p0 hy1 rfl ?_
  refine WO_pure tbok 1 [(0, .slice a_p0 p0.length c_p0), (2, .int .i64 0), (3, .int .i64 v_1)] rfl ⟨rfl, rfl, rfl, trivial⟩ ?_
  refine WO_end ?_
  refine WK_seq ?_
  refine WK_seq ?_
  refine WK_region ?_
  refine WO_pure tbok 3 [(2, .int .i64 0), (3, .int .i64 v_1), (9, .slice a_p0 p0.length c_p0), (10, .int .i64 (p0.length : Int)), (11, .int .i64 0)] rfl ⟨rfl, rfl, rfl, rfl, rfl, trivial⟩ ?_
  refine WO_end ?_
  obtain ⟨x3, hx4, hm⟩ := bind_some hm
  refine WK_join (β := Int × Unit) (fun p => p.1 = x3) (fun p => [(2, .int .i64 0), (3, .int .i64 p.1)]) (fun p => St w0 m m []) ?_ (fun hk5 => ?_)
  · rintro ⟨s_4, ⟨⟩⟩ hq11
    subst hq11
    refine WK.sub (e' := [(2, .int .i64 0), (3, .int .i64 s_4)]) ⟨rfl, rfl, trivial⟩ (WK.cls (C' := St w0 m m []) (fun _ h => h) ?_)
    refine WK_seq ?_
    refine WK_region ?_
    refine WO_pure tbok 2 [(2, .int .i64 s_4)] rfl ⟨rfl, trivial⟩ ?_
    refine WO_end ?_
    cases hm
    exact WK_ret (ret_out (L := []) (RLc_tmp rfl RLc_nil) (List.nil_sublist _) rfl)
  · refine WK_block ?_
    refine WK_loop (S := Int × Int) (G := Unit) (fun s => fiduciallaw48_greatest_s1 p0 s.1 s.2) (fun s g => [(2, .int .i64 0), (3, .int .i64 s.1), (9, .slice a_p0 p0.length c_p0), (10, .int .i64 (p0.length : Int)), (11, .int .i64 s.2)]) (fun s g => St w0 m m []) (fun s g => True) FUEL (v_1, 0) () x3 hx4 trivial ⟨rfl, rfl, rfl, rfl, rfl, trivial⟩ (fun _ h => h) ?_
    rintro ⟨s_2, s_3⟩ ⟨⟩ o7 fl8 hm6 - hn9 hd10
    have hm6 : fiduciallaw48_greatest_s1 p0 s_2 s_3 = some o7 := hm6
    unfold fiduciallaw48_greatest_s1 at hm6
    refine WK.sub (e' := [(2, .int .i64 0), (3, .int .i64 s_2), (9, .slice a_p0 p0.length c_p0), (10, .int .i64 (p0.length : Int)), (11, .int .i64 s_3)]) ⟨rfl, rfl, rfl, rfl, rfl, trivial⟩ (WK.cls (C' := St w0 m m []) (fun _ h => h) ?_)
    refine WK_seq ?_
    refine WK_region ?_
    refine WO_pure tbok 1 [(2, .int .i64 0), (3, .int .i64 s_2), (9, .slice a_p0 p0.length c_p0), (10, .int .i64 (p0.length : Int)), (11, .int .i64 s_3), (12, .bool (decide (s_3 < (p0.length : Int))))] rfl ⟨rfl, rfl, rfl, rfl, rfl, rfl, trivial⟩ ?_
    refine WO_end ?_
    refine WK_seq ?_
    refine WK_cond (b := decide (s_3 < (p0.length : Int))) rfl (fun hb12 => ?_) (fun hb12 => ?_)
    · have hm6 := ifT hb12 hm6
      refine WK_skip ?_
      refine WK_seq ?_
      refine WK_block ?_
      refine WK_seq ?_
      refine WK_region ?_
      obtain ⟨v_5, hy13, hm6⟩ := bind_some hm6
      obtain ⟨hc14, hy13⟩ := ix_some hy13
      refine WO_index tbok rfl rfl rfl rfl rfl rfl rfl rfl (SlR.addr h_p0) hc14 ?_
      refine WO_loadE tbok rfl rfl rfl rfl (fun _ h => St.sat h) h_p0 hy13 rfl ?_
      refine WO_pure tbok 1 [(2, .int .i64 0), (3, .int .i64 s_2), (5, .int .i64 v_5), (9, .slice a_p0 p0.length c_p0), (10, .int .i64 (p0.length : Int)), (11, .int .i64 s_3)] rfl ⟨rfl, rfl, rfl, rfl, rfl, rfl, trivial⟩ ?_
      refine WO_end ?_
      refine WK_region ?_
      refine WO_pure tbok 4 [(2, .int .i64 0), (3, .int .i64 (if s_2 < v_5 then v_5 else s_2)), (9, .slice a_p0 p0.length c_p0), (10, .int .i64 (p0.length : Int)), (11, .int .i64 s_3)] rfl ⟨rfl, rfl, rfl, rfl, rfl, trivial⟩ ?_
      refine WO_end ?_
      refine WK_blk ?_
      refine WK_region ?_
      refine WO_pure tbok 2 [(2, .int .i64 0), (3, .int .i64 (if s_2 < v_5 then v_5 else s_2)), (9, .slice a_p0 p0.length c_p0), (10, .int .i64 (p0.length : Int)), (11, .int .i64 (w64 (s_3 + 1)))] rfl ⟨rfl, rfl, rfl, rfl, rfl, trivial⟩ ?_
      refine WO_end ?_
      cases hm6
      refine WK.sub ?_ (WK.cls (fun _ h => h) (hn9 _ () rfl trivial))
      exact ⟨rfl, rfl, rfl, rfl, rfl, trivial⟩
    · have hm6 := ifF hb12 hm6
      refine WK_exit rfl ?_
      cases hm6
      refine WK.sub ?_ (WK.cls (fun _ h => h) (hk5 (s_2, ()) (hd10 _ rfl)))
      exact ⟨rfl, rfl, trivial⟩
def fiduciallaw48_opened_Q (r : Int × Int × Int × Int × Int × List Int) : Value → Mu → List Ent → Prop := fun v m L => ∃ (a0 : Option Addr) (q0 c0 : Nat), v = .agg #[.int .i64 r.1, .int .i64 r.2.1, .int .i64 r.2.2.1, .int .i64 r.2.2.2.1, .int .i64 r.2.2.2.2.1, .slice a0 q0 c0] ∧ SlR (FE (I1 .i64)) 1 m (.slice a0 q0 c0) r.2.2.2.2.2
theorem fiduciallaw48_opened_walk {m : Mu} {p0_0 : Int} {p0_1 : Int} {p0_2 : Int} {p0_3 : Int} {p0_4 : Int} {p0_5 : List Int} {p1 : Int} {a_p0_5 : Option Addr} {q_p0_5 c_p0_5 : Nat} (h_p0_5 : SlR (FE (I1 .i64)) 1 m (.slice a_p0_5 q_p0_5 c_p0_5) p0_5) {r : Int × Int × Int × Int × Int × List Int} (hm : fiduciallaw48_opened p0_0 p0_1 p0_2 p0_3 p0_4 p0_5 p1 = some r) :
    Go.E.Spec Try.prog 30 [.agg #[.int .i64 p0_0, .int .i64 p0_1, .int .i64 p0_2, .int .i64 p0_3, .int .i64 p0_4, .slice a_p0_5 q_p0_5 c_p0_5], .int .i64 p1] m (fiduciallaw48_opened_Q r) := by
  refine Spec_enter Try.func30 rfl rfl rfl (fun w0 => ?_)
  refine WK.sub (e' := [(0, .agg #[.int .i64 p0_0, .int .i64 p0_1, .int .i64 p0_2, .int .i64 p0_3, .int .i64 p0_4, .slice a_p0_5 q_p0_5 c_p0_5]), (1, .int .i64 p1)]) ⟨rfl, rfl, trivial⟩ ?_
  obtain rfl := SlR.qlen h_p0_5
  refine WK.sub (e' := [(0, .agg #[.int .i64 p0_0, .int .i64 p0_1, .int .i64 p0_2, .int .i64 p0_3, .int .i64 p0_4, .slice a_p0_5 p0_5.length c_p0_5]), (1, .int .i64 p1)]) ⟨rfl, rfl, trivial⟩ ?_
  unfold fiduciallaw48_opened at hm
  refine WK_seq ?_
  refine WK_region ?_
  refine WO_box [.int .i64 p0_0, .int .i64 p0_1, .int .i64 p0_2, .int .i64 p0_3, .int .i64 p0_4, .slice a_p0_5 p0_5.length c_p0_5] rfl rfl trivial rfl rfl rfl (fun b1 => ?_)
  refine WO.cls (C' := St w0 m m [[⟨b1, 25, [.int .i64 p0_0, .int .i64 p0_1, .int .i64 p0_2, .int .i64 p0_3, .int .i64 p0_4, .slice a_p0_5 p0_5.length c_p0_5]⟩]]) (fun _ h => h) ?_
  refine WO_alloc tbok [.int .i64 0, .int .i64 0, .int .i64 0, .int .i64 0, .int .i64 0, .slice none 0 0] rfl rfl trivial rfl rfl rfl rfl (fun b2 => ?_)
  refine WO.cls (C' := St w0 m m [[⟨b1, 25, [.int .i64 p0_0, .int .i64 p0_1, .int .i64 p0_2, .int .i64 p0_3, .int .i64 p0_4, .slice a_p0_5 p0_5.length c_p0_5]⟩], [⟨b2, 25, [.int .i64 0, .int .i64 0, .int .i64 0, .int .i64 0, .int .i64 0, .slice none 0 0]⟩]]) (fun _ h => h) ?_
  refine WO_end ?_
  refine WK_seq ?_
  refine WK_region ?_
  refine WO_loadB tbok 0 rfl rfl rfl rfl (fun _ h => h) rfl rfl ?_
  refine WO_pure tbok 1 [(1, .int .i64 p1), (4, .pointer (some ⟨b2, 0, none⟩)), (5, .agg #[.int .i64 p0_0, .int .i64 p0_1, .int .i64 p0_2, .int .i64 p0_3, .int .i64 p0_4, .slice a_p0_5 p0_5.length c_p0_5]), (6, .int .i64 p1)] rfl ⟨rfl, rfl, rfl, rfl, trivial⟩ ?_
  obtain ⟨⟨y_2, y_3, y_4, y_5, y_6, y_7⟩, hc4, hm⟩ := bind_some hm
  refine WO_call2 (fiduciallaw48_filtered_Q (y_2, y_3, y_4, y_5, y_6, y_7)) rfl rfl trivial rfl rfl rfl rfl ⟨27, #[], #[], rfl, callable_27, fiduciallaw48_filtered_walk h_p0_5 (fun m1 hm1 _ _ _ z_1 h3 _ h => specV_cap callable_28 (fiduciallaw48_least_walk h3 h)) hc4⟩ (fun v8 m9 L7 hle10 hq => ?_)
  obtain ⟨a5, qa5, c6, rfl, h11⟩ := hq
  obtain rfl := SlR.qlen h11
  refine WO.cls (C' := St w0 m m9 [[⟨b1, 25, [.int .i64 p0_0, .int .i64 p0_1, .int .i64 p0_2, .int .i64 p0_3, .int .i64 p0_4, .slice a_p0_5 p0_5.length c_p0_5]⟩], [⟨b2, 25, [.int .i64 0, .int .i64 0, .int .i64 0, .int .i64 0, .int .i64 0, .slice none 0 0]⟩], L7]) (fun _ h => h.sub (by simp)) ?_
  refine WO_pure tbok 1 [(4, .pointer (some ⟨b2, 0, none⟩)), (7, .agg #[.int .i64 y_2, .int .i64 y_3, .int .i64 y_4, .int .i64 y_5, .int .i64 y_6, .slice a5 ((y_7).length) c6]), (8, .int .i64 p1)] rfl ⟨rfl, rfl, rfl, trivial⟩ ?_
  obtain ⟨⟨y_9, y_10, y_11, y_12, y_13, y_14⟩, hc13, hm⟩ := bind_some hm
  refine WO_call2 (fiduciallaw48_filtered_Q (y_9, y_10, y_11, y_12, y_13, y_14)) rfl rfl trivial rfl rfl rfl rfl ⟨27, #[], #[], rfl, callable_27, fiduciallaw48_filtered_walk h11 (fun m1 hm1 _ _ _ z_8 h12 _ h => specV_cap callable_29 (fiduciallaw48_greatest_walk h12 h)) hc13⟩ (fun v17 m18 L16 hle19 hq => ?_)
  obtain ⟨a14, qa14, c15, rfl, h20⟩ := hq
  obtain rfl := SlR.qlen h20
  refine WO.cls (C' := St w0 m m18 [[⟨b1, 25, [.int .i64 p0_0, .int .i64 p0_1, .int .i64 p0_2, .int .i64 p0_3, .int .i64 p0_4, .slice a_p0_5 p0_5.length c_p0_5]⟩], [⟨b2, 25, [.int .i64 0, .int .i64 0, .int .i64 0, .int .i64 0, .int .i64 0, .slice none 0 0]⟩], L7, L16]) (fun _ h => h.sub (by simp)) ?_
  refine WO_storeB tbok 1 [.int .i64 y_9, .int .i64 y_10, .int .i64 y_11, .int .i64 y_12, .int .i64 y_13, .slice a14 ((y_14).length) c15] rfl rfl rfl rfl rfl rfl rfl ?_
  refine WO.cls (C' := St w0 m m18 [[⟨b1, 25, [.int .i64 p0_0, .int .i64 p0_1, .int .i64 p0_2, .int .i64 p0_3, .int .i64 p0_4, .slice a_p0_5 p0_5.length c_p0_5]⟩], [⟨b2, 25, [.int .i64 y_9, .int .i64 y_10, .int .i64 y_11, .int .i64 y_12, .int .i64 y_13, .slice a14 ((y_14).length) c15]⟩], L7, L16]) (fun _ h => h) ?_
  refine WO_end ?_
  cases hm
  exact WK_ret (ret_out (L := []) (RLc_cell tbok 1 rfl rfl rfl RLc_nil) (List.nil_sublist _) ⟨a14, _, c15, rfl, h20⟩)
def fiduciallaw48_ground_Q (r : List Bool × Int) : Value → List Ent → Prop := fun v L => ∃ (a0 : Option Addr) (q0 c0 : Nat), v = .tuple #[.slice a0 q0 c0, .int .i64 r.2] ∧ OwnE 4 1 B1 (.slice a0 q0 c0) r.1 L
theorem fiduciallaw48_ground_walk {m : Mu} {p0_0 : Int} {p0_1 : Int} {p0_2 : Int} {p0_3 : Int} {p0_4 : Int} {p0_5 : List Int} {p1 : List Int} {p2 : List Int} {a_p0_5 : Option Addr} {q_p0_5 c_p0_5 : Nat} {a_p1 : Option Addr} {q_p1 c_p1 : Nat} {a_p2 : Option Addr} {q_p2 c_p2 : Nat} (h_p0_5 : SlR (FE (I1 .i64)) 1 m (.slice a_p0_5 q_p0_5 c_p0_5) p0_5) (h_p1 : SlR (FE (I1 .i64)) 1 m (.slice a_p1 q_p1 c_p1) p1) (h_p2 : SlR (FE (I1 .i64)) 1 m (.slice a_p2 q_p2 c_p2) p2) {r : List Bool × Int} (hm : fiduciallaw48_ground p0_0 p0_1 p0_2 p0_3 p0_4 p0_5 p1 p2 = some r) :
    Go.E.Spec Try.prog 19 [.agg #[.int .i64 p0_0, .int .i64 p0_1, .int .i64 p0_2, .int .i64 p0_3, .int .i64 p0_4, .slice a_p0_5 q_p0_5 c_p0_5], .slice a_p1 q_p1 c_p1, .slice a_p2 q_p2 c_p2] m (fun v _ L => fiduciallaw48_ground_Q r v L) := by
  refine Spec_enter Try.func19 rfl rfl rfl (fun w0 => ?_)
  refine WK.sub (e' := [(0, .agg #[.int .i64 p0_0, .int .i64 p0_1, .int .i64 p0_2, .int .i64 p0_3, .int .i64 p0_4, .slice a_p0_5 q_p0_5 c_p0_5]), (1, .slice a_p1 q_p1 c_p1), (2, .slice a_p2 q_p2 c_p2)]) ⟨rfl, rfl, rfl, trivial⟩ ?_
  obtain rfl := SlR.qlen h_p0_5
  obtain rfl := SlR.qlen h_p1
  obtain rfl := SlR.qlen h_p2
  refine WK.sub (e' := [(0, .agg #[.int .i64 p0_0, .int .i64 p0_1, .int .i64 p0_2, .int .i64 p0_3, .int .i64 p0_4, .slice a_p0_5 p0_5.length c_p0_5]), (1, .slice a_p1 p1.length c_p1), (2, .slice a_p2 p2.length c_p2)]) ⟨rfl, rfl, rfl, trivial⟩ ?_
  unfold fiduciallaw48_ground at hm
  refine WK_seq ?_
  refine WK_region ?_
  refine WO_box [.int .i64 p0_0, .int .i64 p0_1, .int .i64 p0_2, .int .i64 p0_3, .int .i64 p0_4, .slice a_p0_5 p0_5.length c_p0_5] rfl rfl trivial rfl rfl rfl (fun b1 => ?_)
  refine WO.cls (C' := St w0 m m [[⟨b1, 25, [.int .i64 p0_0, .int .i64 p0_1, .int .i64 p0_2, .int .i64 p0_3, .int .i64 p0_4, .slice a_p0_5 p0_5.length c_p0_5]⟩]]) (fun _ h => h) ?_
  refine WO_pure tbok 2 [(1, .slice a_p1 p1.length c_p1), (2, .slice a_p2 p2.length c_p2), (3, .pointer (some ⟨b1, 0, none⟩)), (6, .slice none 0 0), (7, .int .i64 0)] rfl ⟨rfl, rfl, rfl, rfl, rfl, trivial⟩ ?_
  refine WO_end ?_
  refine WK_seq ?_
  refine WK_seq ?_
  refine WK_region ?_
  refine WO_loadB tbok 0 rfl rfl rfl rfl (fun _ h => h) rfl rfl ?_
  obtain ⟨y_1, hc2, hm⟩ := bind_some hm
  refine WO_call0 (.int .i64 y_1) rfl rfl trivial rfl rfl rfl rfl St_closed ⟨17, #[], #[], rfl, callable_17, fun w hw => ⟨_, hw.sat, fiduciallaw48_checked_walk h_p0_5 hc2⟩⟩ ?_
  refine WO_pure tbok 1 [(1, .slice a_p1 p1.length c_p1), (2, .slice a_p2 p2.length c_p2), (3, .pointer (some ⟨b1, 0, none⟩)), (6, .slice none 0 0), (7, .int .i64 0), (8, .int .i64 y_1)] rfl ⟨rfl, rfl, rfl, rfl, rfl, rfl, trivial⟩ ?_
  refine WO_end ?_
  refine WK_seq ?_
  refine WK_region ?_
  refine WO_pure tbok 2 [(1, .slice a_p1 p1.length c_p1), (2, .slice a_p2 p2.length c_p2), (3, .pointer (some ⟨b1, 0, none⟩)), (6, .slice none 0 0), (7, .int .i64 0), (8, .int .i64 y_1), (21, .bool (y_1 != 0))] rfl ⟨rfl, rfl, rfl, rfl, rfl, rfl, rfl, trivial⟩ ?_
  refine WO_end ?_
  refine WK_cond (b := y_1 != 0) rfl (fun hb3 => ?_) (fun hb3 => ?_)
  · have hm := ifT hb3 hm
    refine WK_seq ?_
    refine WK_region ?_
    refine WO_pure tbok 3 [(1, .slice a_p1 p1.length c_p1), (2, .slice a_p2 p2.length c_p2), (3, .pointer (some ⟨b1, 0, none⟩)), (6, .slice none 0 0), (7, .int .i64 y_1)] rfl ⟨rfl, rfl, rfl, rfl, rfl, trivial⟩ ?_
    refine WO_end ?_
    cases hm
    exact WK_ret (ret_out (L := []) (RLc_tmp rfl (RLc_tmp rfl RLc_nil)) (List.nil_sublist _) ⟨none, 0, 0, rfl, (OwnE.nil none)⟩)
  · have hm := ifF hb3 hm
    refine WK_skip ?_
    refine WK_seq ?_
    refine WK_seq ?_
    refine WK_region ?_
    refine WO_pure tbok 5 [(1, .slice a_p1 p1.length c_p1), (2, .slice a_p2 p2.length c_p2), (3, .pointer (some ⟨b1, 0, none⟩)), (6, .slice none 0 0), (7, .int .i64 0), (27, .bool ((p1.length : Int) != (p2.length : Int)))] rfl ⟨rfl, rfl, rfl, rfl, rfl, rfl, trivial⟩ ?_
    refine WO_end ?_
    refine WK_cond (b := (p1.length : Int) != (p2.length : Int)) rfl (fun hb4 => ?_) (fun hb4 => ?_)
    · have hm := ifT hb4 hm
      refine WK_seq ?_
      refine WK_region ?_
      refine WO_pure tbok 2 [(1, .slice a_p1 p1.length c_p1), (2, .slice a_p2 p2.length c_p2), (3, .pointer (some ⟨b1, 0, none⟩)), (6, .slice none 0 0), (7, .int .i64 4)] rfl ⟨rfl, rfl, rfl, rfl, rfl, trivial⟩ ?_
      refine WO_end ?_
      cases hm
      exact WK_ret (ret_out (L := []) (RLc_tmp rfl (RLc_tmp rfl RLc_nil)) (List.nil_sublist _) ⟨none, 0, 0, rfl, (OwnE.nil none)⟩)
    · have hm := ifF hb4 hm
      refine WK_skip ?_
      refine WK_seq ?_
      refine WK_seq ?_
      obtain ⟨s_2, hx5, hm⟩ := bind_some hm
      refine WK_meet [(1, .slice a_p1 p1.length c_p1), (2, .slice a_p2 p2.length c_p2), (3, .pointer (some ⟨b1, 0, none⟩)), (6, .slice none 0 0), (7, .int .i64 0), (35, .bool s_2)] (St w0 m m [[⟨b1, 25, [.int .i64 p0_0, .int .i64 p0_1, .int .i64 p0_2, .int .i64 p0_3, .int .i64 p0_4, .slice a_p0_5 p0_5.length c_p0_5]⟩]]) ?_ (fun hk6 => ?_)
      · refine WK_cond (b := s_2) rfl (fun hb7 => ?_) (fun hb7 => ?_)
        · have hm := ifT hb7 hm
          refine WK_seq ?_
          refine WK_region ?_
          refine WO_pure tbok 2 [(1, .slice a_p1 p1.length c_p1), (2, .slice a_p2 p2.length c_p2), (3, .pointer (some ⟨b1, 0, none⟩)), (6, .slice none 0 0), (7, .int .i64 2)] rfl ⟨rfl, rfl, rfl, rfl, rfl, trivial⟩ ?_
          refine WO_end ?_
          cases hm
          exact WK_ret (ret_out (L := []) (RLc_tmp rfl (RLc_tmp rfl RLc_nil)) (List.nil_sublist _) ⟨none, 0, 0, rfl, (OwnE.nil none)⟩)
        · have hm := ifF hb7 hm
          refine WK_skip ?_
          refine WK_seq ?_
          refine WK_seq ?_
          refine WK_region ?_
          refine WO_pure tbok 3 [(1, .slice a_p1 p1.length c_p1), (2, .slice a_p2 p2.length c_p2), (3, .pointer (some ⟨b1, 0, none⟩)), (6, .slice none 0 0), (7, .int .i64 0), (37, .int .i64 (p1.length : Int)), (38, .int .i64 0)] rfl ⟨rfl, rfl, rfl, rfl, rfl, rfl, rfl, trivial⟩ ?_
          refine WO_end ?_
          obtain ⟨x8, hx9, hm⟩ := bind_some hm
          refine WK_join (β := Unit × Unit) (fun p => Sum.inr p.1 = x8) (fun p => [(1, .slice a_p1 p1.length c_p1), (2, .slice a_p2 p2.length c_p2), (3, .pointer (some ⟨b1, 0, none⟩)), (6, .slice none 0 0), (7, .int .i64 0)]) (fun p => St w0 m m [[⟨b1, 25, [.int .i64 p0_0, .int .i64 p0_1, .int .i64 p0_2, .int .i64 p0_3, .int .i64 p0_4, .slice a_p0_5 p0_5.length c_p0_5]⟩]]) ?_ (fun hk10 => ?_)
          · rintro ⟨⟨⟩, ⟨⟩⟩ hq16
            subst hq16
            refine WK.sub (e' := [(1, .slice a_p1 p1.length c_p1), (2, .slice a_p2 p2.length c_p2), (3, .pointer (some ⟨b1, 0, none⟩)), (6, .slice none 0 0), (7, .int .i64 0)]) ⟨rfl, rfl, rfl, rfl, rfl, trivial⟩ (WK.cls (C' := St w0 m m [[⟨b1, 25, [.int .i64 p0_0, .int .i64 p0_1, .int .i64 p0_2, .int .i64 p0_3, .int .i64 p0_4, .slice a_p0_5 p0_5.length c_p0_5]⟩]]) (fun _ h => h) ?_)
            refine WK_seq ?_
            refine WK_seq ?_
            refine WK_region ?_
            refine WO_pure tbok 1 [(1, .slice a_p1 p1.length c_p1), (2, .slice a_p2 p2.length c_p2), (3, .pointer (some ⟨b1, 0, none⟩)), (6, .slice none 0 0), (7, .int .i64 0), (10, .int .i64 1)] rfl ⟨rfl, rfl, rfl, rfl, rfl, rfl, trivial⟩ ?_
            refine WO_end ?_
            obtain ⟨x17, hx18, hm⟩ := bind_some hm
            refine WK_join (β := Unit × Unit) (fun p => Sum.inr p.1 = x17) (fun p => [(1, .slice a_p1 p1.length c_p1), (2, .slice a_p2 p2.length c_p2), (3, .pointer (some ⟨b1, 0, none⟩)), (6, .slice none 0 0), (7, .int .i64 0)]) (fun p => St w0 m m [[⟨b1, 25, [.int .i64 p0_0, .int .i64 p0_1, .int .i64 p0_2, .int .i64 p0_3, .int .i64 p0_4, .slice a_p0_5 p0_5.length c_p0_5]⟩]]) ?_ (fun hk19 => ?_)
            · rintro ⟨⟨⟩, ⟨⟩⟩ hq25
              subst hq25
              refine WK.sub (e' := [(1, .slice a_p1 p1.length c_p1), (2, .slice a_p2 p2.length c_p2), (3, .pointer (some ⟨b1, 0, none⟩)), (6, .slice none 0 0), (7, .int .i64 0)]) ⟨rfl, rfl, rfl, rfl, rfl, trivial⟩ (WK.cls (C' := St w0 m m [[⟨b1, 25, [.int .i64 p0_0, .int .i64 p0_1, .int .i64 p0_2, .int .i64 p0_3, .int .i64 p0_4, .slice a_p0_5 p0_5.length c_p0_5]⟩]]) (fun _ h => h) ?_)
              refine WK_seq ?_
              refine WK_region ?_
              refine WO_pure tbok 1 [(1, .slice a_p1 p1.length c_p1), (2, .slice a_p2 p2.length c_p2), (3, .pointer (some ⟨b1, 0, none⟩)), (6, .slice none 0 0), (7, .int .i64 0), (11, .slice none 0 0)] rfl ⟨rfl, rfl, rfl, rfl, rfl, rfl, trivial⟩ ?_
              refine WO_end ?_
              refine WK_seq ?_
              refine WK_seq ?_
              refine WK_region ?_
              refine WO_pure tbok 1 [(1, .slice a_p1 p1.length c_p1), (2, .slice a_p2 p2.length c_p2), (3, .pointer (some ⟨b1, 0, none⟩)), (6, .slice none 0 0), (7, .int .i64 0), (11, .slice none 0 0), (84, .pointer (some ⟨b1, 5, none⟩))] rfl ⟨rfl, rfl, rfl, rfl, rfl, rfl, rfl, trivial⟩ ?_
              refine WO_loadB tbok 0 rfl rfl rfl rfl (fun _ h => h) rfl rfl ?_
              refine WO_pure tbok 2 [(1, .slice a_p1 p1.length c_p1), (2, .slice a_p2 p2.length c_p2), (3, .pointer (some ⟨b1, 0, none⟩)), (6, .slice none 0 0), (7, .int .i64 0), (11, .slice none 0 0), (85, .slice a_p0_5 p0_5.length c_p0_5), (86, .int .i64 (p0_5.length : Int)), (87, .int .i64 0)] rfl ⟨rfl, rfl, rfl, rfl, rfl, rfl, rfl, rfl, rfl, trivial⟩ ?_
              refine WO_end ?_
              refine WK_pad ?_
              obtain ⟨x34, hx35, hm⟩ := bind_some hm
              refine WK_join (β := (List Bool) × (Option Addr × Nat × Nat × List Ent)) (fun p => p.1 = x34 ∧ OwnE 4 1 B1 (.slice p.2.1 p.2.2.1 p.2.2.2.1) p.1 p.2.2.2.2) (fun p => [(1, .slice a_p1 p1.length c_p1), (2, .slice a_p2 p2.length c_p2), (3, .pointer (some ⟨b1, 0, none⟩)), (6, .slice none 0 0), (7, .int .i64 0), (11, .slice p.2.1 p.2.2.1 p.2.2.2.1)]) (fun p => St w0 m m [[⟨b1, 25, [.int .i64 p0_0, .int .i64 p0_1, .int .i64 p0_2, .int .i64 p0_3, .int .i64 p0_4, .slice a_p0_5 p0_5.length c_p0_5]⟩], p.2.2.2.2]) ?_ (fun hk36 => ?_)
              · rintro ⟨l_7, ⟨a31, q32, c33, L30⟩⟩ ⟨hq42, hL30⟩
                subst hq42
                have hqq : q32 = l_7.length := OwnE.qlen hL30
                subst hqq
                refine WK.sub (e' := [(1, .slice a_p1 p1.length c_p1), (2, .slice a_p2 p2.length c_p2), (3, .pointer (some ⟨b1, 0, none⟩)), (6, .slice none 0 0), (7, .int .i64 0), (11, .slice a31 ((l_7).length) c33)]) ⟨rfl, rfl, rfl, rfl, rfl, rfl, trivial⟩ (WK.cls (C' := St w0 m m [[⟨b1, 25, [.int .i64 p0_0, .int .i64 p0_1, .int .i64 p0_2, .int .i64 p0_3, .int .i64 p0_4, .slice a_p0_5 p0_5.length c_p0_5]⟩], L30]) (fun _ h => h) ?_)
                refine WK_seq ?_
                refine WK_seq ?_
                refine WK_region ?_
                refine WO_pure tbok 3 [(2, .slice a_p2 p2.length c_p2), (3, .pointer (some ⟨b1, 0, none⟩)), (6, .slice none 0 0), (7, .int .i64 0), (11, .slice a31 ((l_7).length) c33), (97, .slice a_p1 p1.length c_p1), (98, .int .i64 (p1.length : Int)), (99, .int .i64 0)] rfl ⟨rfl, rfl, rfl, rfl, rfl, rfl, rfl, rfl, trivial⟩ ?_
                refine WO_end ?_
                obtain ⟨x57, hx58, hm⟩ := bind_some hm
                refine WK_join (β := (List Bool × Int × Int × Int × Int × Int × List Int) × (Mu × List Ent × Option Addr × Nat × Nat)) (fun p => p.1 = x57 ∧ Le m p.2.1 ∧ OwnE 4 1 B1 (.slice a31 ((l_7).length) c33) p.1.1 p.2.2.1 ∧ SlR (FE (I1 .i64)) 1 p.2.1 (.slice p.2.2.2.1 p.2.2.2.2.1 p.2.2.2.2.2) p.1.2.2.2.2.2.2) (fun p => [(6, .slice none 0 0), (7, .int .i64 0), (11, .slice a31 ((l_7).length) c33)]) (fun p => St w0 m p.2.1 [[⟨b1, 25, [.int .i64 p.1.2.1, .int .i64 p.1.2.2.1, .int .i64 p.1.2.2.2.1, .int .i64 p.1.2.2.2.2.1, .int .i64 p.1.2.2.2.2.2.1, .slice p.2.2.2.1 p.2.2.2.2.1 p.2.2.2.2.2]⟩], p.2.2.1]) ?_ (fun hk59 => ?_)
                · rintro ⟨⟨l_16, s_17, s_18, s_19, s_20, s_21, l_22⟩, ⟨m50, L52, a53, q54, c55⟩⟩ ⟨hq65, hle51, hL52, h56⟩
                  subst hq65
                  have hqq : q54 = l_22.length := SlR.qlen h56
                  subst hqq
                  refine WK.sub (e' := [(6, .slice none 0 0), (7, .int .i64 0), (11, .slice a31 ((l_7).length) c33)]) ⟨rfl, rfl, rfl, trivial⟩ (WK.cls (C' := St w0 m m50 [[⟨b1, 25, [.int .i64 s_17, .int .i64 s_18, .int .i64 s_19, .int .i64 s_20, .int .i64 s_21, .slice a53 ((l_22).length) c55]⟩], L52]) (fun _ h => h) ?_)
                  refine WK_seq ?_
                  refine WK_region ?_
                  refine WO_pure tbok 3 [(6, .slice a31 ((l_7).length) c33), (7, .int .i64 0)] rfl ⟨rfl, rfl, trivial⟩ ?_
                  refine WO_end ?_
                  cases hm
                  exact WK_ret (ret_out (L := L52) (RLc_tmp rfl (RLc_tmp rfl RLc_nil)) (seg_sub 1 rfl) ⟨a31, _, c33, rfl, hL52⟩)
                · refine WK_block ?_
                  refine WK_loop (S := List Bool × Int × Int × Int × Int × Int × Int × List Int) (G := Mu × List Ent × Option Addr × Nat × Nat) (fun s => fiduciallaw48_ground_s4 p1 p2 l_7 s.1 s.2.1 s.2.2.1 s.2.2.2.1 s.2.2.2.2.1 s.2.2.2.2.2.1 s.2.2.2.2.2.2.1 s.2.2.2.2.2.2.2) (fun s g => [(2, .slice a_p2 p2.length c_p2), (3, .pointer (some ⟨b1, 0, none⟩)), (6, .slice none 0 0), (7, .int .i64 0), (11, .slice a31 ((l_7).length) c33), (97, .slice a_p1 p1.length c_p1), (98, .int .i64 (p1.length : Int)), (99, .int .i64 s.2.1)]) (fun s g => St w0 m g.1 [[⟨b1, 25, [.int .i64 s.2.2.1, .int .i64 s.2.2.2.1, .int .i64 s.2.2.2.2.1, .int .i64 s.2.2.2.2.2.1, .int .i64 s.2.2.2.2.2.2.1, .slice g.2.2.1 g.2.2.2.1 g.2.2.2.2]⟩], g.2.1]) (fun s g => Le m g.1 ∧ OwnE 4 1 B1 (.slice a31 ((l_7).length) c33) s.1 g.2.1 ∧ SlR (FE (I1 .i64)) 1 g.1 (.slice g.2.2.1 g.2.2.2.1 g.2.2.2.2) s.2.2.2.2.2.2.2) FUEL (l_7, 0, p0_0, p0_1, p0_2, p0_3, p0_4, p0_5) (m, L30, a_p0_5, p0_5.length, c_p0_5) x57 hx58 ⟨(Le.refl _), hL30, h_p0_5⟩ ⟨rfl, rfl, rfl, rfl, rfl, rfl, rfl, rfl, trivial⟩ (fun _ h => h) ?_
                  rintro ⟨l_8, s_9, s_10, s_11, s_12, s_13, s_14, l_15⟩ ⟨m43, L45, a46, q47, c48⟩ o61 fl62 hm60 ⟨hle44, hL45, h49⟩ hn63 hd64
                  have hm60 : fiduciallaw48_ground_s4 p1 p2 l_7 l_8 s_9 s_10 s_11 s_12 s_13 s_14 l_15 = some o61 := hm60
                  unfold fiduciallaw48_ground_s4 at hm60
                  have hqq : q47 = l_15.length := SlR.qlen h49
                  subst hqq
                  refine WK.sub (e' := [(2, .slice a_p2 p2.length c_p2), (3, .pointer (some ⟨b1, 0, none⟩)), (6, .slice none 0 0), (7, .int .i64 0), (11, .slice a31 ((l_7).length) c33), (97, .slice a_p1 p1.length c_p1), (98, .int .i64 (p1.length : Int)), (99, .int .i64 s_9)]) ⟨rfl, rfl, rfl, rfl, rfl, rfl, rfl, rfl, trivial⟩ (WK.cls (C' := St w0 m m43 [[⟨b1, 25, [.int .i64 s_10, .int .i64 s_11, .int .i64 s_12, .int .i64 s_13, .int .i64 s_14, .slice a46 ((l_15).length) c48]⟩], L45]) (fun _ h => h) ?_)
                  refine WK_seq ?_
                  refine WK_region ?_
                  refine WO_pure tbok 1 [(2, .slice a_p2 p2.length c_p2), (3, .pointer (some ⟨b1, 0, none⟩)), (6, .slice none 0 0), (7, .int .i64 0), (11, .slice a31 ((l_7).length) c33), (97, .slice a_p1 p1.length c_p1), (98, .int .i64 (p1.length : Int)), (99, .int .i64 s_9), (100, .bool (decide (s_9 < (p1.length : Int))))] rfl ⟨rfl, rfl, rfl, rfl, rfl, rfl, rfl, rfl, rfl, trivial⟩ ?_
                  refine WO_end ?_
                  refine WK_seq ?_
                  refine WK_cond (b := decide (s_9 < (p1.length : Int))) rfl (fun hb66 => ?_) (fun hb66 => ?_)
                  · have hm60 := ifT hb66 hm60
                    refine WK_skip ?_
                    refine WK_seq ?_
                    refine WK_block ?_
                    refine WK_seq ?_
                    refine WK_region ?_
                    refine WO_pure tbok 1 [(2, .slice a_p2 p2.length c_p2), (3, .pointer (some ⟨b1, 0, none⟩)), (6, .slice none 0 0), (7, .int .i64 0), (11, .slice a31 ((l_7).length) c33), (97, .slice a_p1 p1.length c_p1), (98, .int .i64 (p1.length : Int)), (99, .int .i64 s_9), (101, .int .i64 s_9)] rfl ⟨rfl, rfl, rfl, rfl, rfl, rfl, rfl, rfl, rfl, trivial⟩ ?_
                    obtain ⟨v_23, hy67, hm60⟩ := bind_some hm60
                    obtain ⟨hc68, hy67⟩ := ix_some hy67
                    refine WO_index tbok rfl rfl rfl rfl rfl rfl rfl rfl (SlR.addr (h_p1.mono (mono_FE _) hle44)) hc68 ?_
                    refine WO_loadE tbok rfl rfl rfl rfl (fun _ h => St.sat h) (h_p1.mono (mono_FE _) hle44) hy67 rfl ?_
                    refine WO_pure tbok 2 [(2, .slice a_p2 p2.length c_p2), (3, .pointer (some ⟨b1, 0, none⟩)), (6, .slice none 0 0), (7, .int .i64 0), (11, .slice a31 ((l_7).length) c33), (14, .int .i64 s_9), (15, .int .i64 v_23), (97, .slice a_p1 p1.length c_p1), (98, .int .i64 (p1.length : Int)), (99, .int .i64 s_9)] rfl ⟨rfl, rfl, rfl, rfl, rfl, rfl, rfl, rfl, rfl, rfl, trivial⟩ ?_
                    refine WO_end ?_
                    refine WK_seq ?_
                    refine WK_region ?_
                    refine WO_loadB tbok 0 rfl rfl rfl rfl (fun _ h => h) rfl rfl ?_
                    refine WO_pure tbok 1 [(2, .slice a_p2 p2.length c_p2), (3, .pointer (some ⟨b1, 0, none⟩)), (6, .slice none 0 0), (7, .int .i64 0), (11, .slice a31 ((l_7).length) c33), (14, .int .i64 s_9), (97, .slice a_p1 p1.length c_p1), (98, .int .i64 (p1.length : Int)), (99, .int .i64 s_9), (104, .agg #[.int .i64 s_10, .int .i64 s_11, .int .i64 s_12, .int .i64 s_13, .int .i64 s_14, .slice a46 ((l_15).length) c48]), (105, .int .i64 v_23)] rfl ⟨rfl, rfl, rfl, rfl, rfl, rfl, rfl, rfl, rfl, rfl, rfl, trivial⟩ ?_
                    obtain ⟨⟨y_24, y_25, y_26, y_27, y_28, y_29⟩, hc69, hm60⟩ := bind_some hm60
                    refine WO_call2 (fiduciallaw48_opened_Q (y_24, y_25, y_26, y_27, y_28, y_29)) rfl rfl trivial rfl rfl rfl rfl ⟨30, #[], #[], rfl, callable_30, fiduciallaw48_opened_walk h49 hc69⟩ (fun v73 m74 L72 hle75 hq => ?_)
                    obtain ⟨a70, qa70, c71, rfl, h76⟩ := hq
                    obtain rfl := SlR.qlen h76
                    refine WO.cls (C' := St w0 m m74 [[⟨b1, 25, [.int .i64 s_10, .int .i64 s_11, .int .i64 s_12, .int .i64 s_13, .int .i64 s_14, .slice a46 ((l_15).length) c48]⟩], L45, L72]) (fun _ h => h.sub (by simp)) ?_
                    refine WO_alloc tbok [.int .i64 0, .int .i64 0, .int .i64 0, .int .i64 0, .int .i64 0, .slice none 0 0] rfl rfl trivial rfl rfl rfl rfl (fun b77 => ?_)
                    refine WO.cls (C' := St w0 m m74 [[⟨b1, 25, [.int .i64 s_10, .int .i64 s_11, .int .i64 s_12, .int .i64 s_13, .int .i64 s_14, .slice a46 ((l_15).length) c48]⟩], L45, L72, [⟨b77, 25, [.int .i64 0, .int .i64 0, .int .i64 0, .int .i64 0, .int .i64 0, .slice none 0 0]⟩]]) (fun _ h => h) ?_
                    refine WO_storeB tbok 3 [.int .i64 y_24, .int .i64 y_25, .int .i64 y_26, .int .i64 y_27, .int .i64 y_28, .slice a70 ((y_29).length) c71] rfl rfl rfl rfl rfl rfl rfl ?_
                    refine WO.cls (C' := St w0 m m74 [[⟨b1, 25, [.int .i64 s_10, .int .i64 s_11, .int .i64 s_12, .int .i64 s_13, .int .i64 s_14, .slice a46 ((l_15).length) c48]⟩], L45, L72, [⟨b77, 25, [.int .i64 y_24, .int .i64 y_25, .int .i64 y_26, .int .i64 y_27, .int .i64 y_28, .slice a70 ((y_29).length) c71]⟩]]) (fun _ h => h) ?_
                    refine WO_end ?_
                    refine WK_seq ?_
                    refine WK_seq ?_
                    refine WK_region ?_
                    refine WO_pure tbok 3 [(2, .slice a_p2 p2.length c_p2), (3, .pointer (some ⟨b1, 0, none⟩)), (6, .slice none 0 0), (7, .int .i64 0), (11, .slice a31 ((l_7).length) c33), (14, .int .i64 s_9), (16, .pointer (some ⟨b77, 0, none⟩)), (97, .slice a_p1 p1.length c_p1), (98, .int .i64 (p1.length : Int)), (99, .int .i64 s_9), (108, .int .i64 ((l_7).length : Int)), (109, .int .i64 0)] rfl ⟨rfl, rfl, rfl, rfl, rfl, rfl, rfl, rfl, rfl, rfl, rfl, rfl, trivial⟩ ?_
                    refine WO_end ?_
                    obtain ⟨x80, hx81, hm60⟩ := bind_some hm60
                    refine WK_join (β := (List Bool) × (List Ent)) (fun p => p.1 = x80 ∧ OwnE 4 1 B1 (.slice a31 ((l_7).length) c33) p.1 p.2) (fun p => [(2, .slice a_p2 p2.length c_p2), (3, .pointer (some ⟨b1, 0, none⟩)), (6, .slice none 0 0), (7, .int .i64 0), (11, .slice a31 ((l_7).length) c33), (16, .pointer (some ⟨b77, 0, none⟩)), (97, .slice a_p1 p1.length c_p1), (98, .int .i64 (p1.length : Int)), (99, .int .i64 s_9)]) (fun p => St w0 m m74 [[⟨b1, 25, [.int .i64 s_10, .int .i64 s_11, .int .i64 s_12, .int .i64 s_13, .int .i64 s_14, .slice a46 ((l_15).length) c48]⟩], p.2, L72, [⟨b77, 25, [.int .i64 y_24, .int .i64 y_25, .int .i64 y_26, .int .i64 y_27, .int .i64 y_28, .slice a70 ((y_29).length) c71]⟩]]) ?_ (fun hk82 => ?_)
                    · rintro ⟨l_32, L79⟩ ⟨hq88, hL79⟩
                      subst hq88
                      refine WK.sub (e' := [(2, .slice a_p2 p2.length c_p2), (3, .pointer (some ⟨b1, 0, none⟩)), (6, .slice none 0 0), (7, .int .i64 0), (11, .slice a31 ((l_7).length) c33), (16, .pointer (some ⟨b77, 0, none⟩)), (97, .slice a_p1 p1.length c_p1), (98, .int .i64 (p1.length : Int)), (99, .int .i64 s_9)]) ⟨rfl, rfl, rfl, rfl, rfl, rfl, rfl, rfl, rfl, trivial⟩ (WK.cls (C' := St w0 m m74 [[⟨b1, 25, [.int .i64 s_10, .int .i64 s_11, .int .i64 s_12, .int .i64 s_13, .int .i64 s_14, .slice a46 ((l_15).length) c48]⟩], L79, L72, [⟨b77, 25, [.int .i64 y_24, .int .i64 y_25, .int .i64 y_26, .int .i64 y_27, .int .i64 y_28, .slice a70 ((y_29).length) c71]⟩]]) (fun _ h => h) ?_)
                      refine WK_region ?_
                      refine WO_loadB tbok 3 rfl rfl rfl rfl (fun _ h => h) rfl rfl ?_
                      refine WO_storeB tbok 0 [.int .i64 y_24, .int .i64 y_25, .int .i64 y_26, .int .i64 y_27, .int .i64 y_28, .slice a70 ((y_29).length) c71] rfl rfl rfl rfl rfl rfl rfl ?_
                      refine WO.cls (C' := St w0 m m74 [[⟨b1, 25, [.int .i64 y_24, .int .i64 y_25, .int .i64 y_26, .int .i64 y_27, .int .i64 y_28, .slice a70 ((y_29).length) c71]⟩], L79, L72, [⟨b77, 25, [.int .i64 y_24, .int .i64 y_25, .int .i64 y_26, .int .i64 y_27, .int .i64 y_28, .slice a70 ((y_29).length) c71]⟩]]) (fun _ h => h) ?_
                      refine WO_end ?_
                      refine WK_blk ?_
                      refine WK_region ?_
                      refine WO_pure tbok 2 [(2, .slice a_p2 p2.length c_p2), (3, .pointer (some ⟨b1, 0, none⟩)), (6, .slice none 0 0), (7, .int .i64 0), (11, .slice a31 ((l_7).length) c33), (97, .slice a_p1 p1.length c_p1), (98, .int .i64 (p1.length : Int)), (99, .int .i64 (w64 (s_9 + 1)))] rfl ⟨rfl, rfl, rfl, rfl, rfl, rfl, rfl, rfl, trivial⟩ ?_
                      refine WO_end ?_
                      cases hm60
                      refine WK.sub ?_ (WK.cls (fun _ h => St.take 2 h) (hn63 _ (m74, L79, a70, _, c71) rfl ⟨(hle44.trans hle75), hL79, h76⟩))
                      exact ⟨rfl, rfl, rfl, rfl, rfl, rfl, rfl, rfl, trivial⟩
                    · refine WK_block ?_
                      refine WK_loop (S := List Bool × Int) (G := List Ent) (fun s => fiduciallaw48_ground_s5 p2 l_7 s_9 l_15 y_29 s.1 s.2) (fun s g => [(2, .slice a_p2 p2.length c_p2), (3, .pointer (some ⟨b1, 0, none⟩)), (6, .slice none 0 0), (7, .int .i64 0), (11, .slice a31 ((l_7).length) c33), (14, .int .i64 s_9), (16, .pointer (some ⟨b77, 0, none⟩)), (97, .slice a_p1 p1.length c_p1), (98, .int .i64 (p1.length : Int)), (99, .int .i64 s_9), (108, .int .i64 ((l_7).length : Int)), (109, .int .i64 s.2)]) (fun s g => St w0 m m74 [[⟨b1, 25, [.int .i64 s_10, .int .i64 s_11, .int .i64 s_12, .int .i64 s_13, .int .i64 s_14, .slice a46 ((l_15).length) c48]⟩], g, L72, [⟨b77, 25, [.int .i64 y_24, .int .i64 y_25, .int .i64 y_26, .int .i64 y_27, .int .i64 y_28, .slice a70 ((y_29).length) c71]⟩]]) (fun s g => OwnE 4 1 B1 (.slice a31 ((l_7).length) c33) s.1 g) FUEL (l_8, 0) L45 x80 hx81 hL45 ⟨rfl, rfl, rfl, rfl, rfl, rfl, rfl, rfl, rfl, rfl, rfl, rfl, trivial⟩ (fun _ h => h) ?_
                      rintro ⟨l_30, s_31⟩ L78 o84 fl85 hm83 hL78 hn86 hd87
                      have hm83 : fiduciallaw48_ground_s5 p2 l_7 s_9 l_15 y_29 l_30 s_31 = some o84 := hm83
                      unfold fiduciallaw48_ground_s5 at hm83
                      refine WK.sub (e' := [(2, .slice a_p2 p2.length c_p2), (3, .pointer (some ⟨b1, 0, none⟩)), (6, .slice none 0 0), (7, .int .i64 0), (11, .slice a31 ((l_7).length) c33), (14, .int .i64 s_9), (16, .pointer (some ⟨b77, 0, none⟩)), (97, .slice a_p1 p1.length c_p1), (98, .int .i64 (p1.length : Int)), (99, .int .i64 s_9), (108, .int .i64 ((l_7).length : Int)), (109, .int .i64 s_31)]) ⟨rfl, rfl, rfl, rfl, rfl, rfl, rfl, rfl, rfl, rfl, rfl, rfl, trivial⟩ (WK.cls (C' := St w0 m m74 [[⟨b1, 25, [.int .i64 s_10, .int .i64 s_11, .int .i64 s_12, .int .i64 s_13, .int .i64 s_14, .slice a46 ((l_15).length) c48]⟩], L78, L72, [⟨b77, 25, [.int .i64 y_24, .int .i64 y_25, .int .i64 y_26, .int .i64 y_27, .int .i64 y_28, .slice a70 ((y_29).length) c71]⟩]]) (fun _ h => h) ?_)
                      refine WK_seq ?_
                      refine WK_region ?_
                      refine WO_pure tbok 1 [(2, .slice a_p2 p2.length c_p2), (3, .pointer (some ⟨b1, 0, none⟩)), (6, .slice none 0 0), (7, .int .i64 0), (11, .slice a31 ((l_7).length) c33), (14, .int .i64 s_9), (16, .pointer (some ⟨b77, 0, none⟩)), (97, .slice a_p1 p1.length c_p1), (98, .int .i64 (p1.length : Int)), (99, .int .i64 s_9), (108, .int .i64 ((l_7).length : Int)), (109, .int .i64 s_31), (110, .bool (decide (s_31 < ((l_7).length : Int))))] rfl ⟨rfl, rfl, rfl, rfl, rfl, rfl, rfl, rfl, rfl, rfl, rfl, rfl, rfl, trivial⟩ ?_
                      refine WO_end ?_
                      refine WK_seq ?_
                      refine WK_cond (b := decide (s_31 < ((l_7).length : Int))) rfl (fun hb89 => ?_) (fun hb89 => ?_)
                      · have hm83 := ifT hb89 hm83
                        refine WK_skip ?_
                        refine WK_seq ?_
                        refine WK_block ?_
                        refine WK_seq ?_
                        refine WK_region ?_
                        refine WO_pure tbok 2 [(2, .slice a_p2 p2.length c_p2), (3, .pointer (some ⟨b1, 0, none⟩)), (6, .slice none 0 0), (7, .int .i64 0), (11, .slice a31 ((l_7).length) c33), (14, .int .i64 s_9), (16, .pointer (some ⟨b77, 0, none⟩)), (17, .int .i64 s_31), (97, .slice a_p1 p1.length c_p1), (98, .int .i64 (p1.length : Int)), (99, .int .i64 s_9), (108, .int .i64 ((l_7).length : Int)), (109, .int .i64 s_31)] rfl ⟨rfl, rfl, rfl, rfl, rfl, rfl, rfl, rfl, rfl, rfl, rfl, rfl, rfl, trivial⟩ ?_
                        refine WO_end ?_
                        obtain ⟨l_33, hx91, hm83⟩ := bind_some hm83
                        refine WK_join (β := List Ent) (fun p => OwnE 4 1 B1 (.slice a31 ((l_7).length) c33) l_33 p) (fun p => [(2, .slice a_p2 p2.length c_p2), (3, .pointer (some ⟨b1, 0, none⟩)), (6, .slice none 0 0), (7, .int .i64 0), (11, .slice a31 ((l_7).length) c33), (14, .int .i64 s_9), (16, .pointer (some ⟨b77, 0, none⟩)), (97, .slice a_p1 p1.length c_p1), (98, .int .i64 (p1.length : Int)), (99, .int .i64 s_9), (108, .int .i64 ((l_7).length : Int)), (109, .int .i64 s_31)]) (fun p => St w0 m m74 [[⟨b1, 25, [.int .i64 s_10, .int .i64 s_11, .int .i64 s_12, .int .i64 s_13, .int .i64 s_14, .slice a46 ((l_15).length) c48]⟩], p, L72, [⟨b77, 25, [.int .i64 y_24, .int .i64 y_25, .int .i64 y_26, .int .i64 y_27, .int .i64 y_28, .slice a70 ((y_29).length) c71]⟩]]) ?_ (fun hk92 => ?_)
                        · rintro L90 hL90
                          refine WK.sub (e' := [(2, .slice a_p2 p2.length c_p2), (3, .pointer (some ⟨b1, 0, none⟩)), (6, .slice none 0 0), (7, .int .i64 0), (11, .slice a31 ((l_7).length) c33), (14, .int .i64 s_9), (16, .pointer (some ⟨b77, 0, none⟩)), (97, .slice a_p1 p1.length c_p1), (98, .int .i64 (p1.length : Int)), (99, .int .i64 s_9), (108, .int .i64 ((l_7).length : Int)), (109, .int .i64 s_31)]) ⟨rfl, rfl, rfl, rfl, rfl, rfl, rfl, rfl, rfl, rfl, rfl, rfl, trivial⟩ (WK.cls (C' := St w0 m m74 [[⟨b1, 25, [.int .i64 s_10, .int .i64 s_11, .int .i64 s_12, .int .i64 s_13, .int .i64 s_14, .slice a46 ((l_15).length) c48]⟩], L90, L72, [⟨b77, 25, [.int .i64 y_24, .int .i64 y_25, .int .i64 y_26, .int .i64 y_27, .int .i64 y_28, .slice a70 ((y_29).length) c71]⟩]]) (fun _ h => h) ?_)
                          refine WK_blk ?_
                          refine WK_region ?_
                          refine WO_pure tbok 2 [(2, .slice a_p2 p2.length c_p2), (3, .pointer (some ⟨b1, 0, none⟩)), (6, .slice none 0 0), (7, .int .i64 0), (11, .slice a31 ((l_7).length) c33), (14, .int .i64 s_9), (16, .pointer (some ⟨b77, 0, none⟩)), (97, .slice a_p1 p1.length c_p1), (98, .int .i64 (p1.length : Int)), (99, .int .i64 s_9), (108, .int .i64 ((l_7).length : Int)), (109, .int .i64 (w64 (s_31 + 1)))] rfl ⟨rfl, rfl, rfl, rfl, rfl, rfl, rfl, rfl, rfl, rfl, rfl, rfl, trivial⟩ ?_
                          refine WO_end ?_
                          cases hm83
                          refine WK.sub ?_ (WK.cls (fun _ h => h) (hn86 _ L90 rfl hL90))
                          exact ⟨rfl, rfl, rfl, rfl, rfl, rfl, rfl, rfl, rfl, rfl, rfl, rfl, trivial⟩
                        · refine WK_draw 25 [0, 1, 2, 3, 4, 5, 6, 7, 8, 9, 10, 11, 12, 13, 14, 15, 16, 17, 18, 19, 20, 21, 22, 23, 24] follows_ok (by kernel_rfl) St_closed ?_
                          refine WO_pure tbok 4 [(2, .slice a_p2 p2.length c_p2), (3, .pointer (some ⟨b1, 0, none⟩)), (6, .slice none 0 0), (7, .int .i64 0), (11, .slice a31 ((l_7).length) c33), (14, .int .i64 s_9), (16, .pointer (some ⟨b77, 0, none⟩)), (17, .int .i64 s_31), (97, .slice a_p1 p1.length c_p1), (98, .int .i64 (p1.length : Int)), (99, .int .i64 s_9), (108, .int .i64 ((l_7).length : Int)), (109, .int .i64 s_31), (112, .slice a31 ((l_7).length) c33), (113, .int .i64 s_31), (114, .slice a31 ((l_7).length) c33), (115, .int .i64 s_31)] rfl ⟨rfl, rfl, rfl, rfl, rfl, rfl, rfl, rfl, rfl, rfl, rfl, rfl, rfl, rfl, rfl, rfl, rfl, trivial⟩ ?_
                          obtain ⟨v_34, hy93, hx91⟩ := bind_some hx91
                          obtain ⟨hc94, hy93⟩ := ix_some hy93
                          refine WO_index tbok rfl rfl rfl rfl rfl rfl rfl rfl (OwnE.addr hL78) (by simpa using hc94) ?_
                          refine WO_loadO (E := B1) tbok (fun _ => rfl) 1 rfl rfl rfl rfl (fun _ h => h) hL78 rfl hy93 rfl ?_
                          refine WO_pure tbok 1 [(2, .slice a_p2 p2.length c_p2), (3, .pointer (some ⟨b1, 0, none⟩)), (6, .slice none 0 0), (7, .int .i64 0), (11, .slice a31 ((l_7).length) c33), (14, .int .i64 s_9), (16, .pointer (some ⟨b77, 0, none⟩)), (17, .int .i64 s_31), (97, .slice a_p1 p1.length c_p1), (98, .int .i64 (p1.length : Int)), (99, .int .i64 s_9), (108, .int .i64 ((l_7).length : Int)), (109, .int .i64 s_31), (112, .slice a31 ((l_7).length) c33), (113, .int .i64 s_31), (118, .bool v_34)] rfl ⟨rfl, rfl, rfl, rfl, rfl, rfl, rfl, rfl, rfl, rfl, rfl, rfl, rfl, rfl, rfl, rfl, trivial⟩ ?_
                          refine WO_split (d := 118) (b := v_34) rfl (fun hb95 => ?_) (fun hb95 => ?_)
                          · have hx91 := ifT hb95 hx91
                            refine WO_pure tbok 1 [(2, .slice a_p2 p2.length c_p2), (3, .pointer (some ⟨b1, 0, none⟩)), (6, .slice none 0 0), (7, .int .i64 0), (11, .slice a31 ((l_7).length) c33), (14, .int .i64 s_9), (16, .pointer (some ⟨b77, 0, none⟩)), (17, .int .i64 s_31), (97, .slice a_p1 p1.length c_p1), (98, .int .i64 (p1.length : Int)), (99, .int .i64 s_9), (108, .int .i64 ((l_7).length : Int)), (109, .int .i64 s_31), (112, .slice a31 ((l_7).length) c33), (113, .int .i64 s_31), (118, .bool true), (119, .pointer (some ⟨b1, 5, none⟩))] rfl ⟨rfl, rfl, rfl, rfl, rfl, rfl, rfl, rfl, rfl, rfl, rfl, rfl, rfl, rfl, rfl, rfl, rfl, trivial⟩ ?_
                            refine WO_loadB tbok 0 rfl rfl rfl rfl (fun _ h => h) rfl rfl ?_
                            refine WO_pure tbok 1 [(2, .slice a_p2 p2.length c_p2), (3, .pointer (some ⟨b1, 0, none⟩)), (6, .slice none 0 0), (7, .int .i64 0), (11, .slice a31 ((l_7).length) c33), (14, .int .i64 s_9), (16, .pointer (some ⟨b77, 0, none⟩)), (17, .int .i64 s_31), (97, .slice a_p1 p1.length c_p1), (98, .int .i64 (p1.length : Int)), (99, .int .i64 s_9), (108, .int .i64 ((l_7).length : Int)), (109, .int .i64 s_31), (112, .slice a31 ((l_7).length) c33), (113, .int .i64 s_31), (118, .bool true), (120, .slice a46 ((l_15).length) c48), (121, .int .i64 s_31)] rfl ⟨rfl, rfl, rfl, rfl, rfl, rfl, rfl, rfl, rfl, rfl, rfl, rfl, rfl, rfl, rfl, rfl, rfl, rfl, trivial⟩ ?_
                            obtain ⟨v_35, hy96, hx91⟩ := bind_some hx91
                            obtain ⟨hc97, hy96⟩ := ix_some hy96
                            refine WO_index tbok rfl rfl rfl rfl rfl rfl rfl rfl (SlR.addr (h49.mono (mono_FE _) hle75)) hc97 ?_
                            refine WO_loadE tbok rfl rfl rfl rfl (fun _ h => St.sat h) (h49.mono (mono_FE _) hle75) hy96 rfl ?_
                            refine WO_pure tbok 1 [(2, .slice a_p2 p2.length c_p2), (3, .pointer (some ⟨b1, 0, none⟩)), (6, .slice none 0 0), (7, .int .i64 0), (11, .slice a31 ((l_7).length) c33), (14, .int .i64 s_9), (16, .pointer (some ⟨b77, 0, none⟩)), (17, .int .i64 s_31), (97, .slice a_p1 p1.length c_p1), (98, .int .i64 (p1.length : Int)), (99, .int .i64 s_9), (108, .int .i64 ((l_7).length : Int)), (109, .int .i64 s_31), (112, .slice a31 ((l_7).length) c33), (113, .int .i64 s_31), (118, .bool true), (123, .int .i64 v_35), (124, .pointer (some ⟨b77, 5, none⟩))] rfl ⟨rfl, rfl, rfl, rfl, rfl, rfl, rfl, rfl, rfl, rfl, rfl, rfl, rfl, rfl, rfl, rfl, rfl, rfl, trivial⟩ ?_
                            refine WO_loadB tbok 3 rfl rfl rfl rfl (fun _ h => h) rfl rfl ?_
                            refine WO_pure tbok 1 [(2, .slice a_p2 p2.length c_p2), (3, .pointer (some ⟨b1, 0, none⟩)), (6, .slice none 0 0), (7, .int .i64 0), (11, .slice a31 ((l_7).length) c33), (14, .int .i64 s_9), (16, .pointer (some ⟨b77, 0, none⟩)), (97, .slice a_p1 p1.length c_p1), (98, .int .i64 (p1.length : Int)), (99, .int .i64 s_9), (108, .int .i64 ((l_7).length : Int)), (109, .int .i64 s_31), (112, .slice a31 ((l_7).length) c33), (113, .int .i64 s_31), (118, .bool true), (123, .int .i64 v_35), (125, .slice a70 ((y_29).length) c71), (126, .int .i64 s_31)] rfl ⟨rfl, rfl, rfl, rfl, rfl, rfl, rfl, rfl, rfl, rfl, rfl, rfl, rfl, rfl, rfl, rfl, rfl, rfl, trivial⟩ ?_
                            obtain ⟨v_36, hy98, hx91⟩ := bind_some hx91
                            obtain ⟨hc99, hy98⟩ := ix_some hy98
                            refine WO_index tbok rfl rfl rfl rfl rfl rfl rfl rfl (SlR.addr h76) hc99 ?_
                            refine WO_loadE tbok rfl rfl rfl rfl (fun _ h => St.sat h) h76 hy98 rfl ?_
                            refine WO_pure tbok 3 [(2, .slice a_p2 p2.length c_p2), (3, .pointer (some ⟨b1, 0, none⟩)), (6, .slice none 0 0), (7, .int .i64 0), (11, .slice a31 ((l_7).length) c33), (14, .int .i64 s_9), (16, .pointer (some ⟨b77, 0, none⟩)), (97, .slice a_p1 p1.length c_p1), (98, .int .i64 (p1.length : Int)), (99, .int .i64 s_9), (108, .int .i64 ((l_7).length : Int)), (109, .int .i64 s_31), (112, .slice a31 ((l_7).length) c33), (113, .int .i64 s_31), (118, .bool true), (129, .int .i64 (w64 (v_35 - v_36))), (130, .slice a_p2 p2.length c_p2), (131, .int .i64 s_9)] rfl ⟨rfl, rfl, rfl, rfl, rfl, rfl, rfl, rfl, rfl, rfl, rfl, rfl, rfl, rfl, rfl, rfl, rfl, rfl, trivial⟩ ?_
                            obtain ⟨v_37, hy100, hx91⟩ := bind_some hx91
                            obtain ⟨hc101, hy100⟩ := ix_some hy100
                            refine WO_index tbok rfl rfl rfl rfl rfl rfl rfl rfl (SlR.addr ((h_p2.mono (mono_FE _) hle44).mono (mono_FE _) hle75)) hc101 ?_
                            refine WO_loadE tbok rfl rfl rfl rfl (fun _ h => St.sat h) ((h_p2.mono (mono_FE _) hle44).mono (mono_FE _) hle75) hy100 rfl ?_
                            refine WO_pure tbok 2 [(2, .slice a_p2 p2.length c_p2), (3, .pointer (some ⟨b1, 0, none⟩)), (6, .slice none 0 0), (7, .int .i64 0), (11, .slice a31 ((l_7).length) c33), (14, .int .i64 s_9), (16, .pointer (some ⟨b77, 0, none⟩)), (97, .slice a_p1 p1.length c_p1), (98, .int .i64 (p1.length : Int)), (99, .int .i64 s_9), (108, .int .i64 ((l_7).length : Int)), (109, .int .i64 s_31), (112, .slice a31 ((l_7).length) c33), (113, .int .i64 s_31), (135, .bool (decide ((w64 (v_35 - v_36)) ≤ v_37)))] rfl ⟨rfl, rfl, rfl, rfl, rfl, rfl, rfl, rfl, rfl, rfl, rfl, rfl, rfl, rfl, rfl, trivial⟩ ?_
                            obtain ⟨hc102, hx91⟩ := chk_some hx91
                            refine WO_index tbok rfl rfl rfl rfl rfl rfl rfl rfl (OwnE.addr hL78) (by simpa using hc102) ?_
                            refine WO_tail ?_
                            refine WO_storeO (E := B1) tbok (fun _ => rfl) 1 (decide ((w64 (v_35 - v_36)) ≤ v_37)) rfl rfl rfl rfl rfl hL78 rfl (by simpa using idx_lt hc102) rfl rfl rfl rfl (fun L103 hL103 => ?_)
                            refine WO.cls (C' := St w0 m m74 [[⟨b1, 25, [.int .i64 s_10, .int .i64 s_11, .int .i64 s_12, .int .i64 s_13, .int .i64 s_14, .slice a46 ((l_15).length) c48]⟩], L103, L72, [⟨b77, 25, [.int .i64 y_24, .int .i64 y_25, .int .i64 y_26, .int .i64 y_27, .int .i64 y_28, .slice a70 ((y_29).length) c71]⟩]]) (fun _ h => h) ?_
                            refine WO_end ?_
                            cases hx91
                            refine WK.sub ?_ (WK.cls (fun _ h => h) (hk92 L103 hL103))
                            exact ⟨rfl, rfl, rfl, rfl, rfl, rfl, rfl, rfl, rfl, rfl, rfl, rfl, trivial⟩
                          · have hx91 := ifF hb95 hx91
                            refine WO_pure tbok 17 [(2, .slice a_p2 p2.length c_p2), (3, .pointer (some ⟨b1, 0, none⟩)), (6, .slice none 0 0), (7, .int .i64 0), (11, .slice a31 ((l_7).length) c33), (14, .int .i64 s_9), (16, .pointer (some ⟨b77, 0, none⟩)), (97, .slice a_p1 p1.length c_p1), (98, .int .i64 (p1.length : Int)), (99, .int .i64 s_9), (108, .int .i64 ((l_7).length : Int)), (109, .int .i64 s_31), (112, .slice a31 ((l_7).length) c33), (113, .int .i64 s_31), (135, .bool false)] rfl ⟨rfl, rfl, rfl, rfl, rfl, rfl, rfl, rfl, rfl, rfl, rfl, rfl, rfl, rfl, rfl, trivial⟩ ?_
                            obtain ⟨hc104, hx91⟩ := chk_some hx91
                            refine WO_index tbok rfl rfl rfl rfl rfl rfl rfl rfl (OwnE.addr hL78) (by simpa using hc104) ?_
                            refine WO_tail ?_
                            refine WO_storeO (E := B1) tbok (fun _ => rfl) 1 false rfl rfl rfl rfl rfl hL78 rfl (by simpa using idx_lt hc104) rfl rfl rfl rfl (fun L105 hL105 => ?_)
                            refine WO.cls (C' := St w0 m m74 [[⟨b1, 25, [.int .i64 s_10, .int .i64 s_11, .int .i64 s_12, .int .i64 s_13, .int .i64 s_14, .slice a46 ((l_15).length) c48]⟩], L105, L72, [⟨b77, 25, [.int .i64 y_24, .int .i64 y_25, .int .i64 y_26, .int .i64 y_27, .int .i64 y_28, .slice a70 ((y_29).length) c71]⟩]]) (fun _ h => h) ?_
                            refine WO_end ?_
                            cases hx91
                            refine WK.sub ?_ (WK.cls (fun _ h => h) (hk92 L105 hL105))
                            exact ⟨rfl, rfl, rfl, rfl, rfl, rfl, rfl, rfl, rfl, rfl, rfl, rfl, trivial⟩
                      · have hm83 := ifF hb89 hm83
                        refine WK_exit rfl ?_
                        cases hm83
                        refine WK.sub ?_ (WK.cls (fun _ h => h) (hk82 (l_30, L78) ⟨(hd87 _ rfl), hL78⟩))
                        exact ⟨rfl, rfl, rfl, rfl, rfl, rfl, rfl, rfl, rfl, trivial⟩
                  · have hm60 := ifF hb66 hm60
                    refine WK_exit rfl ?_
                    cases hm60
                    refine WK.sub ?_ (WK.cls (fun _ h => h) (hk59 ((l_8, s_10, s_11, s_12, s_13, s_14, l_15), (m43, L45, a46, _, c48)) ⟨(hd64 _ rfl), hle44, hL45, h49⟩))
                    exact ⟨rfl, rfl, rfl, trivial⟩
              · refine WK_block ?_
                refine WK_loop (S := List Bool × Int) (G := Option Addr × Nat × Nat × List Ent) (fun s => fiduciallaw48_ground_s3 p0_5 s.1 s.2) (fun s g => [(1, .slice a_p1 p1.length c_p1), (2, .slice a_p2 p2.length c_p2), (3, .pointer (some ⟨b1, 0, none⟩)), (6, .slice none 0 0), (7, .int .i64 0), (11, .slice g.1 g.2.1 g.2.2.1), (85, .slice a_p0_5 p0_5.length c_p0_5), (86, .int .i64 (p0_5.length : Int)), (87, .int .i64 s.2)]) (fun s g => St w0 m m [[⟨b1, 25, [.int .i64 p0_0, .int .i64 p0_1, .int .i64 p0_2, .int .i64 p0_3, .int .i64 p0_4, .slice a_p0_5 p0_5.length c_p0_5]⟩], g.2.2.2]) (fun s g => OwnE 4 1 B1 (.slice g.1 g.2.1 g.2.2.1) s.1 g.2.2.2) FUEL (([] : List Bool), 0) (none, 0, 0, []) x34 hx35 (OwnE.nil (T := 4) (k := 1) (E := B1) none) ⟨rfl, rfl, rfl, rfl, rfl, rfl, rfl, rfl, rfl, trivial⟩ (fun _ h => h) ?_
                rintro ⟨l_5, s_6⟩ ⟨a27, q28, c29, L26⟩ o38 fl39 hm37 hL26 hn40 hd41
                have hm37 : fiduciallaw48_ground_s3 p0_5 l_5 s_6 = some o38 := hm37
                unfold fiduciallaw48_ground_s3 at hm37
                have hqq : q28 = l_5.length := OwnE.qlen hL26
                subst hqq
                refine WK.sub (e' := [(1, .slice a_p1 p1.length c_p1), (2, .slice a_p2 p2.length c_p2), (3, .pointer (some ⟨b1, 0, none⟩)), (6, .slice none 0 0), (7, .int .i64 0), (11, .slice a27 ((l_5).length) c29), (85, .slice a_p0_5 p0_5.length c_p0_5), (86, .int .i64 (p0_5.length : Int)), (87, .int .i64 s_6)]) ⟨rfl, rfl, rfl, rfl, rfl, rfl, rfl, rfl, rfl, trivial⟩ (WK.cls (C' := St w0 m m [[⟨b1, 25, [.int .i64 p0_0, .int .i64 p0_1, .int .i64 p0_2, .int .i64 p0_3, .int .i64 p0_4, .slice a_p0_5 p0_5.length c_p0_5]⟩], L26]) (fun _ h => h) ?_)
                refine WK_seq ?_
                refine WK_region ?_
                refine WO_pure tbok 1 [(1, .slice a_p1 p1.length c_p1), (2, .slice a_p2 p2.length c_p2), (3, .pointer (some ⟨b1, 0, none⟩)), (6, .slice none 0 0), (7, .int .i64 0), (11, .slice a27 ((l_5).length) c29), (85, .slice a_p0_5 p0_5.length c_p0_5), (86, .int .i64 (p0_5.length : Int)), (87, .int .i64 s_6), (88, .bool (decide (s_6 < (p0_5.length : Int))))] rfl ⟨rfl, rfl, rfl, rfl, rfl, rfl, rfl, rfl, rfl, rfl, trivial⟩ ?_
                refine WO_end ?_
                refine WK_seq ?_
                refine WK_cond (b := decide (s_6 < (p0_5.length : Int))) rfl (fun hb106 => ?_) (fun hb106 => ?_)
                · have hm37 := ifT hb106 hm37
                  refine WK_skip ?_
                  refine WK_seq ?_
                  refine WK_block ?_
                  refine WK_seq ?_
                  refine WK_region ?_
                  obtain ⟨v_38, hy107, hm37⟩ := bind_some hm37
                  obtain ⟨hc108, hy107⟩ := ix_some hy107
                  refine WO_index tbok rfl rfl rfl rfl rfl rfl rfl rfl (SlR.addr h_p0_5) hc108 ?_
                  refine WO_loadE tbok rfl rfl rfl rfl (fun _ h => St.sat h) h_p0_5 hy107 rfl ?_
                  refine WO_pure tbok 1 [(1, .slice a_p1 p1.length c_p1), (2, .slice a_p2 p2.length c_p2), (3, .pointer (some ⟨b1, 0, none⟩)), (6, .slice none 0 0), (7, .int .i64 0), (11, .slice a27 ((l_5).length) c29), (13, .int .i64 v_38), (85, .slice a_p0_5 p0_5.length c_p0_5), (86, .int .i64 (p0_5.length : Int)), (87, .int .i64 s_6)] rfl ⟨rfl, rfl, rfl, rfl, rfl, rfl, rfl, rfl, rfl, rfl, trivial⟩ ?_
                  refine WO_end ?_
                  refine WK_region ?_
                  refine WO_pure tbok 3 [(1, .slice a_p1 p1.length c_p1), (2, .slice a_p2 p2.length c_p2), (3, .pointer (some ⟨b1, 0, none⟩)), (6, .slice none 0 0), (7, .int .i64 0), (11, .slice a27 ((l_5).length) c29), (85, .slice a_p0_5 p0_5.length c_p0_5), (86, .int .i64 (p0_5.length : Int)), (87, .int .i64 s_6), (91, .slice a27 ((l_5).length) c29), (93, .bool (v_38 != (-2147483648)))] rfl ⟨rfl, rfl, rfl, rfl, rfl, rfl, rfl, rfl, rfl, rfl, rfl, trivial⟩ ?_
                  refine WO_bslice (E := B1) tbok (fun _ => rfl) (by decide) [.bool (v_38 != (-2147483648))] ([v_38 != (-2147483648)] : List Bool) rfl rfl trivial rfl rfl rfl rfl rfl rfl rfl rfl rfl rfl rfl rfl (fun b109 hb109 => ?_)
                  refine WO.cls (C' := St w0 m m [[⟨b1, 25, [.int .i64 p0_0, .int .i64 p0_1, .int .i64 p0_2, .int .i64 p0_3, .int .i64 p0_4, .slice a_p0_5 p0_5.length c_p0_5]⟩], L26, [⟨b109, 4, ([v_38 != (-2147483648)] : List Bool).flatMap B1⟩]]) (fun _ h => h) ?_
                  obtain ⟨hc110, hm37⟩ := chk_some hm37
                  refine WO_append (E := B1) tbok (fun _ => rfl) 1 ([v_38 != (-2147483648)] : List Bool) (fun _ _ => rfl) rfl rfl rfl rfl rfl rfl rfl rfl rfl rfl rfl rfl hL26 rfl (src_seg (j := 2) rfl) (ap_ok (by decide) hc110) (ap_max hc110) (fun a111 c112 L113 hL113 => ?_)
                  refine WO.cls (C' := St w0 m m [[⟨b1, 25, [.int .i64 p0_0, .int .i64 p0_1, .int .i64 p0_2, .int .i64 p0_3, .int .i64 p0_4, .slice a_p0_5 p0_5.length c_p0_5]⟩], L113, [⟨b109, 4, ([v_38 != (-2147483648)] : List Bool).flatMap B1⟩]]) (fun _ h => h) ?_
                  refine WO_pure tbok 1 [(1, .slice a_p1 p1.length c_p1), (2, .slice a_p2 p2.length c_p2), (3, .pointer (some ⟨b1, 0, none⟩)), (6, .slice none 0 0), (7, .int .i64 0), (11, .slice a111 ((l_5 ++ ([v_38 != (-2147483648)] : List Bool)).length) c112), (85, .slice a_p0_5 p0_5.length c_p0_5), (86, .int .i64 (p0_5.length : Int)), (87, .int .i64 s_6)] rfl ⟨rfl, rfl, rfl, rfl, rfl, rfl, rfl, rfl, rfl, trivial⟩ ?_
                  refine WO_end ?_
                  refine WK_blk ?_
                  refine WK_region ?_
                  refine WO_pure tbok 2 [(1, .slice a_p1 p1.length c_p1), (2, .slice a_p2 p2.length c_p2), (3, .pointer (some ⟨b1, 0, none⟩)), (6, .slice none 0 0), (7, .int .i64 0), (11, .slice a111 ((l_5 ++ ([v_38 != (-2147483648)] : List Bool)).length) c112), (85, .slice a_p0_5 p0_5.length c_p0_5), (86, .int .i64 (p0_5.length : Int)), (87, .int .i64 (w64 (s_6 + 1)))] rfl ⟨rfl, rfl, rfl, rfl, rfl, rfl, rfl, rfl, rfl, trivial⟩ ?_
                  refine WO_end ?_
                  cases hm37
                  refine WK.sub ?_ (WK.cls (fun _ h => St.take 2 h) (hn40 _ (a111, (l_5 ++ ([v_38 != (-2147483648)] : List Bool)).length, c112, L113) rfl hL113))
                  exact ⟨rfl, rfl, rfl, rfl, rfl, rfl, rfl, rfl, rfl, trivial⟩
                · have hm37 := ifF hb106 hm37
                  refine WK_exit rfl ?_
                  cases hm37
                  refine WK.sub ?_ (WK.cls (fun _ h => h) (hk36 (l_5, (a27, _, c29, L26)) ⟨(hd41 _ rfl), hL26⟩))
                  exact ⟨rfl, rfl, rfl, rfl, rfl, rfl, trivial⟩
            · refine WK_block ?_
              refine WK_loop (S := Int) (G := Unit) (fun s => fiduciallaw48_ground_s2 p1 s) (fun s g => [(1, .slice a_p1 p1.length c_p1), (2, .slice a_p2 p2.length c_p2), (3, .pointer (some ⟨b1, 0, none⟩)), (6, .slice none 0 0), (7, .int .i64 0), (10, .int .i64 s)]) (fun s g => St w0 m m [[⟨b1, 25, [.int .i64 p0_0, .int .i64 p0_1, .int .i64 p0_2, .int .i64 p0_3, .int .i64 p0_4, .slice a_p0_5 p0_5.length c_p0_5]⟩]]) (fun s g => True) FUEL 1 () x17 hx18 trivial ⟨rfl, rfl, rfl, rfl, rfl, rfl, trivial⟩ (fun _ h => h) ?_
              rintro s_4 ⟨⟩ o21 fl22 hm20 - hn23 hd24
              have hm20 : fiduciallaw48_ground_s2 p1 s_4 = some o21 := hm20
              unfold fiduciallaw48_ground_s2 at hm20
              refine WK.sub (e' := [(1, .slice a_p1 p1.length c_p1), (2, .slice a_p2 p2.length c_p2), (3, .pointer (some ⟨b1, 0, none⟩)), (6, .slice none 0 0), (7, .int .i64 0), (10, .int .i64 s_4)]) ⟨rfl, rfl, rfl, rfl, rfl, rfl, trivial⟩ (WK.cls (C' := St w0 m m [[⟨b1, 25, [.int .i64 p0_0, .int .i64 p0_1, .int .i64 p0_2, .int .i64 p0_3, .int .i64 p0_4, .slice a_p0_5 p0_5.length c_p0_5]⟩]]) (fun _ h => h) ?_)
              refine WK_seq ?_
              refine WK_seq ?_
              refine WK_region ?_
              refine WO_pure tbok 4 [(1, .slice a_p1 p1.length c_p1), (2, .slice a_p2 p2.length c_p2), (3, .pointer (some ⟨b1, 0, none⟩)), (6, .slice none 0 0), (7, .int .i64 0), (10, .int .i64 s_4), (71, .bool (decide (s_4 < (p1.length : Int))))] rfl ⟨rfl, rfl, rfl, rfl, rfl, rfl, rfl, trivial⟩ ?_
              refine WO_end ?_
              refine WK_cond (b := decide (s_4 < (p1.length : Int))) rfl (fun hb114 => ?_) (fun hb114 => ?_)
              · have hm20 := ifT hb114 hm20
                refine WK_skip ?_
                refine WK_seq ?_
                refine WK_block ?_
                refine WK_seq ?_
                refine WK_draw 10 [0, 1, 2, 3, 4, 5, 6, 7, 8, 9] follows_ok (by kernel_rfl) St_closed ?_
                refine WO_pure tbok 2 [(1, .slice a_p1 p1.length c_p1), (2, .slice a_p2 p2.length c_p2), (3, .pointer (some ⟨b1, 0, none⟩)), (6, .slice none 0 0), (7, .int .i64 0), (10, .int .i64 s_4), (74, .slice a_p1 p1.length c_p1), (75, .int .i64 s_4)] rfl ⟨rfl, rfl, rfl, rfl, rfl, rfl, rfl, rfl, trivial⟩ ?_
                obtain ⟨v_39, hy115, hm20⟩ := bind_some hm20
                obtain ⟨hc116, hy115⟩ := ix_some hy115
                refine WO_index tbok rfl rfl rfl rfl rfl rfl rfl rfl (SlR.addr h_p1) hc116 ?_
                refine WO_loadE tbok rfl rfl rfl rfl (fun _ h => St.sat h) h_p1 hy115 rfl ?_
                refine WO_pure tbok 3 [(1, .slice a_p1 p1.length c_p1), (2, .slice a_p2 p2.length c_p2), (3, .pointer (some ⟨b1, 0, none⟩)), (6, .slice none 0 0), (7, .int .i64 0), (10, .int .i64 s_4), (77, .int .i64 v_39), (78, .slice a_p1 p1.length c_p1), (80, .int .i64 (w64 (s_4 - 1)))] rfl ⟨rfl, rfl, rfl, rfl, rfl, rfl, rfl, rfl, rfl, trivial⟩ ?_
                obtain ⟨v_40, hy117, hm20⟩ := bind_some hm20
                obtain ⟨hc118, hy117⟩ := ix_some hy117
                refine WO_index tbok rfl rfl rfl rfl rfl rfl rfl rfl (SlR.addr h_p1) hc118 ?_
                refine WO_loadE tbok rfl rfl rfl rfl (fun _ h => St.sat h) h_p1 hy117 rfl ?_
                refine WO_pure tbok 1 [(1, .slice a_p1 p1.length c_p1), (2, .slice a_p2 p2.length c_p2), (3, .pointer (some ⟨b1, 0, none⟩)), (6, .slice none 0 0), (7, .int .i64 0), (10, .int .i64 s_4), (83, .bool (decide (v_39 ≤ v_40)))] rfl ⟨rfl, rfl, rfl, rfl, rfl, rfl, rfl, trivial⟩ ?_
                refine WO_tail ?_
                refine WO_end ?_
                refine WK_cond (b := decide (v_39 ≤ v_40)) rfl (fun hb119 => ?_) (fun hb119 => ?_)
                · have hm20 := ifT hb119 hm20
                  refine WK_seq ?_
                  refine WK_region ?_
                  refine WO_pure tbok 2 [(1, .slice a_p1 p1.length c_p1), (2, .slice a_p2 p2.length c_p2), (3, .pointer (some ⟨b1, 0, none⟩)), (6, .slice none 0 0), (7, .int .i64 5), (10, .int .i64 s_4)] rfl ⟨rfl, rfl, rfl, rfl, rfl, rfl, trivial⟩ ?_
                  refine WO_end ?_
                  cases hm20
                  have hq := hd24 _ rfl
                  subst hq
                  have hm : some _ = some _ := hm
                  cases hm
                  exact WK_ret (ret_out (L := []) (RLc_tmp rfl (RLc_tmp rfl RLc_nil)) (List.nil_sublist _) ⟨none, 0, 0, rfl, (OwnE.nil none)⟩)
                · have hm20 := ifF hb119 hm20
                  refine WK_skip ?_
                  refine WK_blk ?_
                  refine WK_region ?_
                  refine WO_pure tbok 3 [(1, .slice a_p1 p1.length c_p1), (2, .slice a_p2 p2.length c_p2), (3, .pointer (some ⟨b1, 0, none⟩)), (6, .slice none 0 0), (7, .int .i64 0), (10, .int .i64 (w64 (s_4 + 1)))] rfl ⟨rfl, rfl, rfl, rfl, rfl, rfl, trivial⟩ ?_
                  refine WO_end ?_
                  cases hm20
                  refine WK.sub ?_ (WK.cls (fun _ h => h) (hn23 _ () rfl trivial))
                  exact ⟨rfl, rfl, rfl, rfl, rfl, rfl, trivial⟩
              · have hm20 := ifF hb114 hm20
                refine WK_exit rfl ?_
                cases hm20
                refine WK.sub ?_ (WK.cls (fun _ h => h) (hk19 ((), ()) (hd24 _ rfl)))
                exact ⟨rfl, rfl, rfl, rfl, rfl, trivial⟩
          · refine WK_block ?_
            refine WK_loop (S := Int) (G := Unit) (fun s => fiduciallaw48_ground_s1 p1 p2 s) (fun s g => [(1, .slice a_p1 p1.length c_p1), (2, .slice a_p2 p2.length c_p2), (3, .pointer (some ⟨b1, 0, none⟩)), (6, .slice none 0 0), (7, .int .i64 0), (37, .int .i64 (p1.length : Int)), (38, .int .i64 s)]) (fun s g => St w0 m m [[⟨b1, 25, [.int .i64 p0_0, .int .i64 p0_1, .int .i64 p0_2, .int .i64 p0_3, .int .i64 p0_4, .slice a_p0_5 p0_5.length c_p0_5]⟩]]) (fun s g => True) FUEL 0 () x8 hx9 trivial ⟨rfl, rfl, rfl, rfl, rfl, rfl, rfl, trivial⟩ (fun _ h => h) ?_
            rintro s_3 ⟨⟩ o12 fl13 hm11 - hn14 hd15
            have hm11 : fiduciallaw48_ground_s1 p1 p2 s_3 = some o12 := hm11
            unfold fiduciallaw48_ground_s1 at hm11
            refine WK.sub (e' := [(1, .slice a_p1 p1.length c_p1), (2, .slice a_p2 p2.length c_p2), (3, .pointer (some ⟨b1, 0, none⟩)), (6, .slice none 0 0), (7, .int .i64 0), (37, .int .i64 (p1.length : Int)), (38, .int .i64 s_3)]) ⟨rfl, rfl, rfl, rfl, rfl, rfl, rfl, trivial⟩ (WK.cls (C' := St w0 m m [[⟨b1, 25, [.int .i64 p0_0, .int .i64 p0_1, .int .i64 p0_2, .int .i64 p0_3, .int .i64 p0_4, .slice a_p0_5 p0_5.length c_p0_5]⟩]]) (fun _ h => h) ?_)
            refine WK_seq ?_
            refine WK_region ?_
            refine WO_pure tbok 1 [(1, .slice a_p1 p1.length c_p1), (2, .slice a_p2 p2.length c_p2), (3, .pointer (some ⟨b1, 0, none⟩)), (6, .slice none 0 0), (7, .int .i64 0), (37, .int .i64 (p1.length : Int)), (38, .int .i64 s_3), (39, .bool (decide (s_3 < (p1.length : Int))))] rfl ⟨rfl, rfl, rfl, rfl, rfl, rfl, rfl, rfl, trivial⟩ ?_
            refine WO_end ?_
            refine WK_seq ?_
            refine WK_cond (b := decide (s_3 < (p1.length : Int))) rfl (fun hb120 => ?_) (fun hb120 => ?_)
            · have hm11 := ifT hb120 hm11
              refine WK_skip ?_
              refine WK_seq ?_
              refine WK_block ?_
              refine WK_seq ?_
              refine WK_region ?_
              refine WO_pure tbok 2 [(1, .slice a_p1 p1.length c_p1), (2, .slice a_p2 p2.length c_p2), (3, .pointer (some ⟨b1, 0, none⟩)), (6, .slice none 0 0), (7, .int .i64 0), (9, .int .i64 s_3), (37, .int .i64 (p1.length : Int)), (38, .int .i64 s_3)] rfl ⟨rfl, rfl, rfl, rfl, rfl, rfl, rfl, rfl, trivial⟩ ?_
              refine WO_end ?_
              refine WK_seq ?_
              obtain ⟨s_41, hx121, hm11⟩ := bind_some hm11
              refine WK_meet [(1, .slice a_p1 p1.length c_p1), (2, .slice a_p2 p2.length c_p2), (3, .pointer (some ⟨b1, 0, none⟩)), (6, .slice none 0 0), (7, .int .i64 0), (37, .int .i64 (p1.length : Int)), (38, .int .i64 s_3), (66, .bool s_41)] (St w0 m m [[⟨b1, 25, [.int .i64 p0_0, .int .i64 p0_1, .int .i64 p0_2, .int .i64 p0_3, .int .i64 p0_4, .slice a_p0_5 p0_5.length c_p0_5]⟩]]) ?_ (fun hk122 => ?_)
              · refine WK_cond (b := s_41) rfl (fun hb123 => ?_) (fun hb123 => ?_)
                · have hm11 := ifT hb123 hm11
                  refine WK_seq ?_
                  refine WK_region ?_
                  refine WO_pure tbok 2 [(1, .slice a_p1 p1.length c_p1), (2, .slice a_p2 p2.length c_p2), (3, .pointer (some ⟨b1, 0, none⟩)), (6, .slice none 0 0), (7, .int .i64 2), (37, .int .i64 (p1.length : Int)), (38, .int .i64 s_3)] rfl ⟨rfl, rfl, rfl, rfl, rfl, rfl, rfl, trivial⟩ ?_
                  refine WO_end ?_
                  cases hm11
                  have hq := hd15 _ rfl
                  subst hq
                  have hm : some _ = some _ := hm
                  cases hm
                  exact WK_ret (ret_out (L := []) (RLc_tmp rfl (RLc_tmp rfl RLc_nil)) (List.nil_sublist _) ⟨none, 0, 0, rfl, (OwnE.nil none)⟩)
                · have hm11 := ifF hb123 hm11
                  refine WK_skip ?_
                  refine WK_blk ?_
                  refine WK_region ?_
                  refine WO_pure tbok 2 [(1, .slice a_p1 p1.length c_p1), (2, .slice a_p2 p2.length c_p2), (3, .pointer (some ⟨b1, 0, none⟩)), (6, .slice none 0 0), (7, .int .i64 0), (37, .int .i64 (p1.length : Int)), (38, .int .i64 (w64 (s_3 + 1)))] rfl ⟨rfl, rfl, rfl, rfl, rfl, rfl, rfl, trivial⟩ ?_
                  refine WO_end ?_
                  cases hm11
                  refine WK.sub ?_ (WK.cls (fun _ h => h) (hn14 _ () rfl trivial))
                  exact ⟨rfl, rfl, rfl, rfl, rfl, rfl, rfl, trivial⟩
              · refine WK_region ?_
                refine WO_pure tbok 2 [(1, .slice a_p1 p1.length c_p1), (2, .slice a_p2 p2.length c_p2), (3, .pointer (some ⟨b1, 0, none⟩)), (6, .slice none 0 0), (7, .int .i64 0), (9, .int .i64 s_3), (37, .int .i64 (p1.length : Int)), (38, .int .i64 s_3), (41, .slice a_p1 p1.length c_p1), (42, .int .i64 s_3)] rfl ⟨rfl, rfl, rfl, rfl, rfl, rfl, rfl, rfl, rfl, rfl, trivial⟩ ?_
                obtain ⟨v_42, hy124, hx121⟩ := bind_some hx121
                obtain ⟨hc125, hy124⟩ := ix_some hy124
                refine WO_index tbok rfl rfl rfl rfl rfl rfl rfl rfl (SlR.addr h_p1) hc125 ?_
                refine WO_loadE tbok rfl rfl rfl rfl (fun _ h => St.sat h) h_p1 hy124 rfl ?_
                refine WO_pure tbok 2 [(1, .slice a_p1 p1.length c_p1), (2, .slice a_p2 p2.length c_p2), (3, .pointer (some ⟨b1, 0, none⟩)), (6, .slice none 0 0), (7, .int .i64 0), (9, .int .i64 s_3), (37, .int .i64 (p1.length : Int)), (38, .int .i64 s_3), (46, .bool (decide (v_42 < 1)))] rfl ⟨rfl, rfl, rfl, rfl, rfl, rfl, rfl, rfl, rfl, trivial⟩ ?_
                refine WO_split (d := 46) (b := decide (v_42 < 1)) rfl (fun hb126 => ?_) (fun hb126 => ?_)
                · have hx121 := ifT hb126 hx121
                  refine WO_pure tbok 20 [(1, .slice a_p1 p1.length c_p1), (2, .slice a_p2 p2.length c_p2), (3, .pointer (some ⟨b1, 0, none⟩)), (6, .slice none 0 0), (7, .int .i64 0), (37, .int .i64 (p1.length : Int)), (38, .int .i64 s_3), (66, .bool true)] rfl ⟨rfl, rfl, rfl, rfl, rfl, rfl, rfl, rfl, trivial⟩ ?_
                  refine WO_end ?_
                  cases hx121
                  refine WK.sub ?_ (WK.cls (fun _ h => h) hk122)
                  exact ⟨rfl, rfl, rfl, rfl, rfl, rfl, rfl, rfl, trivial⟩
                · have hx121 := ifF hb126 hx121
                  refine WO_pure tbok 2 [(1, .slice a_p1 p1.length c_p1), (2, .slice a_p2 p2.length c_p2), (3, .pointer (some ⟨b1, 0, none⟩)), (6, .slice none 0 0), (7, .int .i64 0), (9, .int .i64 s_3), (37, .int .i64 (p1.length : Int)), (38, .int .i64 s_3), (46, .bool false), (47, .slice a_p1 p1.length c_p1), (48, .int .i64 s_3)] rfl ⟨rfl, rfl, rfl, rfl, rfl, rfl, rfl, rfl, rfl, rfl, rfl, trivial⟩ ?_
                  obtain ⟨v_43, hy127, hx121⟩ := bind_some hx121
                  obtain ⟨hc128, hy127⟩ := ix_some hy127
                  refine WO_index tbok rfl rfl rfl rfl rfl rfl rfl rfl (SlR.addr h_p1) hc128 ?_
                  refine WO_loadE tbok rfl rfl rfl rfl (fun _ h => St.sat h) h_p1 hy127 rfl ?_
                  refine WO_pure tbok 3 [(1, .slice a_p1 p1.length c_p1), (2, .slice a_p2 p2.length c_p2), (3, .pointer (some ⟨b1, 0, none⟩)), (6, .slice none 0 0), (7, .int .i64 0), (9, .int .i64 s_3), (37, .int .i64 (p1.length : Int)), (38, .int .i64 s_3), (53, .bool (decide (8 < v_43)))] rfl ⟨rfl, rfl, rfl, rfl, rfl, rfl, rfl, rfl, rfl, trivial⟩ ?_
                  refine WO_split (d := 53) (b := decide (8 < v_43)) rfl (fun hb129 => ?_) (fun hb129 => ?_)
                  · have hx121 := ifT hb129 hx121
                    refine WO_pure tbok 13 [(1, .slice a_p1 p1.length c_p1), (2, .slice a_p2 p2.length c_p2), (3, .pointer (some ⟨b1, 0, none⟩)), (6, .slice none 0 0), (7, .int .i64 0), (37, .int .i64 (p1.length : Int)), (38, .int .i64 s_3), (66, .bool true)] rfl ⟨rfl, rfl, rfl, rfl, rfl, rfl, rfl, rfl, trivial⟩ ?_
                    refine WO_end ?_
                    cases hx121
                    refine WK.sub ?_ (WK.cls (fun _ h => h) hk122)
                    exact ⟨rfl, rfl, rfl, rfl, rfl, rfl, rfl, rfl, trivial⟩
                  · have hx121 := ifF hb129 hx121
                    refine WO_pure tbok 2 [(1, .slice a_p1 p1.length c_p1), (2, .slice a_p2 p2.length c_p2), (3, .pointer (some ⟨b1, 0, none⟩)), (6, .slice none 0 0), (7, .int .i64 0), (9, .int .i64 s_3), (37, .int .i64 (p1.length : Int)), (38, .int .i64 s_3), (53, .bool false), (54, .slice a_p2 p2.length c_p2), (55, .int .i64 s_3)] rfl ⟨rfl, rfl, rfl, rfl, rfl, rfl, rfl, rfl, rfl, rfl, rfl, trivial⟩ ?_
                    obtain ⟨v_44, hy130, hx121⟩ := bind_some hx121
                    obtain ⟨hc131, hy130⟩ := ix_some hy130
                    refine WO_index tbok rfl rfl rfl rfl rfl rfl rfl rfl (SlR.addr h_p2) hc131 ?_
                    refine WO_loadE tbok rfl rfl rfl rfl (fun _ h => St.sat h) h_p2 hy130 rfl ?_
                    refine WO_pure tbok 3 [(1, .slice a_p1 p1.length c_p1), (2, .slice a_p2 p2.length c_p2), (3, .pointer (some ⟨b1, 0, none⟩)), (6, .slice none 0 0), (7, .int .i64 0), (9, .int .i64 s_3), (37, .int .i64 (p1.length : Int)), (38, .int .i64 s_3), (60, .bool (decide (v_44 < 0)))] rfl ⟨rfl, rfl, rfl, rfl, rfl, rfl, rfl, rfl, rfl, trivial⟩ ?_
                    refine WO_split (d := 60) (b := decide (v_44 < 0)) rfl (fun hb132 => ?_) (fun hb132 => ?_)
                    · have hx121 := ifT hb132 hx121
                      refine WO_pure tbok 6 [(1, .slice a_p1 p1.length c_p1), (2, .slice a_p2 p2.length c_p2), (3, .pointer (some ⟨b1, 0, none⟩)), (6, .slice none 0 0), (7, .int .i64 0), (37, .int .i64 (p1.length : Int)), (38, .int .i64 s_3), (66, .bool true)] rfl ⟨rfl, rfl, rfl, rfl, rfl, rfl, rfl, rfl, trivial⟩ ?_
                      refine WO_end ?_
                      cases hx121
                      refine WK.sub ?_ (WK.cls (fun _ h => h) hk122)
                      exact ⟨rfl, rfl, rfl, rfl, rfl, rfl, rfl, rfl, trivial⟩
                    · have hx121 := ifF hb132 hx121
                      refine WO_pure tbok 2 [(1, .slice a_p1 p1.length c_p1), (2, .slice a_p2 p2.length c_p2), (3, .pointer (some ⟨b1, 0, none⟩)), (6, .slice none 0 0), (7, .int .i64 0), (37, .int .i64 (p1.length : Int)), (38, .int .i64 s_3), (60, .bool false), (61, .slice a_p2 p2.length c_p2), (62, .int .i64 s_3)] rfl ⟨rfl, rfl, rfl, rfl, rfl, rfl, rfl, rfl, rfl, rfl, trivial⟩ ?_
                      obtain ⟨v_45, hy133, hx121⟩ := bind_some hx121
                      obtain ⟨hc134, hy133⟩ := ix_some hy133
                      refine WO_index tbok rfl rfl rfl rfl rfl rfl rfl rfl (SlR.addr h_p2) hc134 ?_
                      refine WO_loadE tbok rfl rfl rfl rfl (fun _ h => St.sat h) h_p2 hy133 rfl ?_
                      refine WO_pure tbok 2 [(1, .slice a_p1 p1.length c_p1), (2, .slice a_p2 p2.length c_p2), (3, .pointer (some ⟨b1, 0, none⟩)), (6, .slice none 0 0), (7, .int .i64 0), (37, .int .i64 (p1.length : Int)), (38, .int .i64 s_3), (66, .bool (decide (1048576 < v_45)))] rfl ⟨rfl, rfl, rfl, rfl, rfl, rfl, rfl, rfl, trivial⟩ ?_
                      refine WO_end ?_
                      cases hx121
                      refine WK.sub ?_ (WK.cls (fun _ h => h) hk122)
                      exact ⟨rfl, rfl, rfl, rfl, rfl, rfl, rfl, rfl, trivial⟩
            · have hm11 := ifF hb120 hm11
              refine WK_exit rfl ?_
              cases hm11
              refine WK.sub ?_ (WK.cls (fun _ h => h) (hk10 ((), ()) (hd15 _ rfl)))
              exact ⟨rfl, rfl, rfl, rfl, rfl, trivial⟩
      · refine WK_region ?_
        refine WO_pure tbok 4 [(1, .slice a_p1 p1.length c_p1), (2, .slice a_p2 p2.length c_p2), (3, .pointer (some ⟨b1, 0, none⟩)), (6, .slice none 0 0), (7, .int .i64 0), (31, .bool (decide ((p1.length : Int) < 1)))] rfl ⟨rfl, rfl, rfl, rfl, rfl, rfl, trivial⟩ ?_
        refine WO_split (d := 31) (b := decide ((p1.length : Int) < 1)) rfl (fun hb135 => ?_) (fun hb135 => ?_)
        · have hx5 := ifT hb135 hx5
          refine WO_pure tbok 4 [(1, .slice a_p1 p1.length c_p1), (2, .slice a_p2 p2.length c_p2), (3, .pointer (some ⟨b1, 0, none⟩)), (6, .slice none 0 0), (7, .int .i64 0), (35, .bool true)] rfl ⟨rfl, rfl, rfl, rfl, rfl, rfl, trivial⟩ ?_
          refine WO_end ?_
          cases hx5
          refine WK.sub ?_ (WK.cls (fun _ h => h) hk6)
          exact ⟨rfl, rfl, rfl, rfl, rfl, rfl, trivial⟩
        · have hx5 := ifF hb135 hx5
          refine WO_pure tbok 4 [(1, .slice a_p1 p1.length c_p1), (2, .slice a_p2 p2.length c_p2), (3, .pointer (some ⟨b1, 0, none⟩)), (6, .slice none 0 0), (7, .int .i64 0), (35, .bool (decide (8 < (p1.length : Int))))] rfl ⟨rfl, rfl, rfl, rfl, rfl, rfl, trivial⟩ ?_
          refine WO_end ?_
          cases hx5
          refine WK.sub ?_ (WK.cls (fun _ h => h) hk6)
          exact ⟨rfl, rfl, rfl, rfl, rfl, rfl, trivial⟩
theorem fiduciallaw48_TerrainGround_walk {m : Mu} {p0_0 : Int} {p0_1 : Int} {p0_2 : Int} {p0_3 : Int} {p0_4 : Int} {p0_5 : List Int} {p1 : List Int} {p2 : List Int} {a_p0_5 : Option Addr} {q_p0_5 c_p0_5 : Nat} {a_p1 : Option Addr} {q_p1 c_p1 : Nat} {a_p2 : Option Addr} {q_p2 c_p2 : Nat} (h_p0_5 : SlR (FE (I1 .i64)) 1 m (.slice a_p0_5 q_p0_5 c_p0_5) p0_5) (h_p1 : SlR (FE (I1 .i64)) 1 m (.slice a_p1 q_p1 c_p1) p1) (h_p2 : SlR (FE (I1 .i64)) 1 m (.slice a_p2 q_p2 c_p2) p2) {r : Bool} (hm : fiduciallaw48_TerrainGround p0_0 p0_1 p0_2 p0_3 p0_4 p0_5 p1 p2 = some r) :
    Go.E.Spec Try.prog 4 [.agg #[.int .i64 p0_0, .int .i64 p0_1, .int .i64 p0_2, .int .i64 p0_3, .int .i64 p0_4, .slice a_p0_5 q_p0_5 c_p0_5], .slice a_p1 q_p1 c_p1, .slice a_p2 q_p2 c_p2] m (fun v _ _ => v = .bool r) := by
  refine Spec_enter Try.func4 rfl rfl rfl (fun w0 => ?_)
  refine WK.sub (e' := [(0, .agg #[.int .i64 p0_0, .int .i64 p0_1, .int .i64 p0_2, .int .i64 p0_3, .int .i64 p0_4, .slice a_p0_5 q_p0_5 c_p0_5]), (1, .slice a_p1 q_p1 c_p1), (2, .slice a_p2 q_p2 c_p2)]) ⟨rfl, rfl, rfl, trivial⟩ ?_
  obtain rfl := SlR.qlen h_p0_5
  obtain rfl := SlR.qlen h_p1
  obtain rfl := SlR.qlen h_p2
  refine WK.sub (e' := [(0, .agg #[.int .i64 p0_0, .int .i64 p0_1, .int .i64 p0_2, .int .i64 p0_3, .int .i64 p0_4, .slice a_p0_5 p0_5.length c_p0_5]), (1, .slice a_p1 p1.length c_p1), (2, .slice a_p2 p2.length c_p2)]) ⟨rfl, rfl, rfl, trivial⟩ ?_
  unfold fiduciallaw48_TerrainGround at hm
  refine WK_seq ?_
  refine WK_region ?_
  refine WO_box [.int .i64 p0_0, .int .i64 p0_1, .int .i64 p0_2, .int .i64 p0_3, .int .i64 p0_4, .slice a_p0_5 p0_5.length c_p0_5] rfl rfl trivial rfl rfl rfl (fun b1 => ?_)
  refine WO.cls (C' := St w0 m m [[⟨b1, 25, [.int .i64 p0_0, .int .i64 p0_1, .int .i64 p0_2, .int .i64 p0_3, .int .i64 p0_4, .slice a_p0_5 p0_5.length c_p0_5]⟩]]) (fun _ h => h) ?_
  refine WO_pure tbok 1 [(1, .slice a_p1 p1.length c_p1), (2, .slice a_p2 p2.length c_p2), (3, .pointer (some ⟨b1, 0, none⟩)), (6, .bool false)] rfl ⟨rfl, rfl, rfl, rfl, trivial⟩ ?_
  refine WO_end ?_
  refine WK_seq ?_
  refine WK_seq ?_
  refine WK_region ?_
  obtain ⟨y_1, hc2, hm⟩ := bind_some hm
  refine WO_call0 (.bool y_1) rfl rfl trivial rfl rfl rfl rfl St_closed ⟨11, #[], #[], rfl, callable_11, fun w hw => ⟨_, hw.sat, fiduciallaw48_known_walk hc2⟩⟩ ?_
  refine WO_pure tbok 1 [(1, .slice a_p1 p1.length c_p1), (2, .slice a_p2 p2.length c_p2), (3, .pointer (some ⟨b1, 0, none⟩)), (6, .bool false), (12, .bool (!y_1))] rfl ⟨rfl, rfl, rfl, rfl, rfl, trivial⟩ ?_
  refine WO_end ?_
  refine WK_cond (b := !y_1) rfl (fun hb3 => ?_) (fun hb3 => ?_)
  · have hm := ifT hb3 hm
    refine WK_seq ?_
    refine WK_region ?_
    refine WO_pure tbok 1 [(1, .slice a_p1 p1.length c_p1), (2, .slice a_p2 p2.length c_p2), (3, .pointer (some ⟨b1, 0, none⟩)), (6, .bool false)] rfl ⟨rfl, rfl, rfl, rfl, trivial⟩ ?_
    refine WO_end ?_
    cases hm
    exact WK_ret (ret_out (L := []) (RLc_tmp rfl RLc_nil) (List.nil_sublist _) rfl)
  · have hm := ifF hb3 hm
    refine WK_skip ?_
    refine WK_seq ?_
    refine WK_seq ?_
    obtain ⟨s_2, hx4, hm⟩ := bind_some hm
    refine WK_meet [(1, .slice a_p1 p1.length c_p1), (2, .slice a_p2 p2.length c_p2), (3, .pointer (some ⟨b1, 0, none⟩)), (6, .bool false), (25, .bool s_2)] (St w0 m m [[⟨b1, 25, [.int .i64 p0_0, .int .i64 p0_1, .int .i64 p0_2, .int .i64 p0_3, .int .i64 p0_4, .slice a_p0_5 p0_5.length c_p0_5]⟩]]) ?_ (fun hk5 => ?_)
    · refine WK_cond (b := s_2) rfl (fun hb6 => ?_) (fun hb6 => ?_)
      · have hm := ifT hb6 hm
        refine WK_seq ?_
        refine WK_region ?_
        refine WO_pure tbok 1 [(1, .slice a_p1 p1.length c_p1), (2, .slice a_p2 p2.length c_p2), (3, .pointer (some ⟨b1, 0, none⟩)), (6, .bool true)] rfl ⟨rfl, rfl, rfl, rfl, trivial⟩ ?_
        refine WO_end ?_
        cases hm
        exact WK_ret (ret_out (L := []) (RLc_tmp rfl RLc_nil) (List.nil_sublist _) rfl)
      · have hm := ifF hb6 hm
        refine WK_skip ?_
        refine WK_seq ?_
        refine WK_region ?_
        refine WO_loadB tbok 0 rfl rfl rfl rfl (fun _ h => h) rfl rfl ?_
        refine WO_pure tbok 2 [(1, .slice a_p1 p1.length c_p1), (2, .slice a_p2 p2.length c_p2), (3, .pointer (some ⟨b1, 0, none⟩)), (6, .bool false), (27, .agg #[.int .i64 p0_0, .int .i64 p0_1, .int .i64 p0_2, .int .i64 p0_3, .int .i64 p0_4, .slice a_p0_5 p0_5.length c_p0_5]), (28, .slice a_p1 p1.length c_p1), (29, .slice a_p2 p2.length c_p2)] rfl ⟨rfl, rfl, rfl, rfl, rfl, rfl, rfl, trivial⟩ ?_
        obtain ⟨⟨y_3, y_4⟩, hc7, hm⟩ := bind_some hm
        refine WO_call1 (terrain_Ground_Q (y_3, y_4)) rfl rfl trivial rfl rfl rfl rfl ⟨18, #[], #[], rfl, callable_18, fun w hw => ⟨_, hw.sat, terrain_Ground_walk h_p0_5 h_p1 h_p2 hc7⟩⟩ (fun v11 L10 hq => ?_)
        obtain ⟨a8, qa8, c9, rfl, hL10⟩ := hq
        obtain rfl := OwnE.qlen hL10
        refine WO.cls (C' := St w0 m m [[⟨b1, 25, [.int .i64 p0_0, .int .i64 p0_1, .int .i64 p0_2, .int .i64 p0_3, .int .i64 p0_4, .slice a_p0_5 p0_5.length c_p0_5]⟩], L10]) (fun _ h => h) ?_
        refine WO_pure tbok 5 [(1, .slice a_p1 p1.length c_p1), (2, .slice a_p2 p2.length c_p2), (3, .pointer (some ⟨b1, 0, none⟩)), (6, .bool false), (7, .slice a8 ((y_3).length) c9), (8, .int .i64 y_4)] rfl ⟨rfl, rfl, rfl, rfl, rfl, rfl, trivial⟩ ?_
        refine WO_end ?_
        refine WK_seq ?_
        refine WK_region ?_
        refine WO_loadB tbok 0 rfl rfl rfl rfl (fun _ h => h) rfl rfl ?_
        refine WO_pure tbok 2 [(6, .bool false), (7, .slice a8 ((y_3).length) c9), (8, .int .i64 y_4), (34, .agg #[.int .i64 p0_0, .int .i64 p0_1, .int .i64 p0_2, .int .i64 p0_3, .int .i64 p0_4, .slice a_p0_5 p0_5.length c_p0_5]), (35, .slice a_p1 p1.length c_p1), (36, .slice a_p2 p2.length c_p2)] rfl ⟨rfl, rfl, rfl, rfl, rfl, rfl, trivial⟩ ?_
        obtain ⟨⟨y_5, y_6⟩, hc12, hm⟩ := bind_some hm
        refine WO_call1 (fiduciallaw48_ground_Q (y_5, y_6)) rfl rfl trivial rfl rfl rfl rfl ⟨19, #[], #[], rfl, callable_19, fun w hw => ⟨_, hw.sat, fiduciallaw48_ground_walk h_p0_5 h_p1 h_p2 hc12⟩⟩ (fun v16 L15 hq => ?_)
        obtain ⟨a13, qa13, c14, rfl, hL15⟩ := hq
        obtain rfl := OwnE.qlen hL15
        refine WO.cls (C' := St w0 m m [[⟨b1, 25, [.int .i64 p0_0, .int .i64 p0_1, .int .i64 p0_2, .int .i64 p0_3, .int .i64 p0_4, .slice a_p0_5 p0_5.length c_p0_5]⟩], L10, L15]) (fun _ h => h) ?_
        refine WO_pure tbok 5 [(6, .bool false), (7, .slice a8 ((y_3).length) c9), (8, .int .i64 y_4), (9, .slice a13 ((y_5).length) c14), (10, .int .i64 y_6)] rfl ⟨rfl, rfl, rfl, rfl, rfl, trivial⟩ ?_
        refine WO_end ?_
        refine WK_seq ?_
        refine WK_region ?_
        refine WO_pure tbok 4 [(6, .bool false), (7, .slice a8 ((y_3).length) c9), (9, .slice a13 ((y_5).length) c14), (43, .bool (y_4 == y_6))] rfl ⟨rfl, rfl, rfl, rfl, trivial⟩ ?_
        refine WO_split (d := 43) (b := y_4 == y_6) rfl (fun hb17 => ?_) (fun hb17 => ?_)
        · have hm := ifT hb17 hm
          refine WO_pure tbok 2 [(6, .bool false), (43, .bool true), (44, .slice a8 ((y_3).length) c9), (45, .slice a13 ((y_5).length) c14)] rfl ⟨rfl, rfl, rfl, rfl, trivial⟩ ?_
          obtain ⟨y_7, hc18, hm⟩ := bind_some hm
          refine WO_call0 (.bool y_7) rfl rfl trivial rfl rfl rfl rfl St_closed ⟨20, #[], #[], rfl, callable_20, fun w hw => ⟨_, hw.satV, slices_Equal_sbool_walk (OwnE.rd (E := B1) (k := 1) (fun _ => rfl) hL10 (fun _ hx => hw.memV (i := 1) rfl hx)) (OwnE.rd (E := B1) (k := 1) (fun _ => rfl) hL15 (fun _ hx => hw.memV (i := 2) rfl hx)) hc18⟩⟩ ?_
          refine WO_pure tbok 2 [(6, .bool y_7)] rfl ⟨rfl, trivial⟩ ?_
          refine WO_end ?_
          cases hm
          exact WK_ret (ret_out (L := []) (RLc_tmp rfl RLc_nil) (List.nil_sublist _) rfl)
        · have hm := ifF hb17 hm
          refine WO_pure tbok 2 [(6, .bool false), (43, .bool false)] rfl ⟨rfl, rfl, trivial⟩ ?_
          refine WO_skip rfl rfl ?_
          refine WO_pure tbok 2 [(6, .bool false)] rfl ⟨rfl, trivial⟩ ?_
          refine WO_end ?_
          cases hm
          exact WK_ret (ret_out (L := []) (RLc_tmp rfl RLc_nil) (List.nil_sublist _) rfl)
    · refine WK_region ?_
      refine WO_loadB tbok 0 rfl rfl rfl rfl (fun _ h => h) rfl rfl ?_
      obtain ⟨y_8, hc19, hx4⟩ := bind_some hx4
      refine WO_call0 (.bool y_8) rfl rfl trivial rfl rfl rfl rfl St_closed ⟨12, #[], #[], rfl, callable_12, fun w hw => ⟨_, hw.sat, fiduciallaw48_few_walk h_p0_5 hc19⟩⟩ ?_
      refine WO_pure tbok 2 [(1, .slice a_p1 p1.length c_p1), (2, .slice a_p2 p2.length c_p2), (3, .pointer (some ⟨b1, 0, none⟩)), (6, .bool false), (16, .bool (!y_8))] rfl ⟨rfl, rfl, rfl, rfl, rfl, trivial⟩ ?_
      refine WO_split (d := 16) (b := !y_8) rfl (fun hb20 => ?_) (fun hb20 => ?_)
      · have hx4 := ifT hb20 hx4
        refine WO_pure tbok 9 [(1, .slice a_p1 p1.length c_p1), (2, .slice a_p2 p2.length c_p2), (3, .pointer (some ⟨b1, 0, none⟩)), (6, .bool false), (25, .bool true)] rfl ⟨rfl, rfl, rfl, rfl, rfl, trivial⟩ ?_
        refine WO_end ?_
        cases hx4
        refine WK.sub ?_ (WK.cls (fun _ h => h) hk5)
        exact ⟨rfl, rfl, rfl, rfl, rfl, trivial⟩
      · have hx4 := ifF hb20 hx4
        refine WO_pure tbok 5 [(1, .slice a_p1 p1.length c_p1), (2, .slice a_p2 p2.length c_p2), (3, .pointer (some ⟨b1, 0, none⟩)), (6, .bool false), (21, .bool (decide (10 < (p1.length : Int))))] rfl ⟨rfl, rfl, rfl, rfl, rfl, trivial⟩ ?_
        refine WO_split (d := 21) (b := decide (10 < (p1.length : Int))) rfl (fun hb21 => ?_) (fun hb21 => ?_)
        · have hx4 := ifT hb21 hx4
          refine WO_pure tbok 4 [(1, .slice a_p1 p1.length c_p1), (2, .slice a_p2 p2.length c_p2), (3, .pointer (some ⟨b1, 0, none⟩)), (6, .bool false), (25, .bool true)] rfl ⟨rfl, rfl, rfl, rfl, rfl, trivial⟩ ?_
          refine WO_end ?_
          cases hx4
          refine WK.sub ?_ (WK.cls (fun _ h => h) hk5)
          exact ⟨rfl, rfl, rfl, rfl, rfl, trivial⟩
        · have hx4 := ifF hb21 hx4
          refine WO_pure tbok 4 [(1, .slice a_p1 p1.length c_p1), (2, .slice a_p2 p2.length c_p2), (3, .pointer (some ⟨b1, 0, none⟩)), (6, .bool false), (25, .bool (decide (10 < (p2.length : Int))))] rfl ⟨rfl, rfl, rfl, rfl, rfl, trivial⟩ ?_
          refine WO_end ?_
          cases hx4
          refine WK.sub ?_ (WK.cls (fun _ h => h) hk5)
          exact ⟨rfl, rfl, rfl, rfl, rfl, trivial⟩
theorem fiduciallaw48_TerrainBlocks_c1_walk {m : Mu} {p0 : Int} {q0_0 : Int} {q1_0 : Int} {q2_0 : Int} {q3_0 : Int} {b_q0 : Nat} {b_q1 : Nat} {b_q2 : Nat} {b_q3 : Nat} (hb_q0 : m b_q0 = some (Ent.obj ⟨b_q0, 3, [.int .i64 q0_0]⟩)) (hb_q1 : m b_q1 = some (Ent.obj ⟨b_q1, 3, [.int .i64 q1_0]⟩)) (hb_q2 : m b_q2 = some (Ent.obj ⟨b_q2, 3, [.int .i64 q2_0]⟩)) (hb_q3 : m b_q3 = some (Ent.obj ⟨b_q3, 3, [.int .i64 q3_0]⟩)) {r : Bool} (hm : fiduciallaw48_TerrainBlocks_c1 p0 q0_0 q1_0 q2_0 q3_0 = some r) :
    Go.E.Spec Try.prog 21 [.int .i64 p0, .pointer (some ⟨b_q0, 0, none⟩), .pointer (some ⟨b_q1, 0, none⟩), .pointer (some ⟨b_q2, 0, none⟩), .pointer (some ⟨b_q3, 0, none⟩)] m (fun v _ _ => v = .bool r) := by
  refine Spec_enter Try.func21 rfl rfl rfl (fun w0 => ?_)
  refine WK.sub (e' := [(0, .int .i64 p0), (1, .pointer (some ⟨b_q0, 0, none⟩)), (2, .pointer (some ⟨b_q1, 0, none⟩)), (3, .pointer (some ⟨b_q2, 0, none⟩)), (4, .pointer (some ⟨b_q3, 0, none⟩))]) ⟨rfl, rfl, rfl, rfl, rfl, trivial⟩ ?_
  refine WK.sub (e' := [(0, .int .i64 p0), (1, .pointer (some ⟨b_q0, 0, none⟩)), (2, .pointer (some ⟨b_q1, 0, none⟩)), (3, .pointer (some ⟨b_q2, 0, none⟩)), (4, .pointer (some ⟨b_q3, 0, none⟩))]) ⟨rfl, rfl, rfl, rfl, rfl, trivial⟩ ?_
  unfold fiduciallaw48_TerrainBlocks_c1 at hm
  refine WK_seq ?_
  refine WK_region ?_
  refine WO_pure tbok 1 [(0, .int .i64 p0), (1, .pointer (some ⟨b_q0, 0, none⟩)), (2, .pointer (some ⟨b_q1, 0, none⟩)), (3, .pointer (some ⟨b_q2, 0, none⟩)), (4, .pointer (some ⟨b_q3, 0, none⟩)), (6, .bool false)] rfl ⟨rfl, rfl, rfl, rfl, rfl, rfl, trivial⟩ ?_
  refine WO_end ?_
  refine WK_seq ?_
  refine WK_region ?_
  refine WO_pure tbok 6 [(1, .pointer (some ⟨b_q0, 0, none⟩)), (2, .pointer (some ⟨b_q1, 0, none⟩)), (3, .pointer (some ⟨b_q2, 0, none⟩)), (4, .pointer (some ⟨b_q3, 0, none⟩)), (6, .bool false), (7, .int .i64 (Int.tmod p0 20)), (8, .int .i64 (w64 (Int.tdiv p0 20)))] rfl ⟨rfl, rfl, rfl, rfl, rfl, rfl, rfl, trivial⟩ ?_
  refine WO_end ?_
  refine WK_seq ?_
  refine WK_region ?_
  refine WO_pure tbok 1 [(1, .pointer (some ⟨b_q0, 0, none⟩)), (2, .pointer (some ⟨b_q1, 0, none⟩)), (3, .pointer (some ⟨b_q2, 0, none⟩)), (4, .pointer (some ⟨b_q3, 0, none⟩)), (6, .bool false), (7, .int .i64 (Int.tmod p0 20)), (8, .int .i64 (w64 (Int.tdiv p0 20))), (13, .int .i64 (Int.tmod p0 20))] rfl ⟨rfl, rfl, rfl, rfl, rfl, rfl, rfl, rfl, trivial⟩ ?_
  refine WO_loadM tbok rfl rfl rfl rfl (fun _ h => St.sat h) hb_q0 rfl ?_
  refine WO_pure tbok 2 [(1, .pointer (some ⟨b_q0, 0, none⟩)), (2, .pointer (some ⟨b_q1, 0, none⟩)), (3, .pointer (some ⟨b_q2, 0, none⟩)), (4, .pointer (some ⟨b_q3, 0, none⟩)), (6, .bool false), (7, .int .i64 (Int.tmod p0 20)), (8, .int .i64 (w64 (Int.tdiv p0 20))), (16, .bool (decide (q0_0 ≤ (Int.tmod p0 20))))] rfl ⟨rfl, rfl, rfl, rfl, rfl, rfl, rfl, rfl, trivial⟩ ?_
  refine WO_split (d := 16) (b := decide (q0_0 ≤ (Int.tmod p0 20))) rfl (fun hb1 => ?_) (fun hb1 => ?_)
  · have hm := ifT hb1 hm
    refine WO_pure tbok 1 [(1, .pointer (some ⟨b_q0, 0, none⟩)), (2, .pointer (some ⟨b_q1, 0, none⟩)), (3, .pointer (some ⟨b_q2, 0, none⟩)), (4, .pointer (some ⟨b_q3, 0, none⟩)), (6, .bool false), (8, .int .i64 (w64 (Int.tdiv p0 20))), (16, .bool true), (17, .int .i64 (Int.tmod p0 20))] rfl ⟨rfl, rfl, rfl, rfl, rfl, rfl, rfl, rfl, trivial⟩ ?_
    refine WO_loadM tbok rfl rfl rfl rfl (fun _ h => St.sat h) hb_q0 rfl ?_
    refine WO_loadM tbok rfl rfl rfl rfl (fun _ h => St.sat h) hb_q1 rfl ?_
    refine WO_pure tbok 4 [(3, .pointer (some ⟨b_q2, 0, none⟩)), (4, .pointer (some ⟨b_q3, 0, none⟩)), (6, .bool false), (8, .int .i64 (w64 (Int.tdiv p0 20))), (23, .bool (decide ((Int.tmod p0 20) < (w64 (q0_0 + q1_0)))))] rfl ⟨rfl, rfl, rfl, rfl, rfl, trivial⟩ ?_
    refine WO_split (d := 23) (b := decide ((Int.tmod p0 20) < (w64 (q0_0 + q1_0)))) rfl (fun hb2 => ?_) (fun hb2 => ?_)
    · have hm := ifT hb2 hm
      refine WO_pure tbok 1 [(3, .pointer (some ⟨b_q2, 0, none⟩)), (4, .pointer (some ⟨b_q3, 0, none⟩)), (6, .bool false), (8, .int .i64 (w64 (Int.tdiv p0 20))), (23, .bool true), (24, .int .i64 (w64 (Int.tdiv p0 20)))] rfl ⟨rfl, rfl, rfl, rfl, rfl, rfl, trivial⟩ ?_
      refine WO_loadM tbok rfl rfl rfl rfl (fun _ h => St.sat h) hb_q2 rfl ?_
      refine WO_pure tbok 3 [(3, .pointer (some ⟨b_q2, 0, none⟩)), (4, .pointer (some ⟨b_q3, 0, none⟩)), (6, .bool false), (8, .int .i64 (w64 (Int.tdiv p0 20))), (28, .bool (decide (q2_0 ≤ (w64 (Int.tdiv p0 20)))))] rfl ⟨rfl, rfl, rfl, rfl, rfl, trivial⟩ ?_
      refine WO_split (d := 28) (b := decide (q2_0 ≤ (w64 (Int.tdiv p0 20)))) rfl (fun hb3 => ?_) (fun hb3 => ?_)
      · have hm := ifT hb3 hm
        refine WO_pure tbok 1 [(3, .pointer (some ⟨b_q2, 0, none⟩)), (4, .pointer (some ⟨b_q3, 0, none⟩)), (6, .bool false), (28, .bool true), (29, .int .i64 (w64 (Int.tdiv p0 20)))] rfl ⟨rfl, rfl, rfl, rfl, rfl, trivial⟩ ?_
        refine WO_loadM tbok rfl rfl rfl rfl (fun _ h => St.sat h) hb_q2 rfl ?_
        refine WO_loadM tbok rfl rfl rfl rfl (fun _ h => St.sat h) hb_q3 rfl ?_
        refine WO_pure tbok 4 [(6, .bool (decide ((w64 (Int.tdiv p0 20)) < (w64 (q2_0 + q3_0)))))] rfl ⟨rfl, trivial⟩ ?_
        refine WO_end ?_
        cases hm
        exact WK_ret (ret_out (L := []) (RLc_tmp rfl RLc_nil) (List.nil_sublist _) rfl)
      · have hm := ifF hb3 hm
        refine WO_pure tbok 7 [(6, .bool false)] rfl ⟨rfl, trivial⟩ ?_
        refine WO_end ?_
        cases hm
        exact WK_ret (ret_out (L := []) (RLc_tmp rfl RLc_nil) (List.nil_sublist _) rfl)
    · have hm := ifF hb2 hm
      refine WO_pure tbok 12 [(6, .bool false)] rfl ⟨rfl, trivial⟩ ?_
      refine WO_end ?_
      cases hm
      exact WK_ret (ret_out (L := []) (RLc_tmp rfl RLc_nil) (List.nil_sublist _) rfl)
  · have hm := ifF hb1 hm
    refine WO_pure tbok 19 [(6, .bool false)] rfl ⟨rfl, trivial⟩ ?_
    refine WO_end ?_
    cases hm
    exact WK_ret (ret_out (L := []) (RLc_tmp rfl RLc_nil) (List.nil_sublist _) rfl)
end Go.Proofs.Ytcaeieofjchpjaa
