import Derived.Test.YtdgmeplpkehdnaaTab
import Derived.Test.YtdgmeplpkehdnaaM
import Derived.Test.YtdgmeplpkehdnaaW3
set_option linter.unusedVariables false
set_option maxRecDepth 100000
set_option maxHeartbeats 4000000
namespace Go.Proofs.Ytdgmeplpkehdnaa
open Go.E Go.RowKit
attribute [local irreducible] Go.E.WO Go.E.WK
def descriptor_All_Q (r : List (Int × Int) × List Int × Int) : Value → Mu → List Ent → Prop := fun v m _ => ∃ (a0 : Option Addr) (q0 c0 : Nat) (a1 : Option Addr) (q1 c1 : Nat), v = .tuple #[.slice a0 q0 c0, .slice a1 q1 c1, .int .i64 r.2.2] ∧ SlR (FE T2) 2 m (.slice a0 q0 c0) r.1 ∧ SlR (FE (I1 .u64)) 1 m (.slice a1 q1 c1) r.2.1
theorem descriptor_All_walk {m : Mu} {p0_0 : Int} {p0_1 : Int} {p0_2 : Int} {p0_3 : List Int} {p1 : List (Int × Int × Int × Int × Int × Int × Int × Int)} {a_p0_3 : Option Addr} {q_p0_3 c_p0_3 : Nat} {a_p1 : Option Addr} {q_p1 c_p1 : Nat} (h_p0_3 : SlR (FE (I1 .i64)) 1 m (.slice a_p0_3 q_p0_3 c_p0_3) p0_3) (h_p1 : SlR (FE T8) 8 m (.slice a_p1 q_p1 c_p1) p1) {r : List (Int × Int) × List Int × Int} (hm : descriptor_All p0_0 p0_1 p0_2 p0_3 p1 = some r) :
    Go.E.Spec Try.prog 27 [.agg #[.int .i64 p0_0, .int .i64 p0_1, .int .i64 p0_2, .slice a_p0_3 q_p0_3 c_p0_3], .slice a_p1 q_p1 c_p1] m (descriptor_All_Q r) := by
  refine Spec_enter Try.func27 rfl rfl rfl (fun w0 => ?_)
  refine WK.sub (e' := [(0, .agg #[.int .i64 p0_0, .int .i64 p0_1, .int .i64 p0_2, .slice a_p0_3 q_p0_3 c_p0_3]), (1, .slice a_p1 q_p1 c_p1)]) ⟨rfl, rfl, trivial⟩ ?_
  obtain rfl := SlR.qlen h_p0_3
  obtain rfl := SlR.qlen h_p1
  refine WK.sub (e' := [(0, .agg #[.int .i64 p0_0, .int .i64 p0_1, .int .i64 p0_2, .slice a_p0_3 p0_3.length c_p0_3]), (1, .slice a_p1 p1.length c_p1)]) ⟨rfl, rfl, trivial⟩ ?_
  unfold descriptor_All at hm
  refine WK_seq ?_
  refine WK_region ?_
  refine WO_box [.int .i64 p0_0, .int .i64 p0_1, .int .i64 p0_2, .slice a_p0_3 p0_3.length c_p0_3] rfl rfl trivial rfl rfl rfl (fun b3 => ?_)
  refine WO.cls (C' := St w0 m m [[⟨b3, 29, [.int .i64 p0_0, .int .i64 p0_1, .int .i64 p0_2, .slice a_p0_3 p0_3.length c_p0_3]⟩]]) (fun _ h => h) ?_
  refine WO_pure tbok 3 [(1, .slice a_p1 p1.length c_p1), (2, .pointer (some ⟨b3, 0, none⟩)), (4, .slice none 0 0), (5, .slice none 0 0), (6, .int .i64 0)] rfl ⟨rfl, rfl, rfl, rfl, rfl, trivial⟩ ?_
  refine WO_end ?_
  refine WK_seq ?_
  refine WK_region ?_
  refine WO_loadB tbok 0 rfl rfl rfl rfl (fun _ h => h) rfl rfl ?_
  refine WO_pure tbok 1 [(1, .slice a_p1 p1.length c_p1), (2, .pointer (some ⟨b3, 0, none⟩)), (4, .slice none 0 0), (5, .slice none 0 0), (6, .int .i64 0), (16, .agg #[.int .i64 p0_0, .int .i64 p0_1, .int .i64 p0_2, .slice a_p0_3 p0_3.length c_p0_3]), (17, .slice a_p1 p1.length c_p1)] rfl ⟨rfl, rfl, rfl, rfl, rfl, rfl, rfl, trivial⟩ ?_
  obtain ⟨⟨y_1, y_2, y_3, y_4, y_5, y_6⟩, hc4, hm⟩ := bind_some hm
  refine WO_call2 (descriptor_opened_Q (y_1, y_2, y_3, y_4, y_5, y_6)) rfl rfl trivial rfl rfl rfl rfl ⟨36, #[], #[], rfl, callable_36, descriptor_opened_walk h_p0_3 h_p1 hc4⟩ (fun v12 m13 L11 hle14 hq => ?_)
  obtain ⟨a5, qa5, c6, a8, qa8, c9, rfl, h15, h16⟩ := hq
  obtain rfl := SlR.qlen h15
  obtain rfl := SlR.qlen h16
  refine WO.cls (C' := St w0 m m13 [[⟨b3, 29, [.int .i64 p0_0, .int .i64 p0_1, .int .i64 p0_2, .slice a_p0_3 p0_3.length c_p0_3]⟩], L11]) (fun _ h => h.sub (by simp)) ?_
  refine WO_pure tbok 3 [(1, .slice a_p1 p1.length c_p1), (2, .pointer (some ⟨b3, 0, none⟩)), (4, .slice none 0 0), (5, .slice none 0 0), (6, .int .i64 0), (19, .agg #[.int .i64 y_1, .int .i64 y_2, .int .i64 y_3, .slice a5 ((y_4).length) c6, .slice a8 ((y_5).length) c9]), (20, .int .i64 y_6)] rfl ⟨rfl, rfl, rfl, rfl, rfl, rfl, rfl, trivial⟩ ?_
  refine WO_alloc tbok [.int .i64 0, .int .i64 0, .int .i64 0, .slice none 0 0, .slice none 0 0] rfl rfl trivial rfl rfl rfl rfl (fun b17 => ?_)
  refine WO.cls (C' := St w0 m m13 [[⟨b3, 29, [.int .i64 p0_0, .int .i64 p0_1, .int .i64 p0_2, .slice a_p0_3 p0_3.length c_p0_3]⟩], L11, [⟨b17, 74, [.int .i64 0, .int .i64 0, .int .i64 0, .slice none 0 0, .slice none 0 0]⟩]]) (fun _ h => h) ?_
  refine WO_storeB tbok 2 [.int .i64 y_1, .int .i64 y_2, .int .i64 y_3, .slice a5 ((y_4).length) c6, .slice a8 ((y_5).length) c9] rfl rfl rfl rfl rfl rfl rfl ?_
  refine WO.cls (C' := St w0 m m13 [[⟨b3, 29, [.int .i64 p0_0, .int .i64 p0_1, .int .i64 p0_2, .slice a_p0_3 p0_3.length c_p0_3]⟩], L11, [⟨b17, 74, [.int .i64 y_1, .int .i64 y_2, .int .i64 y_3, .slice a5 ((y_4).length) c6, .slice a8 ((y_5).length) c9]⟩]]) (fun _ h => h) ?_
  refine WO_pure tbok 1 [(1, .slice a_p1 p1.length c_p1), (2, .pointer (some ⟨b3, 0, none⟩)), (4, .slice none 0 0), (5, .slice none 0 0), (6, .int .i64 0), (7, .pointer (some ⟨b17, 0, none⟩)), (8, .int .i64 y_6)] rfl ⟨rfl, rfl, rfl, rfl, rfl, rfl, rfl, trivial⟩ ?_
  refine WO_end ?_
  refine WK_seq ?_
  refine WK_seq ?_
  refine WK_region ?_
  refine WO_pure tbok 2 [(1, .slice a_p1 p1.length c_p1), (2, .pointer (some ⟨b3, 0, none⟩)), (4, .slice none 0 0), (5, .slice none 0 0), (6, .int .i64 0), (7, .pointer (some ⟨b17, 0, none⟩)), (8, .int .i64 y_6), (22, .bool (y_6 != 0))] rfl ⟨rfl, rfl, rfl, rfl, rfl, rfl, rfl, rfl, trivial⟩ ?_
  refine WO_end ?_
  refine WK_cond (b := y_6 != 0) rfl (fun hb18 => ?_) (fun hb18 => ?_)
  · have hm := ifT hb18 hm
    refine WK_seq ?_
    refine WK_region ?_
    refine WO_pure tbok 4 [(1, .slice a_p1 p1.length c_p1), (2, .pointer (some ⟨b3, 0, none⟩)), (4, .slice none 0 0), (5, .slice none 0 0), (6, .int .i64 y_6), (7, .pointer (some ⟨b17, 0, none⟩))] rfl ⟨rfl, rfl, rfl, rfl, rfl, rfl, trivial⟩ ?_
    refine WO_end ?_
    cases hm
    exact WK_ret (ret_out (L := []) (RLc_tmp rfl (RLc_tmp rfl (RLc_tmp rfl RLc_nil))) (List.nil_sublist _) ⟨none, 0, 0, none, 0, 0, rfl, SlR_nil, SlR_nil⟩)
  · have hm := ifF hb18 hm
    refine WK_skip ?_
    refine WK_seq ?_
    refine WK_region ?_
    refine WO_pure tbok 1 [(1, .slice a_p1 p1.length c_p1), (2, .pointer (some ⟨b3, 0, none⟩)), (4, .slice none 0 0), (5, .slice none 0 0), (6, .int .i64 0), (7, .pointer (some ⟨b17, 0, none⟩)), (9, .slice none 0 0)] rfl ⟨rfl, rfl, rfl, rfl, rfl, rfl, rfl, trivial⟩ ?_
    refine WO_end ?_
    refine WK_seq ?_
    refine WK_region ?_
    refine WO_pure tbok 1 [(1, .slice a_p1 p1.length c_p1), (2, .pointer (some ⟨b3, 0, none⟩)), (4, .slice none 0 0), (5, .slice none 0 0), (6, .int .i64 0), (7, .pointer (some ⟨b17, 0, none⟩)), (9, .slice none 0 0), (10, .slice none 0 0)] rfl ⟨rfl, rfl, rfl, rfl, rfl, rfl, rfl, rfl, trivial⟩ ?_
    refine WO_end ?_
    refine WK_seq ?_
    refine WK_seq ?_
    refine WK_region ?_
    refine WO_pure tbok 1 [(1, .slice a_p1 p1.length c_p1), (2, .pointer (some ⟨b3, 0, none⟩)), (4, .slice none 0 0), (5, .slice none 0 0), (6, .int .i64 0), (7, .pointer (some ⟨b17, 0, none⟩)), (9, .slice none 0 0), (10, .slice none 0 0), (24, .pointer (some ⟨b3, 1, none⟩))] rfl ⟨rfl, rfl, rfl, rfl, rfl, rfl, rfl, rfl, rfl, trivial⟩ ?_
    refine WO_loadB tbok 0 rfl rfl rfl rfl (fun _ h => h) rfl rfl ?_
    refine WO_pure tbok 1 [(1, .slice a_p1 p1.length c_p1), (2, .pointer (some ⟨b3, 0, none⟩)), (4, .slice none 0 0), (5, .slice none 0 0), (6, .int .i64 0), (7, .pointer (some ⟨b17, 0, none⟩)), (9, .slice none 0 0), (10, .slice none 0 0), (25, .int .i64 p0_1), (26, .int .i64 0)] rfl ⟨rfl, rfl, rfl, rfl, rfl, rfl, rfl, rfl, rfl, rfl, trivial⟩ ?_
    refine WO_end ?_
    refine WK_pad ?_
    refine WK_pad ?_
    obtain ⟨x41, hx42, hm⟩ := bind_some hm
    refine WK_join (β := (List (Int × Int) × List Int) × (Option Addr × Nat × Nat × List Ent × Option Addr × Nat × Nat × List Ent)) (fun p => p.1 = x41 ∧ OwnE 58 2 T2 (.slice p.2.1 p.2.2.1 p.2.2.2.1) p.1.1 p.2.2.2.2.1 ∧ OwnE 22 1 (I1 .u64) (.slice p.2.2.2.2.2.1 p.2.2.2.2.2.2.1 p.2.2.2.2.2.2.2.1) p.1.2 p.2.2.2.2.2.2.2.2) (fun p => [(4, .slice none 0 0), (5, .slice none 0 0), (6, .int .i64 0), (9, .slice p.2.1 p.2.2.1 p.2.2.2.1), (10, .slice p.2.2.2.2.2.1 p.2.2.2.2.2.2.1 p.2.2.2.2.2.2.2.1)]) (fun p => St w0 m m13 [[⟨b3, 29, [.int .i64 p0_0, .int .i64 p0_1, .int .i64 p0_2, .slice a_p0_3 p0_3.length c_p0_3]⟩], L11, [⟨b17, 74, [.int .i64 y_1, .int .i64 y_2, .int .i64 y_3, .slice a5 ((y_4).length) c6, .slice a8 ((y_5).length) c9]⟩], p.2.2.2.2.1, p.2.2.2.2.2.2.2.2]) ?_ (fun hk43 => ?_)
    · rintro ⟨⟨l_10, l_11⟩, ⟨a33, q34, c35, L32, a38, q39, c40, L37⟩⟩ ⟨hq49, hL32, hL37⟩
      subst hq49
      have hqq : q34 = l_10.length := OwnE.qlen hL32
      subst hqq
      have hqq : q39 = l_11.length := OwnE.qlen hL37
      subst hqq
      refine WK.sub (e' := [(4, .slice none 0 0), (5, .slice none 0 0), (6, .int .i64 0), (9, .slice a33 ((l_10).length) c35), (10, .slice a38 ((l_11).length) c40)]) ⟨rfl, rfl, rfl, rfl, rfl, trivial⟩ (WK.cls (C' := St w0 m m13 [[⟨b3, 29, [.int .i64 p0_0, .int .i64 p0_1, .int .i64 p0_2, .slice a_p0_3 p0_3.length c_p0_3]⟩], L11, [⟨b17, 74, [.int .i64 y_1, .int .i64 y_2, .int .i64 y_3, .slice a5 ((y_4).length) c6, .slice a8 ((y_5).length) c9]⟩], L32, L37]) (fun _ h => h) ?_)
      refine WK_seq ?_
      refine WK_region ?_
      refine WO_pure tbok 5 [(4, .slice a33 ((l_10).length) c35), (5, .slice a38 ((l_11).length) c40), (6, .int .i64 0)] rfl ⟨rfl, rfl, rfl, trivial⟩ ?_
      refine WO_end ?_
      cases hm
      refine WK_freeze 3 rfl (fun m50 hle51 hmm52 => ?_)
      refine WK.cls (C' := St w0 m m50 [[⟨b3, 29, [.int .i64 p0_0, .int .i64 p0_1, .int .i64 p0_2, .slice a_p0_3 p0_3.length c_p0_3]⟩], L11, [⟨b17, 74, [.int .i64 y_1, .int .i64 y_2, .int .i64 y_3, .slice a5 ((y_4).length) c6, .slice a8 ((y_5).length) c9]⟩], [], L37]) (fun _ h => h) ?_
      refine WK_freeze 4 rfl (fun m53 hle54 hmm55 => ?_)
      refine WK.cls (C' := St w0 m m53 [[⟨b3, 29, [.int .i64 p0_0, .int .i64 p0_1, .int .i64 p0_2, .slice a_p0_3 p0_3.length c_p0_3]⟩], L11, [⟨b17, 74, [.int .i64 y_1, .int .i64 y_2, .int .i64 y_3, .slice a5 ((y_4).length) c6, .slice a8 ((y_5).length) c9]⟩], [], []]) (fun _ h => h) ?_
      exact WK_ret (ret_out (L := []) (RLc_tmp rfl (RLc_tmp rfl (RLc_tmp rfl RLc_nil))) (List.nil_sublist _) ⟨a33, ((l_10).length), c35, a38, ((l_11).length), c40, rfl, ((OwnE.rd (E := T2) (k := 2) (fun _ => rfl) hL32 hmm52).mono (mono_FE _) hle54), (OwnE.rd (E := (I1 .u64)) (k := 1) (fun _ => rfl) hL37 hmm55)⟩)
    · refine WK_block ?_
      refine WK_loop (S := List (Int × Int) × List Int × Int) (G := Option Addr × Nat × Nat × List Ent × Option Addr × Nat × Nat × List Ent) (fun s => descriptor_All_s1 p0_0 p0_1 p1 y_1 y_2 y_3 y_4 y_5 s.1 s.2.1 s.2.2) (fun s g => [(1, .slice a_p1 p1.length c_p1), (2, .pointer (some ⟨b3, 0, none⟩)), (4, .slice none 0 0), (5, .slice none 0 0), (6, .int .i64 0), (7, .pointer (some ⟨b17, 0, none⟩)), (9, .slice g.1 g.2.1 g.2.2.1), (10, .slice g.2.2.2.2.1 g.2.2.2.2.2.1 g.2.2.2.2.2.2.1), (25, .int .i64 p0_1), (26, .int .i64 s.2.2)]) (fun s g => St w0 m m13 [[⟨b3, 29, [.int .i64 p0_0, .int .i64 p0_1, .int .i64 p0_2, .slice a_p0_3 p0_3.length c_p0_3]⟩], L11, [⟨b17, 74, [.int .i64 y_1, .int .i64 y_2, .int .i64 y_3, .slice a5 ((y_4).length) c6, .slice a8 ((y_5).length) c9]⟩], g.2.2.2.1, g.2.2.2.2.2.2.2]) (fun s g => OwnE 58 2 T2 (.slice g.1 g.2.1 g.2.2.1) s.1 g.2.2.2.1 ∧ OwnE 22 1 (I1 .u64) (.slice g.2.2.2.2.1 g.2.2.2.2.2.1 g.2.2.2.2.2.2.1) s.2.1 g.2.2.2.2.2.2.2) FUEL (([] : List (Int × Int)), ([] : List Int), 0) (none, 0, 0, [], none, 0, 0, []) x41 hx42 ⟨(OwnE.nil (T := 58) (k := 2) (E := T2) none), (OwnE.nil (T := 22) (k := 1) (E := (I1 .u64)) none)⟩ ⟨rfl, rfl, rfl, rfl, rfl, rfl, rfl, rfl, rfl, rfl, trivial⟩ (fun _ h => h) ?_
      rintro ⟨l_7, l_8, s_9⟩ ⟨a23, q24, c25, L22, a28, q29, c30, L27⟩ o45 fl46 hm44 ⟨hL22, hL27⟩ hn47 hd48
      have hm44 : descriptor_All_s1 p0_0 p0_1 p1 y_1 y_2 y_3 y_4 y_5 l_7 l_8 s_9 = some o45 := hm44
      unfold descriptor_All_s1 at hm44
      have hqq : q24 = l_7.length := OwnE.qlen hL22
      subst hqq
      have hqq : q29 = l_8.length := OwnE.qlen hL27
      subst hqq
      refine WK.sub (e' := [(1, .slice a_p1 p1.length c_p1), (2, .pointer (some ⟨b3, 0, none⟩)), (4, .slice none 0 0), (5, .slice none 0 0), (6, .int .i64 0), (7, .pointer (some ⟨b17, 0, none⟩)), (9, .slice a23 ((l_7).length) c25), (10, .slice a28 ((l_8).length) c30), (25, .int .i64 p0_1), (26, .int .i64 s_9)]) ⟨rfl, rfl, rfl, rfl, rfl, rfl, rfl, rfl, rfl, rfl, trivial⟩ (WK.cls (C' := St w0 m m13 [[⟨b3, 29, [.int .i64 p0_0, .int .i64 p0_1, .int .i64 p0_2, .slice a_p0_3 p0_3.length c_p0_3]⟩], L11, [⟨b17, 74, [.int .i64 y_1, .int .i64 y_2, .int .i64 y_3, .slice a5 ((y_4).length) c6, .slice a8 ((y_5).length) c9]⟩], L22, L27]) (fun _ h => h) ?_)
      refine WK_seq ?_
      refine WK_region ?_
      refine WO_pure tbok 1 [(1, .slice a_p1 p1.length c_p1), (2, .pointer (some ⟨b3, 0, none⟩)), (4, .slice none 0 0), (5, .slice none 0 0), (6, .int .i64 0), (7, .pointer (some ⟨b17, 0, none⟩)), (9, .slice a23 ((l_7).length) c25), (10, .slice a28 ((l_8).length) c30), (25, .int .i64 p0_1), (26, .int .i64 s_9), (27, .bool (decide (s_9 < p0_1)))] rfl ⟨rfl, rfl, rfl, rfl, rfl, rfl, rfl, rfl, rfl, rfl, rfl, trivial⟩ ?_
      refine WO_end ?_
      refine WK_seq ?_
      refine WK_cond (b := decide (s_9 < p0_1)) rfl (fun hb56 => ?_) (fun hb56 => ?_)
      · have hm44 := ifT hb56 hm44
        refine WK_skip ?_
        refine WK_seq ?_
        refine WK_block ?_
        refine WK_seq ?_
        refine WK_region ?_
        refine WO_pure tbok 2 [(1, .slice a_p1 p1.length c_p1), (2, .pointer (some ⟨b3, 0, none⟩)), (4, .slice none 0 0), (5, .slice none 0 0), (6, .int .i64 0), (7, .pointer (some ⟨b17, 0, none⟩)), (9, .slice a23 ((l_7).length) c25), (10, .slice a28 ((l_8).length) c30), (11, .int .i64 s_9), (25, .int .i64 p0_1), (26, .int .i64 s_9)] rfl ⟨rfl, rfl, rfl, rfl, rfl, rfl, rfl, rfl, rfl, rfl, rfl, trivial⟩ ?_
        refine WO_end ?_
        refine WK_seq ?_
        refine WK_region ?_
        refine WO_pure tbok 1 [(1, .slice a_p1 p1.length c_p1), (2, .pointer (some ⟨b3, 0, none⟩)), (4, .slice none 0 0), (5, .slice none 0 0), (6, .int .i64 0), (7, .pointer (some ⟨b17, 0, none⟩)), (9, .slice a23 ((l_7).length) c25), (10, .slice a28 ((l_8).length) c30), (11, .int .i64 s_9), (25, .int .i64 p0_1), (26, .int .i64 s_9), (29, .pointer (some ⟨b3, 0, none⟩))] rfl ⟨rfl, rfl, rfl, rfl, rfl, rfl, rfl, rfl, rfl, rfl, rfl, rfl, trivial⟩ ?_
        refine WO_loadB tbok 0 rfl rfl rfl rfl (fun _ h => h) rfl rfl ?_
        refine WO_pure tbok 1 [(1, .slice a_p1 p1.length c_p1), (2, .pointer (some ⟨b3, 0, none⟩)), (4, .slice none 0 0), (5, .slice none 0 0), (6, .int .i64 0), (7, .pointer (some ⟨b17, 0, none⟩)), (9, .slice a23 ((l_7).length) c25), (10, .slice a28 ((l_8).length) c30), (11, .int .i64 s_9), (25, .int .i64 p0_1), (26, .int .i64 s_9), (30, .int .i64 p0_0), (31, .int .i64 0)] rfl ⟨rfl, rfl, rfl, rfl, rfl, rfl, rfl, rfl, rfl, rfl, rfl, rfl, rfl, trivial⟩ ?_
        refine WO_end ?_
        obtain ⟨x77, hx78, hm44⟩ := bind_some hm44
        refine WK_join (β := (List (Int × Int) × List Int) × (Option Addr × Nat × Nat × List Ent × Option Addr × Nat × Nat × List Ent)) (fun p => p.1 = x77 ∧ OwnE 58 2 T2 (.slice p.2.1 p.2.2.1 p.2.2.2.1) p.1.1 p.2.2.2.2.1 ∧ OwnE 22 1 (I1 .u64) (.slice p.2.2.2.2.2.1 p.2.2.2.2.2.2.1 p.2.2.2.2.2.2.2.1) p.1.2 p.2.2.2.2.2.2.2.2) (fun p => [(1, .slice a_p1 p1.length c_p1), (2, .pointer (some ⟨b3, 0, none⟩)), (4, .slice none 0 0), (5, .slice none 0 0), (6, .int .i64 0), (7, .pointer (some ⟨b17, 0, none⟩)), (9, .slice p.2.1 p.2.2.1 p.2.2.2.1), (10, .slice p.2.2.2.2.2.1 p.2.2.2.2.2.2.1 p.2.2.2.2.2.2.2.1), (25, .int .i64 p0_1), (26, .int .i64 s_9)]) (fun p => St w0 m m13 [[⟨b3, 29, [.int .i64 p0_0, .int .i64 p0_1, .int .i64 p0_2, .slice a_p0_3 p0_3.length c_p0_3]⟩], L11, [⟨b17, 74, [.int .i64 y_1, .int .i64 y_2, .int .i64 y_3, .slice a5 ((y_4).length) c6, .slice a8 ((y_5).length) c9]⟩], p.2.2.2.2.1, p.2.2.2.2.2.2.2.2]) ?_ (fun hk79 => ?_)
        · rintro ⟨⟨l_15, l_16⟩, ⟨a69, q70, c71, L68, a74, q75, c76, L73⟩⟩ ⟨hq85, hL68, hL73⟩
          subst hq85
          have hqq : q70 = l_15.length := OwnE.qlen hL68
          subst hqq
          have hqq : q75 = l_16.length := OwnE.qlen hL73
          subst hqq
          refine WK.sub (e' := [(1, .slice a_p1 p1.length c_p1), (2, .pointer (some ⟨b3, 0, none⟩)), (4, .slice none 0 0), (5, .slice none 0 0), (6, .int .i64 0), (7, .pointer (some ⟨b17, 0, none⟩)), (9, .slice a69 ((l_15).length) c71), (10, .slice a74 ((l_16).length) c76), (25, .int .i64 p0_1), (26, .int .i64 s_9)]) ⟨rfl, rfl, rfl, rfl, rfl, rfl, rfl, rfl, rfl, rfl, trivial⟩ (WK.cls (C' := St w0 m m13 [[⟨b3, 29, [.int .i64 p0_0, .int .i64 p0_1, .int .i64 p0_2, .slice a_p0_3 p0_3.length c_p0_3]⟩], L11, [⟨b17, 74, [.int .i64 y_1, .int .i64 y_2, .int .i64 y_3, .slice a5 ((y_4).length) c6, .slice a8 ((y_5).length) c9]⟩], L68, L73]) (fun _ h => h) ?_)
          refine WK_blk ?_
          refine WK_region ?_
          refine WO_pure tbok 2 [(1, .slice a_p1 p1.length c_p1), (2, .pointer (some ⟨b3, 0, none⟩)), (4, .slice none 0 0), (5, .slice none 0 0), (6, .int .i64 0), (7, .pointer (some ⟨b17, 0, none⟩)), (9, .slice a69 ((l_15).length) c71), (10, .slice a74 ((l_16).length) c76), (25, .int .i64 p0_1), (26, .int .i64 (w64 (s_9 + 1)))] rfl ⟨rfl, rfl, rfl, rfl, rfl, rfl, rfl, rfl, rfl, rfl, trivial⟩ ?_
          refine WO_end ?_
          cases hm44
          refine WK.sub ?_ (WK.cls (fun _ h => h) (hn47 _ (a69, (l_15).length, c71, L68, a74, (l_16).length, c76, L73) rfl ⟨hL68, hL73⟩))
          exact ⟨rfl, rfl, rfl, rfl, rfl, rfl, rfl, rfl, rfl, rfl, trivial⟩
        · refine WK_block ?_
          refine WK_loop (S := List (Int × Int) × List Int × Int) (G := Option Addr × Nat × Nat × List Ent × Option Addr × Nat × Nat × List Ent) (fun s => descriptor_All_s2 p0_0 p1 y_1 y_2 y_3 y_4 y_5 s_9 s.1 s.2.1 s.2.2) (fun s g => [(1, .slice a_p1 p1.length c_p1), (2, .pointer (some ⟨b3, 0, none⟩)), (4, .slice none 0 0), (5, .slice none 0 0), (6, .int .i64 0), (7, .pointer (some ⟨b17, 0, none⟩)), (9, .slice g.1 g.2.1 g.2.2.1), (10, .slice g.2.2.2.2.1 g.2.2.2.2.2.1 g.2.2.2.2.2.2.1), (11, .int .i64 s_9), (25, .int .i64 p0_1), (26, .int .i64 s_9), (30, .int .i64 p0_0), (31, .int .i64 s.2.2)]) (fun s g => St w0 m m13 [[⟨b3, 29, [.int .i64 p0_0, .int .i64 p0_1, .int .i64 p0_2, .slice a_p0_3 p0_3.length c_p0_3]⟩], L11, [⟨b17, 74, [.int .i64 y_1, .int .i64 y_2, .int .i64 y_3, .slice a5 ((y_4).length) c6, .slice a8 ((y_5).length) c9]⟩], g.2.2.2.1, g.2.2.2.2.2.2.2]) (fun s g => OwnE 58 2 T2 (.slice g.1 g.2.1 g.2.2.1) s.1 g.2.2.2.1 ∧ OwnE 22 1 (I1 .u64) (.slice g.2.2.2.2.1 g.2.2.2.2.2.1 g.2.2.2.2.2.2.1) s.2.1 g.2.2.2.2.2.2.2) FUEL (l_7, l_8, 0) (a23, (l_7).length, c25, L22, a28, (l_8).length, c30, L27) x77 hx78 ⟨hL22, hL27⟩ ⟨rfl, rfl, rfl, rfl, rfl, rfl, rfl, rfl, rfl, rfl, rfl, rfl, rfl, trivial⟩ (fun _ h => h) ?_
          rintro ⟨l_12, l_13, s_14⟩ ⟨a59, q60, c61, L58, a64, q65, c66, L63⟩ o81 fl82 hm80 ⟨hL58, hL63⟩ hn83 hd84
          have hm80 : descriptor_All_s2 p0_0 p1 y_1 y_2 y_3 y_4 y_5 s_9 l_12 l_13 s_14 = some o81 := hm80
          unfold descriptor_All_s2 at hm80
          have hqq : q60 = l_12.length := OwnE.qlen hL58
          subst hqq
          have hqq : q65 = l_13.length := OwnE.qlen hL63
          subst hqq
          refine WK.sub (e' := [(1, .slice a_p1 p1.length c_p1), (2, .pointer (some ⟨b3, 0, none⟩)), (4, .slice none 0 0), (5, .slice none 0 0), (6, .int .i64 0), (7, .pointer (some ⟨b17, 0, none⟩)), (9, .slice a59 ((l_12).length) c61), (10, .slice a64 ((l_13).length) c66), (11, .int .i64 s_9), (25, .int .i64 p0_1), (26, .int .i64 s_9), (30, .int .i64 p0_0), (31, .int .i64 s_14)]) ⟨rfl, rfl, rfl, rfl, rfl, rfl, rfl, rfl, rfl, rfl, rfl, rfl, rfl, trivial⟩ (WK.cls (C' := St w0 m m13 [[⟨b3, 29, [.int .i64 p0_0, .int .i64 p0_1, .int .i64 p0_2, .slice a_p0_3 p0_3.length c_p0_3]⟩], L11, [⟨b17, 74, [.int .i64 y_1, .int .i64 y_2, .int .i64 y_3, .slice a5 ((y_4).length) c6, .slice a8 ((y_5).length) c9]⟩], L58, L63]) (fun _ h => h) ?_)
          refine WK_seq ?_
          refine WK_region ?_
          refine WO_pure tbok 1 [(1, .slice a_p1 p1.length c_p1), (2, .pointer (some ⟨b3, 0, none⟩)), (4, .slice none 0 0), (5, .slice none 0 0), (6, .int .i64 0), (7, .pointer (some ⟨b17, 0, none⟩)), (9, .slice a59 ((l_12).length) c61), (10, .slice a64 ((l_13).length) c66), (11, .int .i64 s_9), (25, .int .i64 p0_1), (26, .int .i64 s_9), (30, .int .i64 p0_0), (31, .int .i64 s_14), (32, .bool (decide (s_14 < p0_0)))] rfl ⟨rfl, rfl, rfl, rfl, rfl, rfl, rfl, rfl, rfl, rfl, rfl, rfl, rfl, rfl, trivial⟩ ?_
          refine WO_end ?_
          refine WK_seq ?_
          refine WK_cond (b := decide (s_14 < p0_0)) rfl (fun hb86 => ?_) (fun hb86 => ?_)
          · have hm80 := ifT hb86 hm80
            refine WK_skip ?_
            refine WK_seq ?_
            refine WK_block ?_
            refine WK_seq ?_
            refine WK_region ?_
            refine WO_pure tbok 2 [(1, .slice a_p1 p1.length c_p1), (2, .pointer (some ⟨b3, 0, none⟩)), (4, .slice none 0 0), (5, .slice none 0 0), (6, .int .i64 0), (7, .pointer (some ⟨b17, 0, none⟩)), (9, .slice a59 ((l_12).length) c61), (10, .slice a64 ((l_13).length) c66), (11, .int .i64 s_9), (12, .int .i64 s_14), (25, .int .i64 p0_1), (26, .int .i64 s_9), (30, .int .i64 p0_0), (31, .int .i64 s_14)] rfl ⟨rfl, rfl, rfl, rfl, rfl, rfl, rfl, rfl, rfl, rfl, rfl, rfl, rfl, rfl, trivial⟩ ?_
            refine WO_end ?_
            refine WK_seq ?_
            refine WK_region ?_
            refine WO_loadB tbok 2 rfl rfl rfl rfl (fun _ h => h) rfl rfl ?_
            refine WO_pure tbok 3 [(1, .slice a_p1 p1.length c_p1), (2, .pointer (some ⟨b3, 0, none⟩)), (4, .slice none 0 0), (5, .slice none 0 0), (6, .int .i64 0), (7, .pointer (some ⟨b17, 0, none⟩)), (9, .slice a59 ((l_12).length) c61), (10, .slice a64 ((l_13).length) c66), (11, .int .i64 s_9), (12, .int .i64 s_14), (25, .int .i64 p0_1), (26, .int .i64 s_9), (30, .int .i64 p0_0), (31, .int .i64 s_14), (35, .agg #[.int .i64 y_1, .int .i64 y_2, .int .i64 y_3, .slice a5 ((y_4).length) c6, .slice a8 ((y_5).length) c9]), (36, .slice a_p1 p1.length c_p1), (37, .int .i64 s_14), (38, .int .i64 s_9)] rfl ⟨rfl, rfl, rfl, rfl, rfl, rfl, rfl, rfl, rfl, rfl, rfl, rfl, rfl, rfl, rfl, rfl, rfl, rfl, trivial⟩ ?_
            obtain ⟨⟨y_17, y_18⟩, hc87, hm80⟩ := bind_some hm80
            refine WO_call0 (.tuple #[.int .u64 y_17, .bool y_18]) rfl rfl trivial rfl rfl rfl rfl St_closed ⟨38, #[], #[], rfl, callable_38, fun w hw => ⟨_, hw.sat, fiducial_descriptor_image_word_walk h15 h16 (h_p1.mono (mono_FE _) hle14) hc87⟩⟩ ?_
            refine WO_pure tbok 5 [(1, .slice a_p1 p1.length c_p1), (2, .pointer (some ⟨b3, 0, none⟩)), (4, .slice none 0 0), (5, .slice none 0 0), (6, .int .i64 0), (7, .pointer (some ⟨b17, 0, none⟩)), (9, .slice a59 ((l_12).length) c61), (10, .slice a64 ((l_13).length) c66), (11, .int .i64 s_9), (12, .int .i64 s_14), (13, .int .u64 y_17), (14, .bool y_18), (25, .int .i64 p0_1), (26, .int .i64 s_9), (30, .int .i64 p0_0), (31, .int .i64 s_14)] rfl ⟨rfl, rfl, rfl, rfl, rfl, rfl, rfl, rfl, rfl, rfl, rfl, rfl, rfl, rfl, rfl, rfl, trivial⟩ ?_
            refine WO_end ?_
            refine WK_seq ?_
            refine WK_region ?_
            refine WO_pure tbok 1 [(1, .slice a_p1 p1.length c_p1), (2, .pointer (some ⟨b3, 0, none⟩)), (4, .slice none 0 0), (5, .slice none 0 0), (6, .int .i64 0), (7, .pointer (some ⟨b17, 0, none⟩)), (9, .slice a59 ((l_12).length) c61), (10, .slice a64 ((l_13).length) c66), (11, .int .i64 s_9), (12, .int .i64 s_14), (13, .int .u64 y_17), (25, .int .i64 p0_1), (26, .int .i64 s_9), (30, .int .i64 p0_0), (31, .int .i64 s_14), (42, .bool y_18)] rfl ⟨rfl, rfl, rfl, rfl, rfl, rfl, rfl, rfl, rfl, rfl, rfl, rfl, rfl, rfl, rfl, rfl, trivial⟩ ?_
            refine WO_end ?_
            obtain ⟨⟨l_19, l_20⟩, hx98, hm80⟩ := bind_some hm80
            refine WK_join (β := Option Addr × Nat × Nat × List Ent × Option Addr × Nat × Nat × List Ent) (fun p => OwnE 58 2 T2 (.slice p.1 p.2.1 p.2.2.1) l_19 p.2.2.2.1 ∧ OwnE 22 1 (I1 .u64) (.slice p.2.2.2.2.1 p.2.2.2.2.2.1 p.2.2.2.2.2.2.1) l_20 p.2.2.2.2.2.2.2) (fun p => [(1, .slice a_p1 p1.length c_p1), (2, .pointer (some ⟨b3, 0, none⟩)), (4, .slice none 0 0), (5, .slice none 0 0), (6, .int .i64 0), (7, .pointer (some ⟨b17, 0, none⟩)), (9, .slice p.1 p.2.1 p.2.2.1), (10, .slice p.2.2.2.2.1 p.2.2.2.2.2.1 p.2.2.2.2.2.2.1), (11, .int .i64 s_9), (25, .int .i64 p0_1), (26, .int .i64 s_9), (30, .int .i64 p0_0), (31, .int .i64 s_14)]) (fun p => St w0 m m13 [[⟨b3, 29, [.int .i64 p0_0, .int .i64 p0_1, .int .i64 p0_2, .slice a_p0_3 p0_3.length c_p0_3]⟩], L11, [⟨b17, 74, [.int .i64 y_1, .int .i64 y_2, .int .i64 y_3, .slice a5 ((y_4).length) c6, .slice a8 ((y_5).length) c9]⟩], p.2.2.2.1, p.2.2.2.2.2.2.2]) ?_ (fun hk99 => ?_)
            · rintro ⟨a90, q91, c92, L89, a95, q96, c97, L94⟩ ⟨hL89, hL94⟩
              have hqq : q91 = l_19.length := OwnE.qlen hL89
              subst hqq
              have hqq : q96 = l_20.length := OwnE.qlen hL94
              subst hqq
              refine WK.sub (e' := [(1, .slice a_p1 p1.length c_p1), (2, .pointer (some ⟨b3, 0, none⟩)), (4, .slice none 0 0), (5, .slice none 0 0), (6, .int .i64 0), (7, .pointer (some ⟨b17, 0, none⟩)), (9, .slice a90 ((l_19).length) c92), (10, .slice a95 ((l_20).length) c97), (11, .int .i64 s_9), (25, .int .i64 p0_1), (26, .int .i64 s_9), (30, .int .i64 p0_0), (31, .int .i64 s_14)]) ⟨rfl, rfl, rfl, rfl, rfl, rfl, rfl, rfl, rfl, rfl, rfl, rfl, rfl, trivial⟩ (WK.cls (C' := St w0 m m13 [[⟨b3, 29, [.int .i64 p0_0, .int .i64 p0_1, .int .i64 p0_2, .slice a_p0_3 p0_3.length c_p0_3]⟩], L11, [⟨b17, 74, [.int .i64 y_1, .int .i64 y_2, .int .i64 y_3, .slice a5 ((y_4).length) c6, .slice a8 ((y_5).length) c9]⟩], L89, L94]) (fun _ h => h) ?_)
              refine WK_blk ?_
              refine WK_region ?_
              refine WO_pure tbok 2 [(1, .slice a_p1 p1.length c_p1), (2, .pointer (some ⟨b3, 0, none⟩)), (4, .slice none 0 0), (5, .slice none 0 0), (6, .int .i64 0), (7, .pointer (some ⟨b17, 0, none⟩)), (9, .slice a90 ((l_19).length) c92), (10, .slice a95 ((l_20).length) c97), (11, .int .i64 s_9), (25, .int .i64 p0_1), (26, .int .i64 s_9), (30, .int .i64 p0_0), (31, .int .i64 (w64 (s_14 + 1)))] rfl ⟨rfl, rfl, rfl, rfl, rfl, rfl, rfl, rfl, rfl, rfl, rfl, rfl, rfl, trivial⟩ ?_
              refine WO_end ?_
              cases hm80
              refine WK.sub ?_ (WK.cls (fun _ h => h) (hn83 _ (a90, (l_19).length, c92, L89, a95, (l_20).length, c97, L94) rfl ⟨hL89, hL94⟩))
              exact ⟨rfl, rfl, rfl, rfl, rfl, rfl, rfl, rfl, rfl, rfl, rfl, rfl, rfl, trivial⟩
            · refine WK_cond (b := y_18) rfl (fun hb100 => ?_) (fun hb100 => ?_)
              · have hx98 := ifT hb100 hx98
                refine WK_region ?_
                refine WO_pure tbok 4 [(1, .slice a_p1 p1.length c_p1), (2, .pointer (some ⟨b3, 0, none⟩)), (4, .slice none 0 0), (5, .slice none 0 0), (6, .int .i64 0), (7, .pointer (some ⟨b17, 0, none⟩)), (9, .slice a59 ((l_12).length) c61), (10, .slice a64 ((l_13).length) c66), (11, .int .i64 s_9), (13, .int .u64 y_17), (25, .int .i64 p0_1), (26, .int .i64 s_9), (30, .int .i64 p0_0), (31, .int .i64 s_14), (43, .slice a59 ((l_12).length) c61), (46, .agg #[.int .i64 s_14, .int .i64 s_9])] rfl ⟨rfl, rfl, rfl, rfl, rfl, rfl, rfl, rfl, rfl, rfl, rfl, rfl, rfl, rfl, rfl, rfl, trivial⟩ ?_
                refine WO_bslice (E := T2) tbok (fun _ => rfl) (by decide) [.agg #[.int .i64 s_14, .int .i64 s_9]] ([(s_14, s_9)] : List (Int × Int)) rfl rfl trivial rfl rfl rfl rfl rfl rfl rfl rfl rfl rfl rfl rfl (fun b101 hb101 => ?_)
                refine WO.cls (C' := St w0 m m13 [[⟨b3, 29, [.int .i64 p0_0, .int .i64 p0_1, .int .i64 p0_2, .slice a_p0_3 p0_3.length c_p0_3]⟩], L11, [⟨b17, 74, [.int .i64 y_1, .int .i64 y_2, .int .i64 y_3, .slice a5 ((y_4).length) c6, .slice a8 ((y_5).length) c9]⟩], L58, L63, [⟨b101, 58, ([(s_14, s_9)] : List (Int × Int)).flatMap T2⟩]]) (fun _ h => h) ?_
                obtain ⟨hc103, hx98⟩ := chk_some hx98
                refine WO_append (E := T2) tbok (fun _ => rfl) 3 ([(s_14, s_9)] : List (Int × Int)) (fun _ _ => rfl) rfl rfl rfl rfl rfl rfl rfl rfl rfl rfl rfl rfl hL58 rfl (src_seg (j := 5) rfl) (ap_ok (by decide) hc103) (ap_max hc103) (fun a104 c105 L106 hL106 => ?_)
                refine WO.cls (C' := St w0 m m13 [[⟨b3, 29, [.int .i64 p0_0, .int .i64 p0_1, .int .i64 p0_2, .slice a_p0_3 p0_3.length c_p0_3]⟩], L11, [⟨b17, 74, [.int .i64 y_1, .int .i64 y_2, .int .i64 y_3, .slice a5 ((y_4).length) c6, .slice a8 ((y_5).length) c9]⟩], L106, L63, [⟨b101, 58, ([(s_14, s_9)] : List (Int × Int)).flatMap T2⟩]]) (fun _ h => h) ?_
                refine WO_pure tbok 2 [(1, .slice a_p1 p1.length c_p1), (2, .pointer (some ⟨b3, 0, none⟩)), (4, .slice none 0 0), (5, .slice none 0 0), (6, .int .i64 0), (7, .pointer (some ⟨b17, 0, none⟩)), (9, .slice a59 ((l_12).length) c61), (10, .slice a64 ((l_13).length) c66), (11, .int .i64 s_9), (25, .int .i64 p0_1), (26, .int .i64 s_9), (30, .int .i64 p0_0), (31, .int .i64 s_14), (48, .slice a104 ((l_12 ++ ([(s_14, s_9)] : List (Int × Int))).length) c105), (49, .slice a64 ((l_13).length) c66), (50, .int .u64 y_17)] rfl ⟨rfl, rfl, rfl, rfl, rfl, rfl, rfl, rfl, rfl, rfl, rfl, rfl, rfl, rfl, rfl, rfl, trivial⟩ ?_
                refine WO_bslice (E := (I1 .u64)) tbok (fun _ => rfl) (by decide) [.int .u64 y_17] ([y_17] : List Int) rfl rfl trivial rfl rfl rfl rfl rfl rfl rfl rfl rfl rfl rfl rfl (fun b108 hb108 => ?_)
                refine WO.cls (C' := St w0 m m13 [[⟨b3, 29, [.int .i64 p0_0, .int .i64 p0_1, .int .i64 p0_2, .slice a_p0_3 p0_3.length c_p0_3]⟩], L11, [⟨b17, 74, [.int .i64 y_1, .int .i64 y_2, .int .i64 y_3, .slice a5 ((y_4).length) c6, .slice a8 ((y_5).length) c9]⟩], L106, L63, [⟨b101, 58, ([(s_14, s_9)] : List (Int × Int)).flatMap T2⟩], [⟨b108, 22, ([y_17] : List Int).flatMap (I1 .u64)⟩]]) (fun _ h => h) ?_
                obtain ⟨hc110, hx98⟩ := chk_some hx98
                refine WO_append (E := (I1 .u64)) tbok (fun _ => rfl) 4 ([y_17] : List Int) (fun _ _ => rfl) rfl rfl rfl rfl rfl rfl rfl rfl rfl rfl rfl rfl hL63 rfl (src_seg (j := 6) rfl) (ap_ok (by decide) hc110) (ap_max hc110) (fun a111 c112 L113 hL113 => ?_)
                refine WO.cls (C' := St w0 m m13 [[⟨b3, 29, [.int .i64 p0_0, .int .i64 p0_1, .int .i64 p0_2, .slice a_p0_3 p0_3.length c_p0_3]⟩], L11, [⟨b17, 74, [.int .i64 y_1, .int .i64 y_2, .int .i64 y_3, .slice a5 ((y_4).length) c6, .slice a8 ((y_5).length) c9]⟩], L106, L113, [⟨b101, 58, ([(s_14, s_9)] : List (Int × Int)).flatMap T2⟩], [⟨b108, 22, ([y_17] : List Int).flatMap (I1 .u64)⟩]]) (fun _ h => h) ?_
                refine WO_pure tbok 2 [(1, .slice a_p1 p1.length c_p1), (2, .pointer (some ⟨b3, 0, none⟩)), (4, .slice none 0 0), (5, .slice none 0 0), (6, .int .i64 0), (7, .pointer (some ⟨b17, 0, none⟩)), (9, .slice a104 ((l_12 ++ ([(s_14, s_9)] : List (Int × Int))).length) c105), (10, .slice a111 ((l_13 ++ ([y_17] : List Int)).length) c112), (11, .int .i64 s_9), (25, .int .i64 p0_1), (26, .int .i64 s_9), (30, .int .i64 p0_0), (31, .int .i64 s_14)] rfl ⟨rfl, rfl, rfl, rfl, rfl, rfl, rfl, rfl, rfl, rfl, rfl, rfl, rfl, trivial⟩ ?_
                refine WO_end ?_
                cases hx98
                refine WK.sub ?_ (WK.cls (fun _ h => St.take 5 h) (hk99 ⟨a104, (l_12 ++ ([(s_14, s_9)] : List (Int × Int))).length, c105, L106, a111, (l_13 ++ ([y_17] : List Int)).length, c112, L113⟩ ⟨hL106, hL113⟩))
                exact ⟨rfl, rfl, rfl, rfl, rfl, rfl, rfl, rfl, rfl, rfl, rfl, rfl, rfl, trivial⟩
              · have hx98 := ifF hb100 hx98
                refine WK_skip ?_
                cases hx98
                refine WK.sub ?_ (WK.cls (fun _ h => h) (hk99 ⟨a59, (l_12).length, c61, L58, a64, (l_13).length, c66, L63⟩ ⟨hL58, hL63⟩))
                exact ⟨rfl, rfl, rfl, rfl, rfl, rfl, rfl, rfl, rfl, rfl, rfl, rfl, rfl, trivial⟩
          · have hm80 := ifF hb86 hm80
            refine WK_exit rfl ?_
            cases hm80
            refine WK.sub ?_ (WK.cls (fun _ h => h) (hk79 ((l_12, l_13), (a59, (l_12).length, c61, L58, a64, (l_13).length, c66, L63)) ⟨(hd84 _ rfl), hL58, hL63⟩))
            exact ⟨rfl, rfl, rfl, rfl, rfl, rfl, rfl, rfl, rfl, rfl, trivial⟩
      · have hm44 := ifF hb56 hm44
        refine WK_exit rfl ?_
        cases hm44
        refine WK.sub ?_ (WK.cls (fun _ h => h) (hk43 ((l_7, l_8), (a23, (l_7).length, c25, L22, a28, (l_8).length, c30, L27)) ⟨(hd48 _ rfl), hL22, hL27⟩))
        exact ⟨rfl, rfl, rfl, rfl, rfl, trivial⟩
theorem slices_Equal_sapi_Pix_walk {m : Mu} {p0 : List (Int × Int)} {p1 : List (Int × Int)} {a_p0 : Option Addr} {q_p0 c_p0 : Nat} {a_p1 : Option Addr} {q_p1 c_p1 : Nat} (h_p0 : SlR (FE T2) 2 m (.slice a_p0 q_p0 c_p0) p0) (h_p1 : SlR (FE T2) 2 m (.slice a_p1 q_p1 c_p1) p1) {r : Bool} (hm : slices_Equal_sapi_Pix p0 p1 = some r) :
    Go.E.Spec Try.prog 28 [.slice a_p0 q_p0 c_p0, .slice a_p1 q_p1 c_p1] m (fun v _ _ => v = .bool r) := by
  refine Spec_enter Try.func28 rfl rfl rfl (fun w0 => ?_)
  refine WK.sub (e' := [(0, .slice a_p0 q_p0 c_p0), (1, .slice a_p1 q_p1 c_p1)]) ⟨rfl, rfl, trivial⟩ ?_
  obtain rfl := SlR.qlen h_p0
  obtain rfl := SlR.qlen h_p1
  refine WK.sub (e' := [(0, .slice a_p0 p0.length c_p0), (1, .slice a_p1 p1.length c_p1)]) ⟨rfl, rfl, trivial⟩ ?_
  unfold slices_Equal_sapi_Pix at hm
  refine WK_seq ?_
  refine WK_region ?_
  refine WO_pure tbok 1 [(0, .slice a_p0 p0.length c_p0), (1, .slice a_p1 p1.length c_p1), (4, .bool false)] rfl ⟨rfl, rfl, rfl, trivial⟩ ?_
  refine WO_end ?_
  refine WK_seq ?_
  refine WK_seq ?_
  refine WK_region ?_
  refine WO_pure tbok 5 [(0, .slice a_p0 p0.length c_p0), (1, .slice a_p1 p1.length c_p1), (4, .bool false), (10, .bool ((p0.length : Int) != (p1.length : Int)))] rfl ⟨rfl, rfl, rfl, rfl, trivial⟩ ?_
  refine WO_end ?_
  refine WK_cond (b := (p0.length : Int) != (p1.length : Int)) rfl (fun hb3 => ?_) (fun hb3 => ?_)
  · have hm := ifT hb3 hm
    refine WK_seq ?_
    refine WK_region ?_
    refine WO_pure tbok 1 [(0, .slice a_p0 p0.length c_p0), (1, .slice a_p1 p1.length c_p1), (4, .bool false)] rfl ⟨rfl, rfl, rfl, trivial⟩ ?_
    refine WO_end ?_
    cases hm
    exact WK_ret (ret_out (L := []) (RLc_tmp rfl RLc_nil) (List.nil_sublist _) rfl)
  · have hm := ifF hb3 hm
    refine WK_skip ?_
    refine WK_seq ?_
    refine WK_seq ?_
    refine WK_region ?_
    refine WO_pure tbok 3 [(0, .slice a_p0 p0.length c_p0), (1, .slice a_p1 p1.length c_p1), (4, .bool false), (12, .int .i64 (p0.length : Int)), (13, .int .i64 0)] rfl ⟨rfl, rfl, rfl, rfl, rfl, trivial⟩ ?_
    refine WO_end ?_
    obtain ⟨x4, hx5, hm⟩ := bind_some hm
    refine WK_join (β := Unit × Unit) (fun p => Sum.inr p.1 = x4) (fun p => [(4, .bool false)]) (fun p => St w0 m m []) ?_ (fun hk6 => ?_)
    · rintro ⟨⟨⟩, ⟨⟩⟩ hq12
      subst hq12
      refine WK.sub (e' := [(4, .bool false)]) ⟨rfl, trivial⟩ (WK.cls (C' := St w0 m m []) (fun _ h => h) ?_)
      refine WK_seq ?_
      refine WK_region ?_
      refine WO_pure tbok 1 [(4, .bool true)] rfl ⟨rfl, trivial⟩ ?_
      refine WO_end ?_
      cases hm
      exact WK_ret (ret_out (L := []) (RLc_tmp rfl RLc_nil) (List.nil_sublist _) rfl)
    · refine WK_block ?_
      refine WK_loop (S := Int) (G := Unit) (fun s => slices_Equal_sapi_Pix_s1 p0 p1 s) (fun s g => [(0, .slice a_p0 p0.length c_p0), (1, .slice a_p1 p1.length c_p1), (4, .bool false), (12, .int .i64 (p0.length : Int)), (13, .int .i64 s)]) (fun s g => St w0 m m []) (fun s g => True) FUEL 0 () x4 hx5 trivial ⟨rfl, rfl, rfl, rfl, rfl, trivial⟩ (fun _ h => h) ?_
      rintro s_1 ⟨⟩ o8 fl9 hm7 - hn10 hd11
      have hm7 : slices_Equal_sapi_Pix_s1 p0 p1 s_1 = some o8 := hm7
      unfold slices_Equal_sapi_Pix_s1 at hm7
      refine WK.sub (e' := [(0, .slice a_p0 p0.length c_p0), (1, .slice a_p1 p1.length c_p1), (4, .bool false), (12, .int .i64 (p0.length : Int)), (13, .int .i64 s_1)]) ⟨rfl, rfl, rfl, rfl, rfl, trivial⟩ (WK.cls (C' := St w0 m m []) (fun _ h => h) ?_)
      refine WK_seq ?_
      refine WK_region ?_
      refine WO_pure tbok 1 [(0, .slice a_p0 p0.length c_p0), (1, .slice a_p1 p1.length c_p1), (4, .bool false), (12, .int .i64 (p0.length : Int)), (13, .int .i64 s_1), (14, .bool (decide (s_1 < (p0.length : Int))))] rfl ⟨rfl, rfl, rfl, rfl, rfl, rfl, trivial⟩ ?_
      refine WO_end ?_
      refine WK_seq ?_
      refine WK_cond (b := decide (s_1 < (p0.length : Int))) rfl (fun hb13 => ?_) (fun hb13 => ?_)
      · have hm7 := ifT hb13 hm7
        refine WK_skip ?_
        refine WK_seq ?_
        refine WK_block ?_
        refine WK_seq ?_
        refine WK_region ?_
        refine WO_pure tbok 2 [(0, .slice a_p0 p0.length c_p0), (1, .slice a_p1 p1.length c_p1), (4, .bool false), (5, .int .i64 s_1), (12, .int .i64 (p0.length : Int)), (13, .int .i64 s_1)] rfl ⟨rfl, rfl, rfl, rfl, rfl, rfl, trivial⟩ ?_
        refine WO_end ?_
        refine WK_seq ?_
        refine WK_draw 9 [0, 1, 2, 3, 4, 5, 6, 7, 8] follows_ok (by kernel_rfl) St_closed ?_
        refine WO_pure tbok 2 [(0, .slice a_p0 p0.length c_p0), (1, .slice a_p1 p1.length c_p1), (4, .bool false), (5, .int .i64 s_1), (12, .int .i64 (p0.length : Int)), (13, .int .i64 s_1), (16, .slice a_p0 p0.length c_p0), (17, .int .i64 s_1)] rfl ⟨rfl, rfl, rfl, rfl, rfl, rfl, rfl, rfl, trivial⟩ ?_
        obtain ⟨v_2, hy14, hm7⟩ := bind_some hm7
        obtain ⟨hc15, hy14⟩ := ix_some hy14
        refine WO_index tbok rfl rfl rfl rfl rfl rfl rfl rfl (SlR.addr h_p0) hc15 ?_
        refine WO_loadE tbok rfl rfl rfl rfl (fun _ h => St.sat h) h_p0 hy14 rfl ?_
        refine WO_pure tbok 2 [(0, .slice a_p0 p0.length c_p0), (1, .slice a_p1 p1.length c_p1), (4, .bool false), (12, .int .i64 (p0.length : Int)), (13, .int .i64 s_1), (19, .agg #[.int .i64 v_2.1, .int .i64 v_2.2]), (20, .slice a_p1 p1.length c_p1), (21, .int .i64 s_1)] rfl ⟨rfl, rfl, rfl, rfl, rfl, rfl, rfl, rfl, trivial⟩ ?_
        obtain ⟨v_3, hy16, hm7⟩ := bind_some hm7
        obtain ⟨hc17, hy16⟩ := ix_some hy16
        refine WO_index tbok rfl rfl rfl rfl rfl rfl rfl rfl (SlR.addr h_p1) hc17 ?_
        refine WO_loadE tbok rfl rfl rfl rfl (fun _ h => St.sat h) h_p1 hy16 rfl ?_
        refine WO_neA (r := ((v_2.1 == v_3.1) && ((v_2.2 == v_3.2) && true))) [.int .i64 v_2.1, .int .i64 v_2.2] [.int .i64 v_3.1, .int .i64 v_3.2] rfl rfl rfl rfl rfl (by kernel_rfl) (by kernel_rfl) (by kernel_rfl) ?_
        refine WO_tail ?_
        refine WO_end ?_
        refine WK_cond (b := !((v_2.1 == v_3.1) && ((v_2.2 == v_3.2) && true))) rfl (fun hb18 => ?_) (fun hb18 => ?_)
        · have hm7 := ifT hb18 hm7
          refine WK_seq ?_
          refine WK_region ?_
          refine WO_pure tbok 1 [(0, .slice a_p0 p0.length c_p0), (1, .slice a_p1 p1.length c_p1), (4, .bool false), (12, .int .i64 (p0.length : Int)), (13, .int .i64 s_1)] rfl ⟨rfl, rfl, rfl, rfl, rfl, trivial⟩ ?_
          refine WO_end ?_
          cases hm7
          have hq := hd11 _ rfl
          subst hq
          have hm : some _ = some _ := hm
          cases hm
          exact WK_ret (ret_out (L := []) (RLc_tmp rfl RLc_nil) (List.nil_sublist _) rfl)
        · have hm7 := ifF hb18 hm7
          refine WK_skip ?_
          refine WK_blk ?_
          refine WK_region ?_
          refine WO_pure tbok 2 [(0, .slice a_p0 p0.length c_p0), (1, .slice a_p1 p1.length c_p1), (4, .bool false), (12, .int .i64 (p0.length : Int)), (13, .int .i64 (w64 (s_1 + 1)))] rfl ⟨rfl, rfl, rfl, rfl, rfl, trivial⟩ ?_
          refine WO_end ?_
          cases hm7
          refine WK.sub ?_ (WK.cls (fun _ h => h) (hn10 _ () rfl trivial))
          exact ⟨rfl, rfl, rfl, rfl, rfl, trivial⟩
      · have hm7 := ifF hb13 hm7
        refine WK_exit rfl ?_
        cases hm7
        refine WK.sub ?_ (WK.cls (fun _ h => h) (hk6 ((), ()) (hd11 _ rfl)))
        exact ⟨rfl, trivial⟩
theorem slices_Equal_suint64_walk {m : Mu} {p0 : List Int} {p1 : List Int} {a_p0 : Option Addr} {q_p0 c_p0 : Nat} {a_p1 : Option Addr} {q_p1 c_p1 : Nat} (h_p0 : SlR (FE (I1 .u64)) 1 m (.slice a_p0 q_p0 c_p0) p0) (h_p1 : SlR (FE (I1 .u64)) 1 m (.slice a_p1 q_p1 c_p1) p1) {r : Bool} (hm : slices_Equal_suint64 p0 p1 = some r) :
    Go.E.Spec Try.prog 29 [.slice a_p0 q_p0 c_p0, .slice a_p1 q_p1 c_p1] m (fun v _ _ => v = .bool r) := by
  refine Spec_enter Try.func29 rfl rfl rfl (fun w0 => ?_)
  refine WK.sub (e' := [(0, .slice a_p0 q_p0 c_p0), (1, .slice a_p1 q_p1 c_p1)]) ⟨rfl, rfl, trivial⟩ ?_
  obtain rfl := SlR.qlen h_p0
  obtain rfl := SlR.qlen h_p1
  refine WK.sub (e' := [(0, .slice a_p0 p0.length c_p0), (1, .slice a_p1 p1.length c_p1)]) ⟨rfl, rfl, trivial⟩ ?_
  unfold slices_Equal_suint64 at hm
  refine WK_seq ?_
  refine WK_region ?_
  refine WO_pure tbok 1 [(0, .slice a_p0 p0.length c_p0), (1, .slice a_p1 p1.length c_p1), (4, .bool false)] rfl ⟨rfl, rfl, rfl, trivial⟩ ?_
  refine WO_end ?_
  refine WK_seq ?_
  refine WK_seq ?_
  refine WK_region ?_
  refine WO_pure tbok 5 [(0, .slice a_p0 p0.length c_p0), (1, .slice a_p1 p1.length c_p1), (4, .bool false), (10, .bool ((p0.length : Int) != (p1.length : Int)))] rfl ⟨rfl, rfl, rfl, rfl, trivial⟩ ?_
  refine WO_end ?_
  refine WK_cond (b := (p0.length : Int) != (p1.length : Int)) rfl (fun hb3 => ?_) (fun hb3 => ?_)
  · have hm := ifT hb3 hm
    refine WK_seq ?_
    refine WK_region ?_
    refine WO_pure tbok 1 [(0, .slice a_p0 p0.length c_p0), (1, .slice a_p1 p1.length c_p1), (4, .bool false)] rfl ⟨rfl, rfl, rfl, trivial⟩ ?_
    refine WO_end ?_
    cases hm
    exact WK_ret (ret_out (L := []) (RLc_tmp rfl RLc_nil) (List.nil_sublist _) rfl)
  · have hm := ifF hb3 hm
    refine WK_skip ?_
    refine WK_seq ?_
    refine WK_seq ?_
    refine WK_region ?_
    refine WO_pure tbok 3 [(0, .slice a_p0 p0.length c_p0), (1, .slice a_p1 p1.length c_p1), (4, .bool false), (12, .int .i64 (p0.length : Int)), (13, .int .i64 0)] rfl ⟨rfl, rfl, rfl, rfl, rfl, trivial⟩ ?_
    refine WO_end ?_
    obtain ⟨x4, hx5, hm⟩ := bind_some hm
    refine WK_join (β := Unit × Unit) (fun p => Sum.inr p.1 = x4) (fun p => [(4, .bool false)]) (fun p => St w0 m m []) ?_ (fun hk6 => ?_)
    · rintro ⟨⟨⟩, ⟨⟩⟩ hq12
      subst hq12
      refine WK.sub (e' := [(4, .bool false)]) ⟨rfl, trivial⟩ (WK.cls (C' := St w0 m m []) (fun _ h => h) ?_)
      refine WK_seq ?_
      refine WK_region ?_
      refine WO_pure tbok 1 [(4, .bool true)] rfl ⟨rfl, trivial⟩ ?_
      refine WO_end ?_
      cases hm
      exact WK_ret (ret_out (L := []) (RLc_tmp rfl RLc_nil) (List.nil_sublist _) rfl)
    · refine WK_block ?_
      refine WK_loop (S := Int) (G := Unit) (fun s => slices_Equal_suint64_s1 p0 p1 s) (fun s g => [(0, .slice a_p0 p0.length c_p0), (1, .slice a_p1 p1.length c_p1), (4, .bool false), (12, .int .i64 (p0.length : Int)), (13, .int .i64 s)]) (fun s g => St w0 m m []) (fun s g => True) FUEL 0 () x4 hx5 trivial ⟨rfl, rfl, rfl, rfl, rfl, trivial⟩ (fun _ h => h) ?_
      rintro s_1 ⟨⟩ o8 fl9 hm7 - hn10 hd11
      have hm7 : slices_Equal_suint64_s1 p0 p1 s_1 = some o8 := hm7
      unfold slices_Equal_suint64_s1 at hm7
      refine WK.sub (e' := [(0, .slice a_p0 p0.length c_p0), (1, .slice a_p1 p1.length c_p1), (4, .bool false), (12, .int .i64 (p0.length : Int)), (13, .int .i64 s_1)]) ⟨rfl, rfl, rfl, rfl, rfl, trivial⟩ (WK.cls (C' := St w0 m m []) (fun _ h => h) ?_)
      refine WK_seq ?_
      refine WK_region ?_
      refine WO_pure tbok 1 [(0, .slice a_p0 p0.length c_p0), (1, .slice a_p1 p1.length c_p1), (4, .bool false), (12, .int .i64 (p0.length : Int)), (13, .int .i64 s_1), (14, .bool (decide (s_1 < (p0.length : Int))))] rfl ⟨rfl, rfl, rfl, rfl, rfl, rfl, trivial⟩ ?_
      refine WO_end ?_
      refine WK_seq ?_
      refine WK_cond (b := decide (s_1 < (p0.length : Int))) rfl (fun hb13 => ?_) (fun hb13 => ?_)
      · have hm7 := ifT hb13 hm7
        refine WK_skip ?_
        refine WK_seq ?_
        refine WK_block ?_
        refine WK_seq ?_
        refine WK_region ?_
        refine WO_pure tbok 2 [(0, .slice a_p0 p0.length c_p0), (1, .slice a_p1 p1.length c_p1), (4, .bool false), (5, .int .i64 s_1), (12, .int .i64 (p0.length : Int)), (13, .int .i64 s_1)] rfl ⟨rfl, rfl, rfl, rfl, rfl, rfl, trivial⟩ ?_
        refine WO_end ?_
        refine WK_seq ?_
        refine WK_draw 9 [0, 1, 2, 3, 4, 5, 6, 7, 8] follows_ok (by kernel_rfl) St_closed ?_
        refine WO_pure tbok 2 [(0, .slice a_p0 p0.length c_p0), (1, .slice a_p1 p1.length c_p1), (4, .bool false), (5, .int .i64 s_1), (12, .int .i64 (p0.length : Int)), (13, .int .i64 s_1), (16, .slice a_p0 p0.length c_p0), (17, .int .i64 s_1)] rfl ⟨rfl, rfl, rfl, rfl, rfl, rfl, rfl, rfl, trivial⟩ ?_
        obtain ⟨v_2, hy14, hm7⟩ := bind_some hm7
        obtain ⟨hc15, hy14⟩ := ix_some hy14
        refine WO_index tbok rfl rfl rfl rfl rfl rfl rfl rfl (SlR.addr h_p0) hc15 ?_
        refine WO_loadE tbok rfl rfl rfl rfl (fun _ h => St.sat h) h_p0 hy14 rfl ?_
        refine WO_pure tbok 2 [(0, .slice a_p0 p0.length c_p0), (1, .slice a_p1 p1.length c_p1), (4, .bool false), (12, .int .i64 (p0.length : Int)), (13, .int .i64 s_1), (19, .int .u64 v_2), (20, .slice a_p1 p1.length c_p1), (21, .int .i64 s_1)] rfl ⟨rfl, rfl, rfl, rfl, rfl, rfl, rfl, rfl, trivial⟩ ?_
        obtain ⟨v_3, hy16, hm7⟩ := bind_some hm7
        obtain ⟨hc17, hy16⟩ := ix_some hy16
        refine WO_index tbok rfl rfl rfl rfl rfl rfl rfl rfl (SlR.addr h_p1) hc17 ?_
        refine WO_loadE tbok rfl rfl rfl rfl (fun _ h => St.sat h) h_p1 hy16 rfl ?_
        refine WO_pure tbok 1 [(0, .slice a_p0 p0.length c_p0), (1, .slice a_p1 p1.length c_p1), (4, .bool false), (12, .int .i64 (p0.length : Int)), (13, .int .i64 s_1), (24, .bool (v_2 != v_3))] rfl ⟨rfl, rfl, rfl, rfl, rfl, rfl, trivial⟩ ?_
        refine WO_tail ?_
        refine WO_end ?_
        refine WK_cond (b := v_2 != v_3) rfl (fun hb18 => ?_) (fun hb18 => ?_)
        · have hm7 := ifT hb18 hm7
          refine WK_seq ?_
          refine WK_region ?_
          refine WO_pure tbok 1 [(0, .slice a_p0 p0.length c_p0), (1, .slice a_p1 p1.length c_p1), (4, .bool false), (12, .int .i64 (p0.length : Int)), (13, .int .i64 s_1)] rfl ⟨rfl, rfl, rfl, rfl, rfl, trivial⟩ ?_
          refine WO_end ?_
          cases hm7
          have hq := hd11 _ rfl
          subst hq
          have hm : some _ = some _ := hm
          cases hm
          exact WK_ret (ret_out (L := []) (RLc_tmp rfl RLc_nil) (List.nil_sublist _) rfl)
        · have hm7 := ifF hb18 hm7
          refine WK_skip ?_
          refine WK_blk ?_
          refine WK_region ?_
          refine WO_pure tbok 2 [(0, .slice a_p0 p0.length c_p0), (1, .slice a_p1 p1.length c_p1), (4, .bool false), (12, .int .i64 (p0.length : Int)), (13, .int .i64 (w64 (s_1 + 1)))] rfl ⟨rfl, rfl, rfl, rfl, rfl, trivial⟩ ?_
          refine WO_end ?_
          cases hm7
          refine WK.sub ?_ (WK.cls (fun _ h => h) (hn10 _ () rfl trivial))
          exact ⟨rfl, rfl, rfl, rfl, rfl, trivial⟩
      · have hm7 := ifF hb13 hm7
        refine WK_exit rfl ?_
        cases hm7
        refine WK.sub ?_ (WK.cls (fun _ h => h) (hk6 ((), ()) (hd11 _ rfl)))
        exact ⟨rfl, trivial⟩
theorem fiduciallaw21_DescriptorAll_walk {m : Mu} {p0_0 : Int} {p0_1 : Int} {p0_2 : Int} {p0_3 : List Int} {p1 : List (Int × Int × Int × Int × Int × Int × Int × Int)} {a_p0_3 : Option Addr} {q_p0_3 c_p0_3 : Nat} {a_p1 : Option Addr} {q_p1 c_p1 : Nat} (h_p0_3 : SlR (FE (I1 .i64)) 1 m (.slice a_p0_3 q_p0_3 c_p0_3) p0_3) (h_p1 : SlR (FE T8) 8 m (.slice a_p1 q_p1 c_p1) p1) {r : Bool} (hm : fiduciallaw21_DescriptorAll p0_0 p0_1 p0_2 p0_3 p1 = some r) :
    Go.E.Spec Try.prog 7 [.agg #[.int .i64 p0_0, .int .i64 p0_1, .int .i64 p0_2, .slice a_p0_3 q_p0_3 c_p0_3], .slice a_p1 q_p1 c_p1] m (fun v _ _ => v = .bool r) := by
  refine Spec_enter Try.func7 rfl rfl rfl (fun w0 => ?_)
  refine WK.sub (e' := [(0, .agg #[.int .i64 p0_0, .int .i64 p0_1, .int .i64 p0_2, .slice a_p0_3 q_p0_3 c_p0_3]), (1, .slice a_p1 q_p1 c_p1)]) ⟨rfl, rfl, trivial⟩ ?_
  obtain rfl := SlR.qlen h_p0_3
  obtain rfl := SlR.qlen h_p1
  refine WK.sub (e' := [(0, .agg #[.int .i64 p0_0, .int .i64 p0_1, .int .i64 p0_2, .slice a_p0_3 p0_3.length c_p0_3]), (1, .slice a_p1 p1.length c_p1)]) ⟨rfl, rfl, trivial⟩ ?_
  unfold fiduciallaw21_DescriptorAll at hm
  refine WK_seq ?_
  refine WK_region ?_
  refine WO_box [.int .i64 p0_0, .int .i64 p0_1, .int .i64 p0_2, .slice a_p0_3 p0_3.length c_p0_3] rfl rfl trivial rfl rfl rfl (fun b3 => ?_)
  refine WO.cls (C' := St w0 m m [[⟨b3, 29, [.int .i64 p0_0, .int .i64 p0_1, .int .i64 p0_2, .slice a_p0_3 p0_3.length c_p0_3]⟩]]) (fun _ h => h) ?_
  refine WO_pure tbok 1 [(1, .slice a_p1 p1.length c_p1), (2, .pointer (some ⟨b3, 0, none⟩)), (4, .bool false)] rfl ⟨rfl, rfl, rfl, trivial⟩ ?_
  refine WO_end ?_
  refine WK_seq ?_
  refine WK_seq ?_
  refine WK_region ?_
  obtain ⟨y_1, hc4, hm⟩ := bind_some hm
  refine WO_call0 (.bool y_1) rfl rfl trivial rfl rfl rfl rfl St_closed ⟨11, #[], #[], rfl, callable_11, fun w hw => ⟨_, hw.sat, fiduciallaw21_known_walk hc4⟩⟩ ?_
  refine WO_pure tbok 1 [(1, .slice a_p1 p1.length c_p1), (2, .pointer (some ⟨b3, 0, none⟩)), (4, .bool false), (16, .bool (!y_1))] rfl ⟨rfl, rfl, rfl, rfl, trivial⟩ ?_
  refine WO_end ?_
  refine WK_cond (b := !y_1) rfl (fun hb5 => ?_) (fun hb5 => ?_)
  · have hm := ifT hb5 hm
    refine WK_seq ?_
    refine WK_region ?_
    refine WO_pure tbok 1 [(1, .slice a_p1 p1.length c_p1), (2, .pointer (some ⟨b3, 0, none⟩)), (4, .bool false)] rfl ⟨rfl, rfl, rfl, trivial⟩ ?_
    refine WO_end ?_
    cases hm
    exact WK_ret (ret_out (L := []) (RLc_tmp rfl RLc_nil) (List.nil_sublist _) rfl)
  · have hm := ifF hb5 hm
    refine WK_skip ?_
    refine WK_seq ?_
    refine WK_seq ?_
    refine WK_region ?_
    refine WO_loadB tbok 0 rfl rfl rfl rfl (fun _ h => h) rfl rfl ?_
    refine WO_pure tbok 1 [(1, .slice a_p1 p1.length c_p1), (2, .pointer (some ⟨b3, 0, none⟩)), (4, .bool false), (17, .agg #[.int .i64 p0_0, .int .i64 p0_1, .int .i64 p0_2, .slice a_p0_3 p0_3.length c_p0_3]), (18, .slice a_p1 p1.length c_p1)] rfl ⟨rfl, rfl, rfl, rfl, rfl, trivial⟩ ?_
    obtain ⟨y_2, hc6, hm⟩ := bind_some hm
    refine WO_call0 (.bool y_2) rfl rfl trivial rfl rfl rfl rfl St_closed ⟨14, #[], #[], rfl, callable_14, fun w hw => ⟨_, hw.sat, fiduciallaw21_few_walk h_p0_3 h_p1 hc6⟩⟩ ?_
    refine WO_pure tbok 1 [(1, .slice a_p1 p1.length c_p1), (2, .pointer (some ⟨b3, 0, none⟩)), (4, .bool false), (20, .bool (!y_2))] rfl ⟨rfl, rfl, rfl, rfl, trivial⟩ ?_
    refine WO_end ?_
    refine WK_cond (b := !y_2) rfl (fun hb7 => ?_) (fun hb7 => ?_)
    · have hm := ifT hb7 hm
      refine WK_seq ?_
      refine WK_region ?_
      refine WO_pure tbok 1 [(1, .slice a_p1 p1.length c_p1), (2, .pointer (some ⟨b3, 0, none⟩)), (4, .bool true)] rfl ⟨rfl, rfl, rfl, trivial⟩ ?_
      refine WO_end ?_
      cases hm
      exact WK_ret (ret_out (L := []) (RLc_tmp rfl RLc_nil) (List.nil_sublist _) rfl)
    · have hm := ifF hb7 hm
      refine WK_skip ?_
      refine WK_seq ?_
      refine WK_region ?_
      refine WO_loadB tbok 0 rfl rfl rfl rfl (fun _ h => h) rfl rfl ?_
      refine WO_pure tbok 1 [(1, .slice a_p1 p1.length c_p1), (2, .pointer (some ⟨b3, 0, none⟩)), (4, .bool false), (22, .agg #[.int .i64 p0_0, .int .i64 p0_1, .int .i64 p0_2, .slice a_p0_3 p0_3.length c_p0_3]), (23, .slice a_p1 p1.length c_p1)] rfl ⟨rfl, rfl, rfl, rfl, rfl, trivial⟩ ?_
      obtain ⟨⟨y_3, y_4, y_5⟩, hc8, hm⟩ := bind_some hm
      refine WO_call2 (descriptor_All_Q (y_3, y_4, y_5)) rfl rfl trivial rfl rfl rfl rfl ⟨27, #[], #[], rfl, callable_27, descriptor_All_walk h_p0_3 h_p1 hc8⟩ (fun v16 m17 L15 hle18 hq => ?_)
      obtain ⟨a9, qa9, c10, a12, qa12, c13, rfl, h19, h20⟩ := hq
      obtain rfl := SlR.qlen h19
      obtain rfl := SlR.qlen h20
      refine WO.cls (C' := St w0 m m17 [[⟨b3, 29, [.int .i64 p0_0, .int .i64 p0_1, .int .i64 p0_2, .slice a_p0_3 p0_3.length c_p0_3]⟩], L15]) (fun _ h => h.sub (by simp)) ?_
      refine WO_pure tbok 7 [(1, .slice a_p1 p1.length c_p1), (2, .pointer (some ⟨b3, 0, none⟩)), (4, .bool false), (5, .slice a9 ((y_3).length) c10), (6, .slice a12 ((y_4).length) c13), (7, .int .i64 y_5)] rfl ⟨rfl, rfl, rfl, rfl, rfl, rfl, trivial⟩ ?_
      refine WO_end ?_
      refine WK_seq ?_
      refine WK_seq ?_
      refine WK_region ?_
      refine WO_loadB tbok 0 rfl rfl rfl rfl (fun _ h => h) rfl rfl ?_
      refine WO_pure tbok 1 [(1, .slice a_p1 p1.length c_p1), (2, .pointer (some ⟨b3, 0, none⟩)), (4, .bool false), (5, .slice a9 ((y_3).length) c10), (6, .slice a12 ((y_4).length) c13), (7, .int .i64 y_5), (28, .agg #[.int .i64 p0_0, .int .i64 p0_1, .int .i64 p0_2, .slice a_p0_3 p0_3.length c_p0_3]), (29, .slice a_p1 p1.length c_p1)] rfl ⟨rfl, rfl, rfl, rfl, rfl, rfl, rfl, rfl, trivial⟩ ?_
      obtain ⟨y_6, hc21, hm⟩ := bind_some hm
      refine WO_call0 (.int .i64 y_6) rfl rfl trivial rfl rfl rfl rfl St_closed ⟨16, #[], #[], rfl, callable_16, fun w hw => ⟨_, hw.sat, fiduciallaw21_code_walk (h_p0_3.mono (mono_FE _) hle18) (h_p1.mono (mono_FE _) hle18) hc21⟩⟩ ?_
      refine WO_pure tbok 1 [(1, .slice a_p1 p1.length c_p1), (2, .pointer (some ⟨b3, 0, none⟩)), (4, .bool false), (5, .slice a9 ((y_3).length) c10), (6, .slice a12 ((y_4).length) c13), (7, .int .i64 y_5), (8, .int .i64 y_6)] rfl ⟨rfl, rfl, rfl, rfl, rfl, rfl, rfl, trivial⟩ ?_
      refine WO_end ?_
      refine WK_seq ?_
      refine WK_region ?_
      refine WO_pure tbok 2 [(1, .slice a_p1 p1.length c_p1), (2, .pointer (some ⟨b3, 0, none⟩)), (4, .bool false), (5, .slice a9 ((y_3).length) c10), (6, .slice a12 ((y_4).length) c13), (7, .int .i64 y_5), (8, .int .i64 y_6), (32, .bool (y_6 != 0))] rfl ⟨rfl, rfl, rfl, rfl, rfl, rfl, rfl, rfl, trivial⟩ ?_
      refine WO_end ?_
      refine WK_cond (b := y_6 != 0) rfl (fun hb22 => ?_) (fun hb22 => ?_)
      · have hm := ifT hb22 hm
        refine WK_seq ?_
        refine WK_region ?_
        refine WO_pure tbok 4 [(1, .slice a_p1 p1.length c_p1), (2, .pointer (some ⟨b3, 0, none⟩)), (4, .bool false), (5, .slice a9 ((y_3).length) c10), (6, .slice a12 ((y_4).length) c13), (7, .int .i64 y_5), (36, .bool (y_5 == y_6))] rfl ⟨rfl, rfl, rfl, rfl, rfl, rfl, rfl, trivial⟩ ?_
        refine WO_split (d := 36) (b := y_5 == y_6) rfl (fun hb23 => ?_) (fun hb23 => ?_)
        · have hm := ifT hb23 hm
          refine WO_pure tbok 8 [(1, .slice a_p1 p1.length c_p1), (2, .pointer (some ⟨b3, 0, none⟩)), (4, .bool ((w64 (((y_3).length : Int) + ((y_4).length : Int))) == 0)), (5, .slice a9 ((y_3).length) c10), (6, .slice a12 ((y_4).length) c13), (7, .int .i64 y_5)] rfl ⟨rfl, rfl, rfl, rfl, rfl, rfl, trivial⟩ ?_
          refine WO_end ?_
          cases hm
          exact WK_ret (ret_out (L := []) (RLc_tmp rfl RLc_nil) (List.nil_sublist _) rfl)
        · have hm := ifF hb23 hm
          refine WO_pure tbok 8 [(1, .slice a_p1 p1.length c_p1), (2, .pointer (some ⟨b3, 0, none⟩)), (4, .bool false), (5, .slice a9 ((y_3).length) c10), (6, .slice a12 ((y_4).length) c13), (7, .int .i64 y_5)] rfl ⟨rfl, rfl, rfl, rfl, rfl, rfl, trivial⟩ ?_
          refine WO_end ?_
          cases hm
          exact WK_ret (ret_out (L := []) (RLc_tmp rfl RLc_nil) (List.nil_sublist _) rfl)
      · have hm := ifF hb22 hm
        refine WK_skip ?_
        refine WK_seq ?_
        refine WK_region ?_
        refine WO_pure tbok 1 [(1, .slice a_p1 p1.length c_p1), (2, .pointer (some ⟨b3, 0, none⟩)), (4, .bool false), (5, .slice a9 ((y_3).length) c10), (6, .slice a12 ((y_4).length) c13), (7, .int .i64 y_5), (9, .slice none 0 0)] rfl ⟨rfl, rfl, rfl, rfl, rfl, rfl, rfl, trivial⟩ ?_
        refine WO_end ?_
        refine WK_seq ?_
        refine WK_region ?_
        refine WO_pure tbok 1 [(1, .slice a_p1 p1.length c_p1), (2, .pointer (some ⟨b3, 0, none⟩)), (4, .bool false), (5, .slice a9 ((y_3).length) c10), (6, .slice a12 ((y_4).length) c13), (7, .int .i64 y_5), (9, .slice none 0 0), (10, .slice none 0 0)] rfl ⟨rfl, rfl, rfl, rfl, rfl, rfl, rfl, rfl, trivial⟩ ?_
        refine WO_end ?_
        refine WK_seq ?_
        refine WK_seq ?_
        refine WK_region ?_
        refine WO_pure tbok 1 [(1, .slice a_p1 p1.length c_p1), (2, .pointer (some ⟨b3, 0, none⟩)), (4, .bool false), (5, .slice a9 ((y_3).length) c10), (6, .slice a12 ((y_4).length) c13), (7, .int .i64 y_5), (9, .slice none 0 0), (10, .slice none 0 0), (44, .pointer (some ⟨b3, 1, none⟩))] rfl ⟨rfl, rfl, rfl, rfl, rfl, rfl, rfl, rfl, rfl, trivial⟩ ?_
        refine WO_loadB tbok 0 rfl rfl rfl rfl (fun _ h => h) rfl rfl ?_
        refine WO_pure tbok 1 [(1, .slice a_p1 p1.length c_p1), (2, .pointer (some ⟨b3, 0, none⟩)), (4, .bool false), (5, .slice a9 ((y_3).length) c10), (6, .slice a12 ((y_4).length) c13), (7, .int .i64 y_5), (9, .slice none 0 0), (10, .slice none 0 0), (45, .int .i64 p0_1), (46, .int .i64 0)] rfl ⟨rfl, rfl, rfl, rfl, rfl, rfl, rfl, rfl, rfl, rfl, trivial⟩ ?_
        refine WO_end ?_
        refine WK_pad ?_
        refine WK_pad ?_
        obtain ⟨x46, hx47, hm⟩ := bind_some hm
        refine WK_join (β := (List (Int × Int) × List Int) × (Option Addr × Nat × Nat × List Ent × Option Addr × Nat × Nat × List Ent)) (fun p => p.1 = x46 ∧ OwnE 58 2 T2 (.slice p.2.1 p.2.2.1 p.2.2.2.1) p.1.1 p.2.2.2.2.1 ∧ OwnE 22 1 (I1 .u64) (.slice p.2.2.2.2.2.1 p.2.2.2.2.2.2.1 p.2.2.2.2.2.2.2.1) p.1.2 p.2.2.2.2.2.2.2.2) (fun p => [(4, .bool false), (5, .slice a9 ((y_3).length) c10), (6, .slice a12 ((y_4).length) c13), (7, .int .i64 y_5), (9, .slice p.2.1 p.2.2.1 p.2.2.2.1), (10, .slice p.2.2.2.2.2.1 p.2.2.2.2.2.2.1 p.2.2.2.2.2.2.2.1)]) (fun p => St w0 m m17 [[⟨b3, 29, [.int .i64 p0_0, .int .i64 p0_1, .int .i64 p0_2, .slice a_p0_3 p0_3.length c_p0_3]⟩], L15, p.2.2.2.2.1, p.2.2.2.2.2.2.2.2]) ?_ (fun hk48 => ?_)
        · rintro ⟨⟨l_10, l_11⟩, ⟨a38, q39, c40, L37, a43, q44, c45, L42⟩⟩ ⟨hq54, hL37, hL42⟩
          subst hq54
          have hqq : q39 = l_10.length := OwnE.qlen hL37
          subst hqq
          have hqq : q44 = l_11.length := OwnE.qlen hL42
          subst hqq
          refine WK.sub (e' := [(4, .bool false), (5, .slice a9 ((y_3).length) c10), (6, .slice a12 ((y_4).length) c13), (7, .int .i64 y_5), (9, .slice a38 ((l_10).length) c40), (10, .slice a43 ((l_11).length) c45)]) ⟨rfl, rfl, rfl, rfl, rfl, rfl, trivial⟩ (WK.cls (C' := St w0 m m17 [[⟨b3, 29, [.int .i64 p0_0, .int .i64 p0_1, .int .i64 p0_2, .slice a_p0_3 p0_3.length c_p0_3]⟩], L15, L37, L42]) (fun _ h => h) ?_)
          refine WK_seq ?_
          refine WK_region ?_
          refine WO_pure tbok 3 [(4, .bool false), (5, .slice a9 ((y_3).length) c10), (6, .slice a12 ((y_4).length) c13), (9, .slice a38 ((l_10).length) c40), (10, .slice a43 ((l_11).length) c45), (77, .bool (y_5 == 0))] rfl ⟨rfl, rfl, rfl, rfl, rfl, rfl, trivial⟩ ?_
          refine WO_split (d := 77) (b := y_5 == 0) rfl (fun hb55 => ?_) (fun hb55 => ?_)
          · have hm := ifT hb55 hm
            refine WO_pure tbok 2 [(4, .bool false), (6, .slice a12 ((y_4).length) c13), (10, .slice a43 ((l_11).length) c45), (77, .bool true), (78, .slice a9 ((y_3).length) c10), (79, .slice a38 ((l_10).length) c40)] rfl ⟨rfl, rfl, rfl, rfl, rfl, rfl, trivial⟩ ?_
            obtain ⟨y_12, hc56, hm⟩ := bind_some hm
            refine WO_call0 (.bool y_12) rfl rfl trivial rfl rfl rfl rfl St_closed ⟨28, #[], #[], rfl, callable_28, fun w hw => ⟨_, hw.satV, slices_Equal_sapi_Pix_walk (h19.mono (mono_FE _) hw.leV) (OwnE.rd (E := T2) (k := 2) (fun _ => rfl) hL37 (fun _ hx => hw.memV (i := 2) rfl hx)) hc56⟩⟩ ?_
            refine WO_pure tbok 2 [(4, .bool false), (6, .slice a12 ((y_4).length) c13), (10, .slice a43 ((l_11).length) c45), (82, .bool y_12)] rfl ⟨rfl, rfl, rfl, rfl, trivial⟩ ?_
            refine WO_split (d := 82) (b := y_12) rfl (fun hb57 => ?_) (fun hb57 => ?_)
            · have hm := ifT hb57 hm
              refine WO_pure tbok 2 [(4, .bool false), (82, .bool true), (83, .slice a12 ((y_4).length) c13), (84, .slice a43 ((l_11).length) c45)] rfl ⟨rfl, rfl, rfl, rfl, trivial⟩ ?_
              obtain ⟨y_13, hc58, hm⟩ := bind_some hm
              refine WO_call0 (.bool y_13) rfl rfl trivial rfl rfl rfl rfl St_closed ⟨29, #[], #[], rfl, callable_29, fun w hw => ⟨_, hw.satV, slices_Equal_suint64_walk (h20.mono (mono_FE _) hw.leV) (OwnE.rd (E := (I1 .u64)) (k := 1) (fun _ => rfl) hL42 (fun _ hx => hw.memV (i := 3) rfl hx)) hc58⟩⟩ ?_
              refine WO_pure tbok 2 [(4, .bool y_13)] rfl ⟨rfl, trivial⟩ ?_
              refine WO_end ?_
              cases hm
              exact WK_ret (ret_out (L := []) (RLc_tmp rfl RLc_nil) (List.nil_sublist _) rfl)
            · have hm := ifF hb57 hm
              refine WO_pure tbok 2 [(4, .bool false), (82, .bool false)] rfl ⟨rfl, rfl, trivial⟩ ?_
              refine WO_skip rfl rfl ?_
              refine WO_pure tbok 2 [(4, .bool false)] rfl ⟨rfl, trivial⟩ ?_
              refine WO_end ?_
              cases hm
              exact WK_ret (ret_out (L := []) (RLc_tmp rfl RLc_nil) (List.nil_sublist _) rfl)
          · have hm := ifF hb55 hm
            refine WO_pure tbok 2 [(4, .bool false), (6, .slice a12 ((y_4).length) c13), (10, .slice a43 ((l_11).length) c45), (77, .bool false)] rfl ⟨rfl, rfl, rfl, rfl, trivial⟩ ?_
            refine WO_skip rfl rfl ?_
            refine WO_pure tbok 4 [(4, .bool false), (82, .bool false)] rfl ⟨rfl, rfl, trivial⟩ ?_
            refine WO_skip rfl rfl ?_
            refine WO_pure tbok 2 [(4, .bool false)] rfl ⟨rfl, trivial⟩ ?_
            refine WO_end ?_
            cases hm
            exact WK_ret (ret_out (L := []) (RLc_tmp rfl RLc_nil) (List.nil_sublist _) rfl)
        · refine WK_block ?_
          refine WK_loop (S := List (Int × Int) × List Int × Int) (G := Option Addr × Nat × Nat × List Ent × Option Addr × Nat × Nat × List Ent) (fun s => fiduciallaw21_DescriptorAll_s1 p0_0 p0_1 p0_2 p0_3 p1 s.1 s.2.1 s.2.2) (fun s g => [(1, .slice a_p1 p1.length c_p1), (2, .pointer (some ⟨b3, 0, none⟩)), (4, .bool false), (5, .slice a9 ((y_3).length) c10), (6, .slice a12 ((y_4).length) c13), (7, .int .i64 y_5), (9, .slice g.1 g.2.1 g.2.2.1), (10, .slice g.2.2.2.2.1 g.2.2.2.2.2.1 g.2.2.2.2.2.2.1), (45, .int .i64 p0_1), (46, .int .i64 s.2.2)]) (fun s g => St w0 m m17 [[⟨b3, 29, [.int .i64 p0_0, .int .i64 p0_1, .int .i64 p0_2, .slice a_p0_3 p0_3.length c_p0_3]⟩], L15, g.2.2.2.1, g.2.2.2.2.2.2.2]) (fun s g => OwnE 58 2 T2 (.slice g.1 g.2.1 g.2.2.1) s.1 g.2.2.2.1 ∧ OwnE 22 1 (I1 .u64) (.slice g.2.2.2.2.1 g.2.2.2.2.2.1 g.2.2.2.2.2.2.1) s.2.1 g.2.2.2.2.2.2.2) FUEL (([] : List (Int × Int)), ([] : List Int), 0) (none, 0, 0, [], none, 0, 0, []) x46 hx47 ⟨(OwnE.nil (T := 58) (k := 2) (E := T2) none), (OwnE.nil (T := 22) (k := 1) (E := (I1 .u64)) none)⟩ ⟨rfl, rfl, rfl, rfl, rfl, rfl, rfl, rfl, rfl, rfl, trivial⟩ (fun _ h => h) ?_
          rintro ⟨l_7, l_8, s_9⟩ ⟨a28, q29, c30, L27, a33, q34, c35, L32⟩ o50 fl51 hm49 ⟨hL27, hL32⟩ hn52 hd53
          have hm49 : fiduciallaw21_DescriptorAll_s1 p0_0 p0_1 p0_2 p0_3 p1 l_7 l_8 s_9 = some o50 := hm49
          unfold fiduciallaw21_DescriptorAll_s1 at hm49
          have hqq : q29 = l_7.length := OwnE.qlen hL27
          subst hqq
          have hqq : q34 = l_8.length := OwnE.qlen hL32
          subst hqq
          refine WK.sub (e' := [(1, .slice a_p1 p1.length c_p1), (2, .pointer (some ⟨b3, 0, none⟩)), (4, .bool false), (5, .slice a9 ((y_3).length) c10), (6, .slice a12 ((y_4).length) c13), (7, .int .i64 y_5), (9, .slice a28 ((l_7).length) c30), (10, .slice a33 ((l_8).length) c35), (45, .int .i64 p0_1), (46, .int .i64 s_9)]) ⟨rfl, rfl, rfl, rfl, rfl, rfl, rfl, rfl, rfl, rfl, trivial⟩ (WK.cls (C' := St w0 m m17 [[⟨b3, 29, [.int .i64 p0_0, .int .i64 p0_1, .int .i64 p0_2, .slice a_p0_3 p0_3.length c_p0_3]⟩], L15, L27, L32]) (fun _ h => h) ?_)
          refine WK_seq ?_
          refine WK_region ?_
          refine WO_pure tbok 1 [(1, .slice a_p1 p1.length c_p1), (2, .pointer (some ⟨b3, 0, none⟩)), (4, .bool false), (5, .slice a9 ((y_3).length) c10), (6, .slice a12 ((y_4).length) c13), (7, .int .i64 y_5), (9, .slice a28 ((l_7).length) c30), (10, .slice a33 ((l_8).length) c35), (45, .int .i64 p0_1), (46, .int .i64 s_9), (47, .bool (decide (s_9 < p0_1)))] rfl ⟨rfl, rfl, rfl, rfl, rfl, rfl, rfl, rfl, rfl, rfl, rfl, trivial⟩ ?_
          refine WO_end ?_
          refine WK_seq ?_
          refine WK_cond (b := decide (s_9 < p0_1)) rfl (fun hb59 => ?_) (fun hb59 => ?_)
          · have hm49 := ifT hb59 hm49
            refine WK_skip ?_
            refine WK_seq ?_
            refine WK_block ?_
            refine WK_seq ?_
            refine WK_region ?_
            refine WO_pure tbok 2 [(1, .slice a_p1 p1.length c_p1), (2, .pointer (some ⟨b3, 0, none⟩)), (4, .bool false), (5, .slice a9 ((y_3).length) c10), (6, .slice a12 ((y_4).length) c13), (7, .int .i64 y_5), (9, .slice a28 ((l_7).length) c30), (10, .slice a33 ((l_8).length) c35), (11, .int .i64 s_9), (45, .int .i64 p0_1), (46, .int .i64 s_9)] rfl ⟨rfl, rfl, rfl, rfl, rfl, rfl, rfl, rfl, rfl, rfl, rfl, trivial⟩ ?_
            refine WO_end ?_
            refine WK_seq ?_
            refine WK_region ?_
            refine WO_pure tbok 1 [(1, .slice a_p1 p1.length c_p1), (2, .pointer (some ⟨b3, 0, none⟩)), (4, .bool false), (5, .slice a9 ((y_3).length) c10), (6, .slice a12 ((y_4).length) c13), (7, .int .i64 y_5), (9, .slice a28 ((l_7).length) c30), (10, .slice a33 ((l_8).length) c35), (11, .int .i64 s_9), (45, .int .i64 p0_1), (46, .int .i64 s_9), (49, .pointer (some ⟨b3, 0, none⟩))] rfl ⟨rfl, rfl, rfl, rfl, rfl, rfl, rfl, rfl, rfl, rfl, rfl, rfl, trivial⟩ ?_
            refine WO_loadB tbok 0 rfl rfl rfl rfl (fun _ h => h) rfl rfl ?_
            refine WO_pure tbok 1 [(1, .slice a_p1 p1.length c_p1), (2, .pointer (some ⟨b3, 0, none⟩)), (4, .bool false), (5, .slice a9 ((y_3).length) c10), (6, .slice a12 ((y_4).length) c13), (7, .int .i64 y_5), (9, .slice a28 ((l_7).length) c30), (10, .slice a33 ((l_8).length) c35), (11, .int .i64 s_9), (45, .int .i64 p0_1), (46, .int .i64 s_9), (50, .int .i64 p0_0), (51, .int .i64 0)] rfl ⟨rfl, rfl, rfl, rfl, rfl, rfl, rfl, rfl, rfl, rfl, rfl, rfl, rfl, trivial⟩ ?_
            refine WO_end ?_
            obtain ⟨x80, hx81, hm49⟩ := bind_some hm49
            refine WK_join (β := (List (Int × Int) × List Int) × (Option Addr × Nat × Nat × List Ent × Option Addr × Nat × Nat × List Ent)) (fun p => p.1 = x80 ∧ OwnE 58 2 T2 (.slice p.2.1 p.2.2.1 p.2.2.2.1) p.1.1 p.2.2.2.2.1 ∧ OwnE 22 1 (I1 .u64) (.slice p.2.2.2.2.2.1 p.2.2.2.2.2.2.1 p.2.2.2.2.2.2.2.1) p.1.2 p.2.2.2.2.2.2.2.2) (fun p => [(1, .slice a_p1 p1.length c_p1), (2, .pointer (some ⟨b3, 0, none⟩)), (4, .bool false), (5, .slice a9 ((y_3).length) c10), (6, .slice a12 ((y_4).length) c13), (7, .int .i64 y_5), (9, .slice p.2.1 p.2.2.1 p.2.2.2.1), (10, .slice p.2.2.2.2.2.1 p.2.2.2.2.2.2.1 p.2.2.2.2.2.2.2.1), (45, .int .i64 p0_1), (46, .int .i64 s_9)]) (fun p => St w0 m m17 [[⟨b3, 29, [.int .i64 p0_0, .int .i64 p0_1, .int .i64 p0_2, .slice a_p0_3 p0_3.length c_p0_3]⟩], L15, p.2.2.2.2.1, p.2.2.2.2.2.2.2.2]) ?_ (fun hk82 => ?_)
            · rintro ⟨⟨l_17, l_18⟩, ⟨a72, q73, c74, L71, a77, q78, c79, L76⟩⟩ ⟨hq88, hL71, hL76⟩
              subst hq88
              have hqq : q73 = l_17.length := OwnE.qlen hL71
              subst hqq
              have hqq : q78 = l_18.length := OwnE.qlen hL76
              subst hqq
              refine WK.sub (e' := [(1, .slice a_p1 p1.length c_p1), (2, .pointer (some ⟨b3, 0, none⟩)), (4, .bool false), (5, .slice a9 ((y_3).length) c10), (6, .slice a12 ((y_4).length) c13), (7, .int .i64 y_5), (9, .slice a72 ((l_17).length) c74), (10, .slice a77 ((l_18).length) c79), (45, .int .i64 p0_1), (46, .int .i64 s_9)]) ⟨rfl, rfl, rfl, rfl, rfl, rfl, rfl, rfl, rfl, rfl, trivial⟩ (WK.cls (C' := St w0 m m17 [[⟨b3, 29, [.int .i64 p0_0, .int .i64 p0_1, .int .i64 p0_2, .slice a_p0_3 p0_3.length c_p0_3]⟩], L15, L71, L76]) (fun _ h => h) ?_)
              refine WK_blk ?_
              refine WK_region ?_
              refine WO_pure tbok 2 [(1, .slice a_p1 p1.length c_p1), (2, .pointer (some ⟨b3, 0, none⟩)), (4, .bool false), (5, .slice a9 ((y_3).length) c10), (6, .slice a12 ((y_4).length) c13), (7, .int .i64 y_5), (9, .slice a72 ((l_17).length) c74), (10, .slice a77 ((l_18).length) c79), (45, .int .i64 p0_1), (46, .int .i64 (w64 (s_9 + 1)))] rfl ⟨rfl, rfl, rfl, rfl, rfl, rfl, rfl, rfl, rfl, rfl, trivial⟩ ?_
              refine WO_end ?_
              cases hm49
              refine WK.sub ?_ (WK.cls (fun _ h => h) (hn52 _ (a72, (l_17).length, c74, L71, a77, (l_18).length, c79, L76) rfl ⟨hL71, hL76⟩))
              exact ⟨rfl, rfl, rfl, rfl, rfl, rfl, rfl, rfl, rfl, rfl, trivial⟩
            · refine WK_block ?_
              refine WK_loop (S := List (Int × Int) × List Int × Int) (G := Option Addr × Nat × Nat × List Ent × Option Addr × Nat × Nat × List Ent) (fun s => fiduciallaw21_DescriptorAll_s2 p0_0 p0_1 p0_2 p0_3 p1 s_9 s.1 s.2.1 s.2.2) (fun s g => [(1, .slice a_p1 p1.length c_p1), (2, .pointer (some ⟨b3, 0, none⟩)), (4, .bool false), (5, .slice a9 ((y_3).length) c10), (6, .slice a12 ((y_4).length) c13), (7, .int .i64 y_5), (9, .slice g.1 g.2.1 g.2.2.1), (10, .slice g.2.2.2.2.1 g.2.2.2.2.2.1 g.2.2.2.2.2.2.1), (11, .int .i64 s_9), (45, .int .i64 p0_1), (46, .int .i64 s_9), (50, .int .i64 p0_0), (51, .int .i64 s.2.2)]) (fun s g => St w0 m m17 [[⟨b3, 29, [.int .i64 p0_0, .int .i64 p0_1, .int .i64 p0_2, .slice a_p0_3 p0_3.length c_p0_3]⟩], L15, g.2.2.2.1, g.2.2.2.2.2.2.2]) (fun s g => OwnE 58 2 T2 (.slice g.1 g.2.1 g.2.2.1) s.1 g.2.2.2.1 ∧ OwnE 22 1 (I1 .u64) (.slice g.2.2.2.2.1 g.2.2.2.2.2.1 g.2.2.2.2.2.2.1) s.2.1 g.2.2.2.2.2.2.2) FUEL (l_7, l_8, 0) (a28, (l_7).length, c30, L27, a33, (l_8).length, c35, L32) x80 hx81 ⟨hL27, hL32⟩ ⟨rfl, rfl, rfl, rfl, rfl, rfl, rfl, rfl, rfl, rfl, rfl, rfl, rfl, trivial⟩ (fun _ h => h) ?_
              rintro ⟨l_14, l_15, s_16⟩ ⟨a62, q63, c64, L61, a67, q68, c69, L66⟩ o84 fl85 hm83 ⟨hL61, hL66⟩ hn86 hd87
              have hm83 : fiduciallaw21_DescriptorAll_s2 p0_0 p0_1 p0_2 p0_3 p1 s_9 l_14 l_15 s_16 = some o84 := hm83
              unfold fiduciallaw21_DescriptorAll_s2 at hm83
              have hqq : q63 = l_14.length := OwnE.qlen hL61
              subst hqq
              have hqq : q68 = l_15.length := OwnE.qlen hL66
              subst hqq
              refine WK.sub (e' := [(1, .slice a_p1 p1.length c_p1), (2, .pointer (some ⟨b3, 0, none⟩)), (4, .bool false), (5, .slice a9 ((y_3).length) c10), (6, .slice a12 ((y_4).length) c13), (7, .int .i64 y_5), (9, .slice a62 ((l_14).length) c64), (10, .slice a67 ((l_15).length) c69), (11, .int .i64 s_9), (45, .int .i64 p0_1), (46, .int .i64 s_9), (50, .int .i64 p0_0), (51, .int .i64 s_16)]) ⟨rfl, rfl, rfl, rfl, rfl, rfl, rfl, rfl, rfl, rfl, rfl, rfl, rfl, trivial⟩ (WK.cls (C' := St w0 m m17 [[⟨b3, 29, [.int .i64 p0_0, .int .i64 p0_1, .int .i64 p0_2, .slice a_p0_3 p0_3.length c_p0_3]⟩], L15, L61, L66]) (fun _ h => h) ?_)
              refine WK_seq ?_
              refine WK_region ?_
              refine WO_pure tbok 1 [(1, .slice a_p1 p1.length c_p1), (2, .pointer (some ⟨b3, 0, none⟩)), (4, .bool false), (5, .slice a9 ((y_3).length) c10), (6, .slice a12 ((y_4).length) c13), (7, .int .i64 y_5), (9, .slice a62 ((l_14).length) c64), (10, .slice a67 ((l_15).length) c69), (11, .int .i64 s_9), (45, .int .i64 p0_1), (46, .int .i64 s_9), (50, .int .i64 p0_0), (51, .int .i64 s_16), (52, .bool (decide (s_16 < p0_0)))] rfl ⟨rfl, rfl, rfl, rfl, rfl, rfl, rfl, rfl, rfl, rfl, rfl, rfl, rfl, rfl, trivial⟩ ?_
              refine WO_end ?_
              refine WK_seq ?_
              refine WK_cond (b := decide (s_16 < p0_0)) rfl (fun hb89 => ?_) (fun hb89 => ?_)
              · have hm83 := ifT hb89 hm83
                refine WK_skip ?_
                refine WK_seq ?_
                refine WK_block ?_
                refine WK_seq ?_
                refine WK_region ?_
                refine WO_pure tbok 2 [(1, .slice a_p1 p1.length c_p1), (2, .pointer (some ⟨b3, 0, none⟩)), (4, .bool false), (5, .slice a9 ((y_3).length) c10), (6, .slice a12 ((y_4).length) c13), (7, .int .i64 y_5), (9, .slice a62 ((l_14).length) c64), (10, .slice a67 ((l_15).length) c69), (11, .int .i64 s_9), (12, .int .i64 s_16), (45, .int .i64 p0_1), (46, .int .i64 s_9), (50, .int .i64 p0_0), (51, .int .i64 s_16)] rfl ⟨rfl, rfl, rfl, rfl, rfl, rfl, rfl, rfl, rfl, rfl, rfl, rfl, rfl, rfl, trivial⟩ ?_
                refine WO_end ?_
                refine WK_seq ?_
                refine WK_region ?_
                refine WO_loadB tbok 0 rfl rfl rfl rfl (fun _ h => h) rfl rfl ?_
                refine WO_pure tbok 3 [(1, .slice a_p1 p1.length c_p1), (2, .pointer (some ⟨b3, 0, none⟩)), (4, .bool false), (5, .slice a9 ((y_3).length) c10), (6, .slice a12 ((y_4).length) c13), (7, .int .i64 y_5), (9, .slice a62 ((l_14).length) c64), (10, .slice a67 ((l_15).length) c69), (11, .int .i64 s_9), (12, .int .i64 s_16), (45, .int .i64 p0_1), (46, .int .i64 s_9), (50, .int .i64 p0_0), (51, .int .i64 s_16), (55, .agg #[.int .i64 p0_0, .int .i64 p0_1, .int .i64 p0_2, .slice a_p0_3 p0_3.length c_p0_3]), (56, .slice a_p1 p1.length c_p1), (57, .int .i64 s_16), (58, .int .i64 s_9)] rfl ⟨rfl, rfl, rfl, rfl, rfl, rfl, rfl, rfl, rfl, rfl, rfl, rfl, rfl, rfl, rfl, rfl, rfl, rfl, trivial⟩ ?_
                obtain ⟨⟨y_19, y_20⟩, hc90, hm83⟩ := bind_some hm83
                refine WO_call0 (.tuple #[.int .u64 y_19, .bool y_20]) rfl rfl trivial rfl rfl rfl rfl St_closed ⟨18, #[], #[], rfl, callable_18, fun w hw => ⟨_, hw.sat, fiduciallaw21_word_walk (h_p0_3.mono (mono_FE _) hle18) (h_p1.mono (mono_FE _) hle18) hc90⟩⟩ ?_
                refine WO_pure tbok 5 [(1, .slice a_p1 p1.length c_p1), (2, .pointer (some ⟨b3, 0, none⟩)), (4, .bool false), (5, .slice a9 ((y_3).length) c10), (6, .slice a12 ((y_4).length) c13), (7, .int .i64 y_5), (9, .slice a62 ((l_14).length) c64), (10, .slice a67 ((l_15).length) c69), (11, .int .i64 s_9), (12, .int .i64 s_16), (13, .int .u64 y_19), (14, .bool y_20), (45, .int .i64 p0_1), (46, .int .i64 s_9), (50, .int .i64 p0_0), (51, .int .i64 s_16)] rfl ⟨rfl, rfl, rfl, rfl, rfl, rfl, rfl, rfl, rfl, rfl, rfl, rfl, rfl, rfl, rfl, rfl, trivial⟩ ?_
                refine WO_end ?_
                refine WK_seq ?_
                refine WK_region ?_
                refine WO_pure tbok 1 [(1, .slice a_p1 p1.length c_p1), (2, .pointer (some ⟨b3, 0, none⟩)), (4, .bool false), (5, .slice a9 ((y_3).length) c10), (6, .slice a12 ((y_4).length) c13), (7, .int .i64 y_5), (9, .slice a62 ((l_14).length) c64), (10, .slice a67 ((l_15).length) c69), (11, .int .i64 s_9), (12, .int .i64 s_16), (13, .int .u64 y_19), (45, .int .i64 p0_1), (46, .int .i64 s_9), (50, .int .i64 p0_0), (51, .int .i64 s_16), (62, .bool y_20)] rfl ⟨rfl, rfl, rfl, rfl, rfl, rfl, rfl, rfl, rfl, rfl, rfl, rfl, rfl, rfl, rfl, rfl, trivial⟩ ?_
                refine WO_end ?_
                obtain ⟨⟨l_21, l_22⟩, hx101, hm83⟩ := bind_some hm83
                refine WK_join (β := Option Addr × Nat × Nat × List Ent × Option Addr × Nat × Nat × List Ent) (fun p => OwnE 58 2 T2 (.slice p.1 p.2.1 p.2.2.1) l_21 p.2.2.2.1 ∧ OwnE 22 1 (I1 .u64) (.slice p.2.2.2.2.1 p.2.2.2.2.2.1 p.2.2.2.2.2.2.1) l_22 p.2.2.2.2.2.2.2) (fun p => [(1, .slice a_p1 p1.length c_p1), (2, .pointer (some ⟨b3, 0, none⟩)), (4, .bool false), (5, .slice a9 ((y_3).length) c10), (6, .slice a12 ((y_4).length) c13), (7, .int .i64 y_5), (9, .slice p.1 p.2.1 p.2.2.1), (10, .slice p.2.2.2.2.1 p.2.2.2.2.2.1 p.2.2.2.2.2.2.1), (11, .int .i64 s_9), (45, .int .i64 p0_1), (46, .int .i64 s_9), (50, .int .i64 p0_0), (51, .int .i64 s_16)]) (fun p => St w0 m m17 [[⟨b3, 29, [.int .i64 p0_0, .int .i64 p0_1, .int .i64 p0_2, .slice a_p0_3 p0_3.length c_p0_3]⟩], L15, p.2.2.2.1, p.2.2.2.2.2.2.2]) ?_ (fun hk102 => ?_)
                · rintro ⟨a93, q94, c95, L92, a98, q99, c100, L97⟩ ⟨hL92, hL97⟩
                  have hqq : q94 = l_21.length := OwnE.qlen hL92
                  subst hqq
                  have hqq : q99 = l_22.length := OwnE.qlen hL97
                  subst hqq
                  refine WK.sub (e' := [(1, .slice a_p1 p1.length c_p1), (2, .pointer (some ⟨b3, 0, none⟩)), (4, .bool false), (5, .slice a9 ((y_3).length) c10), (6, .slice a12 ((y_4).length) c13), (7, .int .i64 y_5), (9, .slice a93 ((l_21).length) c95), (10, .slice a98 ((l_22).length) c100), (11, .int .i64 s_9), (45, .int .i64 p0_1), (46, .int .i64 s_9), (50, .int .i64 p0_0), (51, .int .i64 s_16)]) ⟨rfl, rfl, rfl, rfl, rfl, rfl, rfl, rfl, rfl, rfl, rfl, rfl, rfl, trivial⟩ (WK.cls (C' := St w0 m m17 [[⟨b3, 29, [.int .i64 p0_0, .int .i64 p0_1, .int .i64 p0_2, .slice a_p0_3 p0_3.length c_p0_3]⟩], L15, L92, L97]) (fun _ h => h) ?_)
                  refine WK_blk ?_
                  refine WK_region ?_
                  refine WO_pure tbok 2 [(1, .slice a_p1 p1.length c_p1), (2, .pointer (some ⟨b3, 0, none⟩)), (4, .bool false), (5, .slice a9 ((y_3).length) c10), (6, .slice a12 ((y_4).length) c13), (7, .int .i64 y_5), (9, .slice a93 ((l_21).length) c95), (10, .slice a98 ((l_22).length) c100), (11, .int .i64 s_9), (45, .int .i64 p0_1), (46, .int .i64 s_9), (50, .int .i64 p0_0), (51, .int .i64 (w64 (s_16 + 1)))] rfl ⟨rfl, rfl, rfl, rfl, rfl, rfl, rfl, rfl, rfl, rfl, rfl, rfl, rfl, trivial⟩ ?_
                  refine WO_end ?_
                  cases hm83
                  refine WK.sub ?_ (WK.cls (fun _ h => h) (hn86 _ (a93, (l_21).length, c95, L92, a98, (l_22).length, c100, L97) rfl ⟨hL92, hL97⟩))
                  exact ⟨rfl, rfl, rfl, rfl, rfl, rfl, rfl, rfl, rfl, rfl, rfl, rfl, rfl, trivial⟩
                · refine WK_cond (b := y_20) rfl (fun hb103 => ?_) (fun hb103 => ?_)
                  · have hx101 := ifT hb103 hx101
                    refine WK_region ?_
                    refine WO_pure tbok 4 [(1, .slice a_p1 p1.length c_p1), (2, .pointer (some ⟨b3, 0, none⟩)), (4, .bool false), (5, .slice a9 ((y_3).length) c10), (6, .slice a12 ((y_4).length) c13), (7, .int .i64 y_5), (9, .slice a62 ((l_14).length) c64), (10, .slice a67 ((l_15).length) c69), (11, .int .i64 s_9), (13, .int .u64 y_19), (45, .int .i64 p0_1), (46, .int .i64 s_9), (50, .int .i64 p0_0), (51, .int .i64 s_16), (63, .slice a62 ((l_14).length) c64), (66, .agg #[.int .i64 s_16, .int .i64 s_9])] rfl ⟨rfl, rfl, rfl, rfl, rfl, rfl, rfl, rfl, rfl, rfl, rfl, rfl, rfl, rfl, rfl, rfl, trivial⟩ ?_
                    refine WO_bslice (E := T2) tbok (fun _ => rfl) (by decide) [.agg #[.int .i64 s_16, .int .i64 s_9]] ([(s_16, s_9)] : List (Int × Int)) rfl rfl trivial rfl rfl rfl rfl rfl rfl rfl rfl rfl rfl rfl rfl (fun b104 hb104 => ?_)
                    refine WO.cls (C' := St w0 m m17 [[⟨b3, 29, [.int .i64 p0_0, .int .i64 p0_1, .int .i64 p0_2, .slice a_p0_3 p0_3.length c_p0_3]⟩], L15, L61, L66, [⟨b104, 58, ([(s_16, s_9)] : List (Int × Int)).flatMap T2⟩]]) (fun _ h => h) ?_
                    obtain ⟨hc106, hx101⟩ := chk_some hx101
                    refine WO_append (E := T2) tbok (fun _ => rfl) 2 ([(s_16, s_9)] : List (Int × Int)) (fun _ _ => rfl) rfl rfl rfl rfl rfl rfl rfl rfl rfl rfl rfl rfl hL61 rfl (src_seg (j := 4) rfl) (ap_ok (by decide) hc106) (ap_max hc106) (fun a107 c108 L109 hL109 => ?_)
                    refine WO.cls (C' := St w0 m m17 [[⟨b3, 29, [.int .i64 p0_0, .int .i64 p0_1, .int .i64 p0_2, .slice a_p0_3 p0_3.length c_p0_3]⟩], L15, L109, L66, [⟨b104, 58, ([(s_16, s_9)] : List (Int × Int)).flatMap T2⟩]]) (fun _ h => h) ?_
                    refine WO_pure tbok 2 [(1, .slice a_p1 p1.length c_p1), (2, .pointer (some ⟨b3, 0, none⟩)), (4, .bool false), (5, .slice a9 ((y_3).length) c10), (6, .slice a12 ((y_4).length) c13), (7, .int .i64 y_5), (9, .slice a62 ((l_14).length) c64), (10, .slice a67 ((l_15).length) c69), (11, .int .i64 s_9), (45, .int .i64 p0_1), (46, .int .i64 s_9), (50, .int .i64 p0_0), (51, .int .i64 s_16), (68, .slice a107 ((l_14 ++ ([(s_16, s_9)] : List (Int × Int))).length) c108), (69, .slice a67 ((l_15).length) c69), (70, .int .u64 y_19)] rfl ⟨rfl, rfl, rfl, rfl, rfl, rfl, rfl, rfl, rfl, rfl, rfl, rfl, rfl, rfl, rfl, rfl, trivial⟩ ?_
                    refine WO_bslice (E := (I1 .u64)) tbok (fun _ => rfl) (by decide) [.int .u64 y_19] ([y_19] : List Int) rfl rfl trivial rfl rfl rfl rfl rfl rfl rfl rfl rfl rfl rfl rfl (fun b111 hb111 => ?_)
                    refine WO.cls (C' := St w0 m m17 [[⟨b3, 29, [.int .i64 p0_0, .int .i64 p0_1, .int .i64 p0_2, .slice a_p0_3 p0_3.length c_p0_3]⟩], L15, L109, L66, [⟨b104, 58, ([(s_16, s_9)] : List (Int × Int)).flatMap T2⟩], [⟨b111, 22, ([y_19] : List Int).flatMap (I1 .u64)⟩]]) (fun _ h => h) ?_
                    obtain ⟨hc113, hx101⟩ := chk_some hx101
                    refine WO_append (E := (I1 .u64)) tbok (fun _ => rfl) 3 ([y_19] : List Int) (fun _ _ => rfl) rfl rfl rfl rfl rfl rfl rfl rfl rfl rfl rfl rfl hL66 rfl (src_seg (j := 5) rfl) (ap_ok (by decide) hc113) (ap_max hc113) (fun a114 c115 L116 hL116 => ?_)
                    refine WO.cls (C' := St w0 m m17 [[⟨b3, 29, [.int .i64 p0_0, .int .i64 p0_1, .int .i64 p0_2, .slice a_p0_3 p0_3.length c_p0_3]⟩], L15, L109, L116, [⟨b104, 58, ([(s_16, s_9)] : List (Int × Int)).flatMap T2⟩], [⟨b111, 22, ([y_19] : List Int).flatMap (I1 .u64)⟩]]) (fun _ h => h) ?_
                    refine WO_pure tbok 2 [(1, .slice a_p1 p1.length c_p1), (2, .pointer (some ⟨b3, 0, none⟩)), (4, .bool false), (5, .slice a9 ((y_3).length) c10), (6, .slice a12 ((y_4).length) c13), (7, .int .i64 y_5), (9, .slice a107 ((l_14 ++ ([(s_16, s_9)] : List (Int × Int))).length) c108), (10, .slice a114 ((l_15 ++ ([y_19] : List Int)).length) c115), (11, .int .i64 s_9), (45, .int .i64 p0_1), (46, .int .i64 s_9), (50, .int .i64 p0_0), (51, .int .i64 s_16)] rfl ⟨rfl, rfl, rfl, rfl, rfl, rfl, rfl, rfl, rfl, rfl, rfl, rfl, rfl, trivial⟩ ?_
                    refine WO_end ?_
                    cases hx101
                    refine WK.sub ?_ (WK.cls (fun _ h => St.take 4 h) (hk102 ⟨a107, (l_14 ++ ([(s_16, s_9)] : List (Int × Int))).length, c108, L109, a114, (l_15 ++ ([y_19] : List Int)).length, c115, L116⟩ ⟨hL109, hL116⟩))
                    exact ⟨rfl, rfl, rfl, rfl, rfl, rfl, rfl, rfl, rfl, rfl, rfl, rfl, rfl, trivial⟩
                  · have hx101 := ifF hb103 hx101
                    refine WK_skip ?_
                    cases hx101
                    refine WK.sub ?_ (WK.cls (fun _ h => h) (hk102 ⟨a62, (l_14).length, c64, L61, a67, (l_15).length, c69, L66⟩ ⟨hL61, hL66⟩))
                    exact ⟨rfl, rfl, rfl, rfl, rfl, rfl, rfl, rfl, rfl, rfl, rfl, rfl, rfl, trivial⟩
              · have hm83 := ifF hb89 hm83
                refine WK_exit rfl ?_
                cases hm83
                refine WK.sub ?_ (WK.cls (fun _ h => h) (hk82 ((l_14, l_15), (a62, (l_14).length, c64, L61, a67, (l_15).length, c69, L66)) ⟨(hd87 _ rfl), hL61, hL66⟩))
                exact ⟨rfl, rfl, rfl, rfl, rfl, rfl, rfl, rfl, rfl, rfl, trivial⟩
          · have hm49 := ifF hb59 hm49
            refine WK_exit rfl ?_
            cases hm49
            refine WK.sub ?_ (WK.cls (fun _ h => h) (hk48 ((l_7, l_8), (a28, (l_7).length, c30, L27, a33, (l_8).length, c35, L32)) ⟨(hd53 _ rfl), hL27, hL32⟩))
            exact ⟨rfl, rfl, rfl, rfl, rfl, rfl, trivial⟩
def fiducialref13_Copy_Q (r : Int × Int × Int × List Int) : Value → List Ent → Prop := fun v L => ∃ (a0 : Option Addr) (q0 c0 : Nat), v = .agg #[.int .i64 r.1, .int .i64 r.2.1, .int .i64 r.2.2.1, .slice a0 q0 c0] ∧ OwnE 3 1 (I1 .i64) (.slice a0 q0 c0) r.2.2.2 L
theorem fiducialref13_Copy_walk {m : Mu} {p0_0 : Int} {p0_1 : Int} {p0_2 : Int} {p0_3 : List Int} {a_p0_3 : Option Addr} {q_p0_3 c_p0_3 : Nat} (h_p0_3 : SlR (FE (I1 .i64)) 1 m (.slice a_p0_3 q_p0_3 c_p0_3) p0_3) {r : Int × Int × Int × List Int} (hm : fiducialref13_Copy p0_0 p0_1 p0_2 p0_3 = some r) :
    Go.E.Spec Try.prog 30 [.agg #[.int .i64 p0_0, .int .i64 p0_1, .int .i64 p0_2, .slice a_p0_3 q_p0_3 c_p0_3]] m (fun v _ L => fiducialref13_Copy_Q r v L) := by
  refine Spec_enter Try.func30 rfl rfl rfl (fun w0 => ?_)
  refine WK.sub (e' := [(0, .agg #[.int .i64 p0_0, .int .i64 p0_1, .int .i64 p0_2, .slice a_p0_3 q_p0_3 c_p0_3])]) ⟨rfl, trivial⟩ ?_
  obtain rfl := SlR.qlen h_p0_3
  refine WK.sub (e' := [(0, .agg #[.int .i64 p0_0, .int .i64 p0_1, .int .i64 p0_2, .slice a_p0_3 p0_3.length c_p0_3])]) ⟨rfl, trivial⟩ ?_
  unfold fiducialref13_Copy at hm
  refine WK_seq ?_
  refine WK_region ?_
  refine WO_box [.int .i64 p0_0, .int .i64 p0_1, .int .i64 p0_2, .slice a_p0_3 p0_3.length c_p0_3] rfl rfl trivial rfl rfl rfl (fun b2 => ?_)
  refine WO.cls (C' := St w0 m m [[⟨b2, 29, [.int .i64 p0_0, .int .i64 p0_1, .int .i64 p0_2, .slice a_p0_3 p0_3.length c_p0_3]⟩]]) (fun _ h => h) ?_
  refine WO_alloc tbok [.int .i64 0, .int .i64 0, .int .i64 0, .slice none 0 0] rfl rfl trivial rfl rfl rfl rfl (fun b3 => ?_)
  refine WO.cls (C' := St w0 m m [[⟨b2, 29, [.int .i64 p0_0, .int .i64 p0_1, .int .i64 p0_2, .slice a_p0_3 p0_3.length c_p0_3]⟩], [⟨b3, 29, [.int .i64 0, .int .i64 0, .int .i64 0, .slice none 0 0]⟩]]) (fun _ h => h) ?_
  refine WO_end ?_
  refine WK_seq ?_
  refine WK_region ?_
  refine WO_bslice (E := (I1 .i64)) tbok (fun _ => rfl) (by decide) [] ([] : List Int) rfl rfl trivial rfl rfl rfl rfl rfl rfl rfl rfl rfl rfl rfl rfl (fun b4 hb4 => ?_)
  refine WO.cls (C' := St w0 m m [[⟨b2, 29, [.int .i64 p0_0, .int .i64 p0_1, .int .i64 p0_2, .slice a_p0_3 p0_3.length c_p0_3]⟩], [⟨b3, 29, [.int .i64 0, .int .i64 0, .int .i64 0, .slice none 0 0]⟩], [⟨b4, 3, ([] : List Int).flatMap (I1 .i64)⟩]]) (fun _ h => h) ?_
  refine WO_pure tbok 1 [(1, .pointer (some ⟨b2, 0, none⟩)), (2, .pointer (some ⟨b3, 0, none⟩)), (3, .slice (some ⟨b4, 0, none⟩) 0 0), (4, .pointer (some ⟨b2, 3, none⟩))] rfl ⟨rfl, rfl, rfl, rfl, trivial⟩ ?_
  refine WO_loadB tbok 0 rfl rfl rfl rfl (fun _ h => h) rfl rfl ?_
  obtain ⟨hc6, hm⟩ := chk_some hm
  refine WO_appendS (E := (I1 .i64)) tbok (fun _ => rfl) (by decide) (fun _ => rfl) 2 p0_3 rfl rfl rfl rfl rfl rfl rfl rfl rfl rfl rfl rfl hb4 rfl (fun w hw => ⟨_, hw.sat, h_p0_3⟩) (ap_ok (by decide) hc6) (ap_max hc6) (fun a7 c8 L9 hL9 => ?_)
  refine WO.cls (C' := St w0 m m [[⟨b2, 29, [.int .i64 p0_0, .int .i64 p0_1, .int .i64 p0_2, .slice a_p0_3 p0_3.length c_p0_3]⟩], [⟨b3, 29, [.int .i64 0, .int .i64 0, .int .i64 0, .slice none 0 0]⟩], L9]) (fun _ h => h) ?_
  refine WO_pure tbok 1 [(1, .pointer (some ⟨b2, 0, none⟩)), (2, .pointer (some ⟨b3, 0, none⟩)), (6, .slice a7 ((([] : List Int) ++ p0_3).length) c8), (7, .pointer (some ⟨b2, 3, none⟩))] rfl ⟨rfl, rfl, rfl, rfl, trivial⟩ ?_
  refine WO_storeB tbok 0 [.int .i64 p0_0, .int .i64 p0_1, .int .i64 p0_2, .slice a7 ((([] : List Int) ++ p0_3).length) c8] rfl rfl rfl rfl rfl rfl rfl ?_
  refine WO.cls (C' := St w0 m m [[⟨b2, 29, [.int .i64 p0_0, .int .i64 p0_1, .int .i64 p0_2, .slice a7 ((([] : List Int) ++ p0_3).length) c8]⟩], [⟨b3, 29, [.int .i64 0, .int .i64 0, .int .i64 0, .slice none 0 0]⟩], L9]) (fun _ h => h) ?_
  refine WO_end ?_
  refine WK_seq ?_
  refine WK_region ?_
  refine WO_loadB tbok 0 rfl rfl rfl rfl (fun _ h => h) rfl rfl ?_
  refine WO_storeB tbok 1 [.int .i64 p0_0, .int .i64 p0_1, .int .i64 p0_2, .slice a7 ((([] : List Int) ++ p0_3).length) c8] rfl rfl rfl rfl rfl rfl rfl ?_
  refine WO.cls (C' := St w0 m m [[⟨b2, 29, [.int .i64 p0_0, .int .i64 p0_1, .int .i64 p0_2, .slice a7 ((([] : List Int) ++ p0_3).length) c8]⟩], [⟨b3, 29, [.int .i64 p0_0, .int .i64 p0_1, .int .i64 p0_2, .slice a7 ((([] : List Int) ++ p0_3).length) c8]⟩], L9]) (fun _ h => h) ?_
  refine WO_end ?_
  cases hm
  exact WK_ret (ret_out (L := L9) (RLc_cell tbok 1 rfl rfl rfl RLc_nil) (seg_sub 2 rfl) ⟨a7, ((([] : List Int) ++ p0_3).length), c8, rfl, hL9⟩)
theorem fiduciallaw21_DescriptorGreys_c1_walk {m : Mu} {p0_0 : Int} {p0_1 : Int} {p0_2 : Int} {p0_3 : Int} {p0_4 : Int} {p0_5 : Int} {p0_6 : Int} {p0_7 : Int}   {r : Bool} (hm : fiduciallaw21_DescriptorGreys_c1 p0_0 p0_1 p0_2 p0_3 p0_4 p0_5 p0_6 p0_7 = some r) :
    Go.E.Spec Try.prog 32 [.agg #[.int .i64 p0_0, .int .i64 p0_1, .int .i64 p0_2, .int .i64 p0_3, .int .i64 p0_4, .int .i64 p0_5, .int .i64 p0_6, .int .i64 p0_7]] m (fun v _ _ => v = .bool r) := by
  refine Spec_enter Try.func32 rfl rfl rfl (fun w0 => ?_)
  refine WK.sub (e' := [(0, .agg #[.int .i64 p0_0, .int .i64 p0_1, .int .i64 p0_2, .int .i64 p0_3, .int .i64 p0_4, .int .i64 p0_5, .int .i64 p0_6, .int .i64 p0_7])]) ⟨rfl, trivial⟩ ?_
  refine WK.sub (e' := [(0, .agg #[.int .i64 p0_0, .int .i64 p0_1, .int .i64 p0_2, .int .i64 p0_3, .int .i64 p0_4, .int .i64 p0_5, .int .i64 p0_6, .int .i64 p0_7])]) ⟨rfl, trivial⟩ ?_
  unfold fiduciallaw21_DescriptorGreys_c1 at hm
  refine WK_seq ?_
  refine WK_region ?_
  refine WO_box [.int .i64 p0_0, .int .i64 p0_1, .int .i64 p0_2, .int .i64 p0_3, .int .i64 p0_4, .int .i64 p0_5, .int .i64 p0_6, .int .i64 p0_7] rfl rfl trivial rfl rfl rfl (fun b1 => ?_)
  refine WO.cls (C' := St w0 m m [[⟨b1, 46, [.int .i64 p0_0, .int .i64 p0_1, .int .i64 p0_2, .int .i64 p0_3, .int .i64 p0_4, .int .i64 p0_5, .int .i64 p0_6, .int .i64 p0_7]⟩]]) (fun _ h => h) ?_
  refine WO_pure tbok 1 [(1, .pointer (some ⟨b1, 0, none⟩)), (2, .bool false)] rfl ⟨rfl, rfl, trivial⟩ ?_
  refine WO_end ?_
  refine WK_seq ?_
  refine WK_region ?_
  refine WO_pure tbok 2 [(1, .pointer (some ⟨b1, 0, none⟩)), (2, .bool false), (4, .pointer (some ⟨b1, 2, none⟩))] rfl ⟨rfl, rfl, rfl, trivial⟩ ?_
  refine WO_loadB tbok 0 rfl rfl rfl rfl (fun _ h => h) rfl rfl ?_
  refine WO_pure tbok 2 [(1, .pointer (some ⟨b1, 0, none⟩)), (2, .bool false), (5, .int .i64 p0_2), (7, .pointer (some ⟨b1, 3, none⟩))] rfl ⟨rfl, rfl, rfl, rfl, trivial⟩ ?_
  refine WO_loadB tbok 0 rfl rfl rfl rfl (fun _ h => h) rfl rfl ?_
  refine WO_pure tbok 3 [(1, .pointer (some ⟨b1, 0, none⟩)), (2, .bool false), (9, .int .i64 (w64 (p0_2 * p0_3))), (11, .pointer (some ⟨b1, 6, none⟩))] rfl ⟨rfl, rfl, rfl, rfl, trivial⟩ ?_
  refine WO_loadB tbok 0 rfl rfl rfl rfl (fun _ h => h) rfl rfl ?_
  refine WO_pure tbok 3 [(2, .bool false), (13, .int .i64 (w64 ((w64 (p0_2 * p0_3)) * p0_6))), (15, .pointer (some ⟨b1, 7, none⟩))] rfl ⟨rfl, rfl, rfl, trivial⟩ ?_
  refine WO_loadB tbok 0 rfl rfl rfl rfl (fun _ h => h) rfl rfl ?_
  refine WO_pure tbok 3 [(2, .bool ((w64 ((w64 ((w64 (p0_2 * p0_3)) * p0_6)) * p0_7)) != 1))] rfl ⟨rfl, trivial⟩ ?_
  refine WO_end ?_
  cases hm
  exact WK_ret (ret_out (L := []) (RLc_tmp rfl RLc_nil) (List.nil_sublist _) rfl)
end Go.Proofs.Ytdgmeplpkehdnaa
