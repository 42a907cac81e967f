import Derived.Test.YtcaeieofjchpjaaTab
import Derived.Test.YtcaeieofjchpjaaM
import Derived.Test.YtcaeieofjchpjaaW5
set_option linter.unusedVariables false
set_option maxRecDepth 100000
set_option maxHeartbeats 4000000
namespace Go.Proofs.Ytcaeieofjchpjaa
open Go.E Go.RowKit
attribute [local irreducible] Go.E.WO Go.E.WK
def fiduciallaw48_kept_Q (r : Int × Int × Int × Int × Int × List Int × Int) : Value → Mu → List Ent → Prop := fun v m L => ∃ (a0 : Option Addr) (q0 c0 : Nat), v = .tuple #[.agg #[.int .i64 r.1, .int .i64 r.2.1, .int .i64 r.2.2.1, .int .i64 r.2.2.2.1, .int .i64 r.2.2.2.2.1, .slice a0 q0 c0], .int .i64 r.2.2.2.2.2.2] ∧ SlR (FE (I1 .i64)) 1 m (.slice a0 q0 c0) r.2.2.2.2.2.1
theorem fiduciallaw48_kept_walk {m : Mu} {p0_0 : Int} {p0_1 : Int} {p0_2 : Int} {p0_3 : Int} {p0_4 : Int} {p0_5 : List Int} {p1 : List Bool} {a_p0_5 : Option Addr} {q_p0_5 c_p0_5 : Nat} {a_p1 : Option Addr} {q_p1 c_p1 : Nat} (h_p0_5 : SlR (FE (I1 .i64)) 1 m (.slice a_p0_5 q_p0_5 c_p0_5) p0_5) (h_p1 : SlR (FE B1) 1 m (.slice a_p1 q_p1 c_p1) p1) {r : Int × Int × Int × Int × Int × List Int × Int} (hm : fiduciallaw48_kept p0_0 p0_1 p0_2 p0_3 p0_4 p0_5 p1 = some r) :
    Go.E.Spec Try.prog 34 [.agg #[.int .i64 p0_0, .int .i64 p0_1, .int .i64 p0_2, .int .i64 p0_3, .int .i64 p0_4, .slice a_p0_5 q_p0_5 c_p0_5], .slice a_p1 q_p1 c_p1] m (fiduciallaw48_kept_Q r) := by
  refine Spec_enter Try.func34 rfl rfl rfl (fun w0 => ?_)
  refine WK.sub (e' := [(0, .agg #[.int .i64 p0_0, .int .i64 p0_1, .int .i64 p0_2, .int .i64 p0_3, .int .i64 p0_4, .slice a_p0_5 q_p0_5 c_p0_5]), (1, .slice a_p1 q_p1 c_p1)]) ⟨rfl, rfl, trivial⟩ ?_
  obtain rfl := SlR.qlen h_p0_5
  obtain rfl := SlR.qlen h_p1
  refine WK.sub (e' := [(0, .agg #[.int .i64 p0_0, .int .i64 p0_1, .int .i64 p0_2, .int .i64 p0_3, .int .i64 p0_4, .slice a_p0_5 p0_5.length c_p0_5]), (1, .slice a_p1 p1.length c_p1)]) ⟨rfl, rfl, trivial⟩ ?_
  unfold fiduciallaw48_kept at hm
  refine WK_seq ?_
  refine WK_region ?_
  refine WO_box [.int .i64 p0_0, .int .i64 p0_1, .int .i64 p0_2, .int .i64 p0_3, .int .i64 p0_4, .slice a_p0_5 p0_5.length c_p0_5] rfl rfl trivial rfl rfl rfl (fun b3 => ?_)
  refine WO.cls (C' := St w0 m m [[⟨b3, 25, [.int .i64 p0_0, .int .i64 p0_1, .int .i64 p0_2, .int .i64 p0_3, .int .i64 p0_4, .slice a_p0_5 p0_5.length c_p0_5]⟩]]) (fun _ h => h) ?_
  refine WO_alloc tbok [.int .i64 0, .int .i64 0, .int .i64 0, .int .i64 0, .int .i64 0, .slice none 0 0] rfl rfl trivial rfl rfl rfl rfl (fun b4 => ?_)
  refine WO.cls (C' := St w0 m m [[⟨b3, 25, [.int .i64 p0_0, .int .i64 p0_1, .int .i64 p0_2, .int .i64 p0_3, .int .i64 p0_4, .slice a_p0_5 p0_5.length c_p0_5]⟩], [⟨b4, 25, [.int .i64 0, .int .i64 0, .int .i64 0, .int .i64 0, .int .i64 0, .slice none 0 0]⟩]]) (fun _ h => h) ?_
  refine WO_pure tbok 1 [(1, .slice a_p1 p1.length c_p1), (2, .pointer (some ⟨b3, 0, none⟩)), (4, .pointer (some ⟨b4, 0, none⟩)), (5, .int .i64 0)] rfl ⟨rfl, rfl, rfl, rfl, trivial⟩ ?_
  refine WO_end ?_
  refine WK_seq ?_
  refine WK_seq ?_
  refine WK_region ?_
  refine WO_loadB tbok 0 rfl rfl rfl rfl (fun _ h => h) rfl rfl ?_
  obtain ⟨y_1, hc5, hm⟩ := bind_some hm
  refine WO_call0 (.int .i64 y_1) rfl rfl trivial rfl rfl rfl rfl St_closed ⟨17, #[], #[], rfl, callable_17, fun w hw => ⟨_, hw.sat, fiduciallaw48_checked_walk h_p0_5 hc5⟩⟩ ?_
  refine WO_pure tbok 1 [(1, .slice a_p1 p1.length c_p1), (2, .pointer (some ⟨b3, 0, none⟩)), (4, .pointer (some ⟨b4, 0, none⟩)), (5, .int .i64 0), (6, .int .i64 y_1)] rfl ⟨rfl, rfl, rfl, rfl, rfl, trivial⟩ ?_
  refine WO_end ?_
  refine WK_seq ?_
  refine WK_region ?_
  refine WO_pure tbok 2 [(1, .slice a_p1 p1.length c_p1), (2, .pointer (some ⟨b3, 0, none⟩)), (4, .pointer (some ⟨b4, 0, none⟩)), (5, .int .i64 0), (6, .int .i64 y_1), (13, .bool (y_1 != 0))] rfl ⟨rfl, rfl, rfl, rfl, rfl, rfl, trivial⟩ ?_
  refine WO_end ?_
  refine WK_cond (b := y_1 != 0) rfl (fun hb6 => ?_) (fun hb6 => ?_)
  · have hm := ifT hb6 hm
    refine WK_seq ?_
    refine WK_region ?_
    refine WO_pure tbok 2 [(1, .slice a_p1 p1.length c_p1), (2, .pointer (some ⟨b3, 0, none⟩)), (4, .pointer (some ⟨b4, 0, none⟩)), (5, .int .i64 0), (14, .agg #[.int .i64 0, .int .i64 0, .int .i64 0, .int .i64 0, .int .i64 0, .slice none 0 0]), (15, .int .i64 y_1)] rfl ⟨rfl, rfl, rfl, rfl, rfl, rfl, trivial⟩ ?_
    refine WO_storeB tbok 1 [.int .i64 0, .int .i64 0, .int .i64 0, .int .i64 0, .int .i64 0, .slice none 0 0] rfl rfl rfl rfl rfl rfl rfl ?_
    refine WO.cls (C' := St w0 m m [[⟨b3, 25, [.int .i64 p0_0, .int .i64 p0_1, .int .i64 p0_2, .int .i64 p0_3, .int .i64 p0_4, .slice a_p0_5 p0_5.length c_p0_5]⟩], [⟨b4, 25, [.int .i64 0, .int .i64 0, .int .i64 0, .int .i64 0, .int .i64 0, .slice none 0 0]⟩]]) (fun _ h => h) ?_
    refine WO_pure tbok 1 [(1, .slice a_p1 p1.length c_p1), (2, .pointer (some ⟨b3, 0, none⟩)), (4, .pointer (some ⟨b4, 0, none⟩)), (5, .int .i64 y_1)] rfl ⟨rfl, rfl, rfl, rfl, trivial⟩ ?_
    refine WO_end ?_
    cases hm
    exact WK_ret (ret_out (L := []) (RLc_cell tbok 1 rfl rfl rfl (RLc_tmp rfl RLc_nil)) (List.nil_sublist _) ⟨none, 0, 0, rfl, SlR_nil⟩)
  · have hm := ifF hb6 hm
    refine WK_skip ?_
    refine WK_seq ?_
    refine WK_seq ?_
    refine WK_region ?_
    refine WO_pure tbok 3 [(1, .slice a_p1 p1.length c_p1), (2, .pointer (some ⟨b3, 0, none⟩)), (4, .pointer (some ⟨b4, 0, none⟩)), (5, .int .i64 0), (17, .int .i64 (p1.length : Int)), (18, .pointer (some ⟨b3, 5, none⟩))] rfl ⟨rfl, rfl, rfl, rfl, rfl, rfl, trivial⟩ ?_
    refine WO_loadB tbok 0 rfl rfl rfl rfl (fun _ h => h) rfl rfl ?_
    refine WO_pure tbok 2 [(1, .slice a_p1 p1.length c_p1), (2, .pointer (some ⟨b3, 0, none⟩)), (4, .pointer (some ⟨b4, 0, none⟩)), (5, .int .i64 0), (21, .bool ((p1.length : Int) != (p0_5.length : Int)))] rfl ⟨rfl, rfl, rfl, rfl, rfl, trivial⟩ ?_
    refine WO_end ?_
    refine WK_cond (b := (p1.length : Int) != (p0_5.length : Int)) rfl (fun hb7 => ?_) (fun hb7 => ?_)
    · have hm := ifT hb7 hm
      refine WK_seq ?_
      refine WK_region ?_
      refine WO_pure tbok 1 [(1, .slice a_p1 p1.length c_p1), (2, .pointer (some ⟨b3, 0, none⟩)), (4, .pointer (some ⟨b4, 0, none⟩)), (5, .int .i64 0), (22, .agg #[.int .i64 0, .int .i64 0, .int .i64 0, .int .i64 0, .int .i64 0, .slice none 0 0])] rfl ⟨rfl, rfl, rfl, rfl, rfl, trivial⟩ ?_
      refine WO_storeB tbok 1 [.int .i64 0, .int .i64 0, .int .i64 0, .int .i64 0, .int .i64 0, .slice none 0 0] rfl rfl rfl rfl rfl rfl rfl ?_
      refine WO.cls (C' := St w0 m m [[⟨b3, 25, [.int .i64 p0_0, .int .i64 p0_1, .int .i64 p0_2, .int .i64 p0_3, .int .i64 p0_4, .slice a_p0_5 p0_5.length c_p0_5]⟩], [⟨b4, 25, [.int .i64 0, .int .i64 0, .int .i64 0, .int .i64 0, .int .i64 0, .slice none 0 0]⟩]]) (fun _ h => h) ?_
      refine WO_pure tbok 1 [(1, .slice a_p1 p1.length c_p1), (2, .pointer (some ⟨b3, 0, none⟩)), (4, .pointer (some ⟨b4, 0, none⟩)), (5, .int .i64 4)] rfl ⟨rfl, rfl, rfl, rfl, trivial⟩ ?_
      refine WO_end ?_
      cases hm
      exact WK_ret (ret_out (L := []) (RLc_cell tbok 1 rfl rfl rfl (RLc_tmp rfl RLc_nil)) (List.nil_sublist _) ⟨none, 0, 0, rfl, SlR_nil⟩)
    · have hm := ifF hb7 hm
      refine WK_skip ?_
      refine WK_seq ?_
      refine WK_region ?_
      refine WO_pure tbok 1 [(1, .slice a_p1 p1.length c_p1), (2, .pointer (some ⟨b3, 0, none⟩)), (4, .pointer (some ⟨b4, 0, none⟩)), (5, .int .i64 0), (7, .slice none 0 0)] rfl ⟨rfl, rfl, rfl, rfl, rfl, trivial⟩ ?_
      refine WO_end ?_
      refine WK_seq ?_
      refine WK_seq ?_
      refine WK_region ?_
      refine WO_pure tbok 1 [(1, .slice a_p1 p1.length c_p1), (2, .pointer (some ⟨b3, 0, none⟩)), (4, .pointer (some ⟨b4, 0, none⟩)), (5, .int .i64 0), (7, .slice none 0 0), (23, .pointer (some ⟨b3, 5, none⟩))] rfl ⟨rfl, rfl, rfl, rfl, rfl, rfl, trivial⟩ ?_
      refine WO_loadB tbok 0 rfl rfl rfl rfl (fun _ h => h) rfl rfl ?_
      refine WO_pure tbok 2 [(1, .slice a_p1 p1.length c_p1), (2, .pointer (some ⟨b3, 0, none⟩)), (4, .pointer (some ⟨b4, 0, none⟩)), (5, .int .i64 0), (7, .slice none 0 0), (24, .slice a_p0_5 p0_5.length c_p0_5), (25, .int .i64 (p0_5.length : Int)), (26, .int .i64 0)] rfl ⟨rfl, rfl, rfl, rfl, rfl, rfl, rfl, rfl, trivial⟩ ?_
      refine WO_end ?_
      refine WK_pad ?_
      obtain ⟨x19, hx20, hm⟩ := bind_some hm
      refine WK_join (β := (List Int) × (Option Addr × Nat × Nat × List Ent)) (fun p => p.1 = x19 ∧ OwnE 3 1 (I1 .i64) (.slice p.2.1 p.2.2.1 p.2.2.2.1) p.1 p.2.2.2.2) (fun p => [(2, .pointer (some ⟨b3, 0, none⟩)), (4, .pointer (some ⟨b4, 0, none⟩)), (5, .int .i64 0), (7, .slice p.2.1 p.2.2.1 p.2.2.2.1)]) (fun p => St w0 m m [[⟨b3, 25, [.int .i64 p0_0, .int .i64 p0_1, .int .i64 p0_2, .int .i64 p0_3, .int .i64 p0_4, .slice a_p0_5 p0_5.length c_p0_5]⟩], [⟨b4, 25, [.int .i64 0, .int .i64 0, .int .i64 0, .int .i64 0, .int .i64 0, .slice none 0 0]⟩], p.2.2.2.2]) ?_ (fun hk21 => ?_)
      · rintro ⟨l_4, ⟨a16, q17, c18, L15⟩⟩ ⟨hq27, hL15⟩
        subst hq27
        have hqq : q17 = l_4.length := OwnE.qlen hL15
        subst hqq
        refine WK.sub (e' := [(2, .pointer (some ⟨b3, 0, none⟩)), (4, .pointer (some ⟨b4, 0, none⟩)), (5, .int .i64 0), (7, .slice a16 ((l_4).length) c18)]) ⟨rfl, rfl, rfl, rfl, trivial⟩ (WK.cls (C' := St w0 m m [[⟨b3, 25, [.int .i64 p0_0, .int .i64 p0_1, .int .i64 p0_2, .int .i64 p0_3, .int .i64 p0_4, .slice a_p0_5 p0_5.length c_p0_5]⟩], [⟨b4, 25, [.int .i64 0, .int .i64 0, .int .i64 0, .int .i64 0, .int .i64 0, .slice none 0 0]⟩], L15]) (fun _ h => h) ?_)
        refine WK_seq ?_
        refine WK_region ?_
        refine WO_loadB tbok 0 rfl rfl rfl rfl (fun _ h => h) rfl rfl ?_
        refine WO_pure tbok 1 [(4, .pointer (some ⟨b4, 0, none⟩)), (5, .int .i64 0), (41, .agg #[.int .i64 p0_0, .int .i64 p0_1, .int .i64 p0_2, .int .i64 p0_3, .int .i64 p0_4, .slice a_p0_5 p0_5.length c_p0_5]), (42, .slice a16 ((l_4).length) c18)] rfl ⟨rfl, rfl, rfl, rfl, trivial⟩ ?_
        refine WO_freeze 2 rfl (fun m28 hle29 hmm30 => ?_)
        refine WO.cls (C' := St w0 m m28 [[⟨b3, 25, [.int .i64 p0_0, .int .i64 p0_1, .int .i64 p0_2, .int .i64 p0_3, .int .i64 p0_4, .slice a_p0_5 p0_5.length c_p0_5]⟩], [⟨b4, 25, [.int .i64 0, .int .i64 0, .int .i64 0, .int .i64 0, .int .i64 0, .slice none 0 0]⟩], []]) (fun _ h => h) ?_
        obtain ⟨⟨y_5, y_6, y_7, y_8, y_9, y_10⟩, hc31, hm⟩ := bind_some hm
        refine WO_call2 (fiduciallaw48_with_Q (y_5, y_6, y_7, y_8, y_9, y_10)) rfl rfl trivial rfl rfl rfl rfl ⟨22, #[], #[], rfl, callable_22, fiduciallaw48_with_walk (h_p0_5.mono (mono_FE _) hle29) (OwnE.rd (E := (I1 .i64)) (k := 1) (fun _ => rfl) hL15 hmm30) hc31⟩ (fun v36 m37 L35 hle38 hq => ?_)
        obtain ⟨a32, qa32, c33, rfl, h39⟩ := hq
        obtain rfl := SlR.qlen h39
        refine WO.cls (C' := St w0 m m37 [[⟨b3, 25, [.int .i64 p0_0, .int .i64 p0_1, .int .i64 p0_2, .int .i64 p0_3, .int .i64 p0_4, .slice a_p0_5 p0_5.length c_p0_5]⟩], [⟨b4, 25, [.int .i64 0, .int .i64 0, .int .i64 0, .int .i64 0, .int .i64 0, .slice none 0 0]⟩], [], L35]) (fun _ h => h.sub (by simp)) ?_
        refine WO_storeB tbok 1 [.int .i64 y_5, .int .i64 y_6, .int .i64 y_7, .int .i64 y_8, .int .i64 y_9, .slice a32 ((y_10).length) c33] rfl rfl rfl rfl rfl rfl rfl ?_
        refine WO.cls (C' := St w0 m m37 [[⟨b3, 25, [.int .i64 p0_0, .int .i64 p0_1, .int .i64 p0_2, .int .i64 p0_3, .int .i64 p0_4, .slice a_p0_5 p0_5.length c_p0_5]⟩], [⟨b4, 25, [.int .i64 y_5, .int .i64 y_6, .int .i64 y_7, .int .i64 y_8, .int .i64 y_9, .slice a32 ((y_10).length) c33]⟩], [], L35]) (fun _ h => h) ?_
        refine WO_pure tbok 1 [(4, .pointer (some ⟨b4, 0, none⟩)), (5, .int .i64 0)] rfl ⟨rfl, rfl, trivial⟩ ?_
        refine WO_end ?_
        cases hm
        exact WK_ret (ret_out (L := []) (RLc_cell tbok 1 rfl rfl rfl (RLc_tmp rfl RLc_nil)) (List.nil_sublist _) ⟨a32, _, c33, rfl, h39⟩)
      · refine WK_block ?_
        refine WK_loop (S := List Int × Int) (G := Option Addr × Nat × Nat × List Ent) (fun s => fiduciallaw48_kept_s1 p0_5 p1 s.1 s.2) (fun s g => [(1, .slice a_p1 p1.length c_p1), (2, .pointer (some ⟨b3, 0, none⟩)), (4, .pointer (some ⟨b4, 0, none⟩)), (5, .int .i64 0), (7, .slice g.1 g.2.1 g.2.2.1), (24, .slice a_p0_5 p0_5.length c_p0_5), (25, .int .i64 (p0_5.length : Int)), (26, .int .i64 s.2)]) (fun s g => St w0 m m [[⟨b3, 25, [.int .i64 p0_0, .int .i64 p0_1, .int .i64 p0_2, .int .i64 p0_3, .int .i64 p0_4, .slice a_p0_5 p0_5.length c_p0_5]⟩], [⟨b4, 25, [.int .i64 0, .int .i64 0, .int .i64 0, .int .i64 0, .int .i64 0, .slice none 0 0]⟩], g.2.2.2]) (fun s g => OwnE 3 1 (I1 .i64) (.slice g.1 g.2.1 g.2.2.1) s.1 g.2.2.2) FUEL (([] : List Int), 0) (none, 0, 0, []) x19 hx20 (OwnE.nil (T := 3) (k := 1) (E := (I1 .i64)) none) ⟨rfl, rfl, rfl, rfl, rfl, rfl, rfl, rfl, trivial⟩ (fun _ h => h) ?_
        rintro ⟨l_2, s_3⟩ ⟨a11, q12, c13, L10⟩ o23 fl24 hm22 hL10 hn25 hd26
        have hm22 : fiduciallaw48_kept_s1 p0_5 p1 l_2 s_3 = some o23 := hm22
        unfold fiduciallaw48_kept_s1 at hm22
        have hqq : q12 = l_2.length := OwnE.qlen hL10
        subst hqq
        refine WK.sub (e' := [(1, .slice a_p1 p1.length c_p1), (2, .pointer (some ⟨b3, 0, none⟩)), (4, .pointer (some ⟨b4, 0, none⟩)), (5, .int .i64 0), (7, .slice a11 ((l_2).length) c13), (24, .slice a_p0_5 p0_5.length c_p0_5), (25, .int .i64 (p0_5.length : Int)), (26, .int .i64 s_3)]) ⟨rfl, rfl, rfl, rfl, rfl, rfl, rfl, rfl, trivial⟩ (WK.cls (C' := St w0 m m [[⟨b3, 25, [.int .i64 p0_0, .int .i64 p0_1, .int .i64 p0_2, .int .i64 p0_3, .int .i64 p0_4, .slice a_p0_5 p0_5.length c_p0_5]⟩], [⟨b4, 25, [.int .i64 0, .int .i64 0, .int .i64 0, .int .i64 0, .int .i64 0, .slice none 0 0]⟩], L10]) (fun _ h => h) ?_)
        refine WK_seq ?_
        refine WK_region ?_
        refine WO_pure tbok 1 [(1, .slice a_p1 p1.length c_p1), (2, .pointer (some ⟨b3, 0, none⟩)), (4, .pointer (some ⟨b4, 0, none⟩)), (5, .int .i64 0), (7, .slice a11 ((l_2).length) c13), (24, .slice a_p0_5 p0_5.length c_p0_5), (25, .int .i64 (p0_5.length : Int)), (26, .int .i64 s_3), (27, .bool (decide (s_3 < (p0_5.length : Int))))] rfl ⟨rfl, rfl, rfl, rfl, rfl, rfl, rfl, rfl, rfl, trivial⟩ ?_
        refine WO_end ?_
        refine WK_seq ?_
        refine WK_cond (b := decide (s_3 < (p0_5.length : Int))) rfl (fun hb40 => ?_) (fun hb40 => ?_)
        · have hm22 := ifT hb40 hm22
          refine WK_skip ?_
          refine WK_seq ?_
          refine WK_block ?_
          refine WK_seq ?_
          refine WK_region ?_
          refine WO_pure tbok 1 [(1, .slice a_p1 p1.length c_p1), (2, .pointer (some ⟨b3, 0, none⟩)), (4, .pointer (some ⟨b4, 0, none⟩)), (5, .int .i64 0), (7, .slice a11 ((l_2).length) c13), (24, .slice a_p0_5 p0_5.length c_p0_5), (25, .int .i64 (p0_5.length : Int)), (26, .int .i64 s_3), (28, .int .i64 s_3)] rfl ⟨rfl, rfl, rfl, rfl, rfl, rfl, rfl, rfl, rfl, trivial⟩ ?_
          obtain ⟨v_11, hy41, hm22⟩ := bind_some hm22
          obtain ⟨hc42, hy41⟩ := ix_some hy41
          refine WO_index tbok rfl rfl rfl rfl rfl rfl rfl rfl (SlR.addr h_p0_5) hc42 ?_
          refine WO_loadE tbok rfl rfl rfl rfl (fun _ h => St.sat h) h_p0_5 hy41 rfl ?_
          refine WO_pure tbok 2 [(1, .slice a_p1 p1.length c_p1), (2, .pointer (some ⟨b3, 0, none⟩)), (4, .pointer (some ⟨b4, 0, none⟩)), (5, .int .i64 0), (7, .slice a11 ((l_2).length) c13), (8, .int .i64 s_3), (9, .int .i64 v_11), (24, .slice a_p0_5 p0_5.length c_p0_5), (25, .int .i64 (p0_5.length : Int)), (26, .int .i64 s_3)] rfl ⟨rfl, rfl, rfl, rfl, rfl, rfl, rfl, rfl, rfl, rfl, trivial⟩ ?_
          refine WO_end ?_
          refine WK_seq ?_
          refine WK_seq ?_
          refine WK_region ?_
          refine WO_pure tbok 2 [(1, .slice a_p1 p1.length c_p1), (2, .pointer (some ⟨b3, 0, none⟩)), (4, .pointer (some ⟨b4, 0, none⟩)), (5, .int .i64 0), (7, .slice a11 ((l_2).length) c13), (9, .int .i64 v_11), (24, .slice a_p0_5 p0_5.length c_p0_5), (25, .int .i64 (p0_5.length : Int)), (26, .int .i64 s_3), (31, .slice a_p1 p1.length c_p1), (32, .int .i64 s_3)] rfl ⟨rfl, rfl, rfl, rfl, rfl, rfl, rfl, rfl, rfl, rfl, rfl, trivial⟩ ?_
          obtain ⟨v_12, hy43, hm22⟩ := bind_some hm22
          obtain ⟨hc44, hy43⟩ := ix_some hy43
          refine WO_index tbok rfl rfl rfl rfl rfl rfl rfl rfl (SlR.addr h_p1) hc44 ?_
          refine WO_loadE tbok rfl rfl rfl rfl (fun _ h => St.sat h) h_p1 hy43 rfl ?_
          refine WO_pure tbok 1 [(1, .slice a_p1 p1.length c_p1), (2, .pointer (some ⟨b3, 0, none⟩)), (4, .pointer (some ⟨b4, 0, none⟩)), (5, .int .i64 0), (7, .slice a11 ((l_2).length) c13), (9, .int .i64 v_11), (24, .slice a_p0_5 p0_5.length c_p0_5), (25, .int .i64 (p0_5.length : Int)), (26, .int .i64 s_3), (35, .bool (!v_12))] rfl ⟨rfl, rfl, rfl, rfl, rfl, rfl, rfl, rfl, rfl, rfl, trivial⟩ ?_
          refine WO_end ?_
          obtain ⟨s_13, hx45, hm22⟩ := bind_some hm22
          refine WK_meet [(1, .slice a_p1 p1.length c_p1), (2, .pointer (some ⟨b3, 0, none⟩)), (4, .pointer (some ⟨b4, 0, none⟩)), (5, .int .i64 0), (7, .slice a11 ((l_2).length) c13), (9, .int .i64 s_13), (24, .slice a_p0_5 p0_5.length c_p0_5), (25, .int .i64 (p0_5.length : Int)), (26, .int .i64 s_3)] (St w0 m m [[⟨b3, 25, [.int .i64 p0_0, .int .i64 p0_1, .int .i64 p0_2, .int .i64 p0_3, .int .i64 p0_4, .slice a_p0_5 p0_5.length c_p0_5]⟩], [⟨b4, 25, [.int .i64 0, .int .i64 0, .int .i64 0, .int .i64 0, .int .i64 0, .slice none 0 0]⟩], L10]) ?_ (fun hk46 => ?_)
          · refine WK_region ?_
            refine WO_pure tbok 2 [(1, .slice a_p1 p1.length c_p1), (2, .pointer (some ⟨b3, 0, none⟩)), (4, .pointer (some ⟨b4, 0, none⟩)), (5, .int .i64 0), (7, .slice a11 ((l_2).length) c13), (24, .slice a_p0_5 p0_5.length c_p0_5), (25, .int .i64 (p0_5.length : Int)), (26, .int .i64 s_3), (36, .slice a11 ((l_2).length) c13), (37, .int .i64 s_13)] rfl ⟨rfl, rfl, rfl, rfl, rfl, rfl, rfl, rfl, rfl, rfl, trivial⟩ ?_
            refine WO_bslice (E := (I1 .i64)) tbok (fun _ => rfl) (by decide) [.int .i64 s_13] ([s_13] : List Int) rfl rfl trivial rfl rfl rfl rfl rfl rfl rfl rfl rfl rfl rfl rfl (fun b47 hb47 => ?_)
            refine WO.cls (C' := St w0 m m [[⟨b3, 25, [.int .i64 p0_0, .int .i64 p0_1, .int .i64 p0_2, .int .i64 p0_3, .int .i64 p0_4, .slice a_p0_5 p0_5.length c_p0_5]⟩], [⟨b4, 25, [.int .i64 0, .int .i64 0, .int .i64 0, .int .i64 0, .int .i64 0, .slice none 0 0]⟩], L10, [⟨b47, 3, ([s_13] : List Int).flatMap (I1 .i64)⟩]]) (fun _ h => h) ?_
            obtain ⟨hc49, hm22⟩ := chk_some hm22
            refine WO_append (E := (I1 .i64)) tbok (fun _ => rfl) 2 ([s_13] : List Int) (fun _ _ => rfl) rfl rfl rfl rfl rfl rfl rfl rfl rfl rfl rfl rfl hL10 rfl (src_seg (j := 3) rfl) (ap_ok (by decide) hc49) (ap_max hc49) (fun a50 c51 L52 hL52 => ?_)
            refine WO.cls (C' := St w0 m m [[⟨b3, 25, [.int .i64 p0_0, .int .i64 p0_1, .int .i64 p0_2, .int .i64 p0_3, .int .i64 p0_4, .slice a_p0_5 p0_5.length c_p0_5]⟩], [⟨b4, 25, [.int .i64 0, .int .i64 0, .int .i64 0, .int .i64 0, .int .i64 0, .slice none 0 0]⟩], L52, [⟨b47, 3, ([s_13] : List Int).flatMap (I1 .i64)⟩]]) (fun _ h => h) ?_
            refine WO_pure tbok 1 [(1, .slice a_p1 p1.length c_p1), (2, .pointer (some ⟨b3, 0, none⟩)), (4, .pointer (some ⟨b4, 0, none⟩)), (5, .int .i64 0), (7, .slice a50 ((l_2 ++ ([s_13] : List Int)).length) c51), (24, .slice a_p0_5 p0_5.length c_p0_5), (25, .int .i64 (p0_5.length : Int)), (26, .int .i64 s_3)] rfl ⟨rfl, rfl, rfl, rfl, rfl, rfl, rfl, rfl, trivial⟩ ?_
            refine WO_end ?_
            refine WK_blk ?_
            refine WK_region ?_
            refine WO_pure tbok 2 [(1, .slice a_p1 p1.length c_p1), (2, .pointer (some ⟨b3, 0, none⟩)), (4, .pointer (some ⟨b4, 0, none⟩)), (5, .int .i64 0), (7, .slice a50 ((l_2 ++ ([s_13] : List Int)).length) c51), (24, .slice a_p0_5 p0_5.length c_p0_5), (25, .int .i64 (p0_5.length : Int)), (26, .int .i64 (w64 (s_3 + 1)))] rfl ⟨rfl, rfl, rfl, rfl, rfl, rfl, rfl, rfl, trivial⟩ ?_
            refine WO_end ?_
            cases hm22
            refine WK.sub ?_ (WK.cls (fun _ h => St.take 3 h) (hn25 _ (a50, (l_2 ++ ([s_13] : List Int)).length, c51, L52) rfl hL52))
            exact ⟨rfl, rfl, rfl, rfl, rfl, rfl, rfl, rfl, trivial⟩
          · refine WK_cond (b := !v_12) rfl (fun hb54 => ?_) (fun hb54 => ?_)
            · have hx45 := ifT hb54 hx45
              refine WK_region ?_
              refine WO_pure tbok 1 [(1, .slice a_p1 p1.length c_p1), (2, .pointer (some ⟨b3, 0, none⟩)), (4, .pointer (some ⟨b4, 0, none⟩)), (5, .int .i64 0), (7, .slice a11 ((l_2).length) c13), (9, .int .i64 (-2147483648)), (24, .slice a_p0_5 p0_5.length c_p0_5), (25, .int .i64 (p0_5.length : Int)), (26, .int .i64 s_3)] rfl ⟨rfl, rfl, rfl, rfl, rfl, rfl, rfl, rfl, rfl, trivial⟩ ?_
              refine WO_end ?_
              cases hx45
              refine WK.sub ?_ (WK.cls (fun _ h => h) hk46)
              exact ⟨rfl, rfl, rfl, rfl, rfl, rfl, rfl, rfl, rfl, trivial⟩
            · have hx45 := ifF hb54 hx45
              refine WK_skip ?_
              cases hx45
              refine WK.sub ?_ (WK.cls (fun _ h => h) hk46)
              exact ⟨rfl, rfl, rfl, rfl, rfl, rfl, rfl, rfl, rfl, trivial⟩
        · have hm22 := ifF hb40 hm22
          refine WK_exit rfl ?_
          cases hm22
          refine WK.sub ?_ (WK.cls (fun _ h => h) (hk21 (l_2, (a11, _, c13, L10)) ⟨(hd26 _ rfl), hL10⟩))
          exact ⟨rfl, rfl, rfl, rfl, trivial⟩
def fiduciallaw48_filled_Q (r : Int × Int × Int × Int × Int × List Int × Int) : Value → Mu → List Ent → Prop := fun v m L => ∃ (a0 : Option Addr) (q0 c0 : Nat), v = .tuple #[.agg #[.int .i64 r.1, .int .i64 r.2.1, .int .i64 r.2.2.1, .int .i64 r.2.2.2.1, .int .i64 r.2.2.2.2.1, .slice a0 q0 c0], .int .i64 r.2.2.2.2.2.2] ∧ SlR (FE (I1 .i64)) 1 m (.slice a0 q0 c0) r.2.2.2.2.2.1
theorem fiduciallaw48_filled_walk {m : Mu} {p0_0 : Int} {p0_1 : Int} {p0_2 : Int} {p0_3 : Int} {p0_4 : Int} {p0_5 : List Int} {a_p0_5 : Option Addr} {q_p0_5 c_p0_5 : Nat} (h_p0_5 : SlR (FE (I1 .i64)) 1 m (.slice a_p0_5 q_p0_5 c_p0_5) p0_5) {r : Int × Int × Int × Int × Int × List Int × Int} (hm : fiduciallaw48_filled p0_0 p0_1 p0_2 p0_3 p0_4 p0_5 = some r) :
    Go.E.Spec Try.prog 36 [.agg #[.int .i64 p0_0, .int .i64 p0_1, .int .i64 p0_2, .int .i64 p0_3, .int .i64 p0_4, .slice a_p0_5 q_p0_5 c_p0_5]] m (fiduciallaw48_filled_Q r) := by
  refine Spec_enter Try.func36 rfl rfl rfl (fun w0 => ?_)
  refine WK.sub (e' := [(0, .agg #[.int .i64 p0_0, .int .i64 p0_1, .int .i64 p0_2, .int .i64 p0_3, .int .i64 p0_4, .slice a_p0_5 q_p0_5 c_p0_5])]) ⟨rfl, trivial⟩ ?_
  obtain rfl := SlR.qlen h_p0_5
  refine WK.sub (e' := [(0, .agg #[.int .i64 p0_0, .int .i64 p0_1, .int .i64 p0_2, .int .i64 p0_3, .int .i64 p0_4, .slice a_p0_5 p0_5.length c_p0_5])]) ⟨rfl, trivial⟩ ?_
  unfold fiduciallaw48_filled at hm
  refine WK_seq ?_
  refine WK_region ?_
  refine WO_box [.int .i64 p0_0, .int .i64 p0_1, .int .i64 p0_2, .int .i64 p0_3, .int .i64 p0_4, .slice a_p0_5 p0_5.length c_p0_5] rfl rfl trivial rfl rfl rfl (fun b2 => ?_)
  refine WO.cls (C' := St w0 m m [[⟨b2, 25, [.int .i64 p0_0, .int .i64 p0_1, .int .i64 p0_2, .int .i64 p0_3, .int .i64 p0_4, .slice a_p0_5 p0_5.length c_p0_5]⟩]]) (fun _ h => h) ?_
  refine WO_alloc tbok [.int .i64 0, .int .i64 0, .int .i64 0, .int .i64 0, .int .i64 0, .slice none 0 0] rfl rfl trivial rfl rfl rfl rfl (fun b3 => ?_)
  refine WO.cls (C' := St w0 m m [[⟨b2, 25, [.int .i64 p0_0, .int .i64 p0_1, .int .i64 p0_2, .int .i64 p0_3, .int .i64 p0_4, .slice a_p0_5 p0_5.length c_p0_5]⟩], [⟨b3, 25, [.int .i64 0, .int .i64 0, .int .i64 0, .int .i64 0, .int .i64 0, .slice none 0 0]⟩]]) (fun _ h => h) ?_
  refine WO_pure tbok 1 [(1, .pointer (some ⟨b2, 0, none⟩)), (2, .pointer (some ⟨b3, 0, none⟩)), (3, .int .i64 0)] rfl ⟨rfl, rfl, rfl, trivial⟩ ?_
  refine WO_end ?_
  refine WK_seq ?_
  refine WK_seq ?_
  refine WK_region ?_
  refine WO_loadB tbok 0 rfl rfl rfl rfl (fun _ h => h) rfl rfl ?_
  obtain ⟨y_1, hc4, hm⟩ := bind_some hm
  refine WO_call0 (.int .i64 y_1) rfl rfl trivial rfl rfl rfl rfl St_closed ⟨17, #[], #[], rfl, callable_17, fun w hw => ⟨_, hw.sat, fiduciallaw48_checked_walk h_p0_5 hc4⟩⟩ ?_
  refine WO_pure tbok 1 [(1, .pointer (some ⟨b2, 0, none⟩)), (2, .pointer (some ⟨b3, 0, none⟩)), (3, .int .i64 0), (4, .int .i64 y_1)] rfl ⟨rfl, rfl, rfl, rfl, trivial⟩ ?_
  refine WO_end ?_
  refine WK_seq ?_
  refine WK_region ?_
  refine WO_pure tbok 2 [(1, .pointer (some ⟨b2, 0, none⟩)), (2, .pointer (some ⟨b3, 0, none⟩)), (3, .int .i64 0), (4, .int .i64 y_1), (17, .bool (y_1 != 0))] rfl ⟨rfl, rfl, rfl, rfl, rfl, trivial⟩ ?_
  refine WO_end ?_
  refine WK_cond (b := y_1 != 0) rfl (fun hb5 => ?_) (fun hb5 => ?_)
  · have hm := ifT hb5 hm
    refine WK_seq ?_
    refine WK_region ?_
    refine WO_pure tbok 2 [(1, .pointer (some ⟨b2, 0, none⟩)), (2, .pointer (some ⟨b3, 0, none⟩)), (3, .int .i64 0), (18, .agg #[.int .i64 0, .int .i64 0, .int .i64 0, .int .i64 0, .int .i64 0, .slice none 0 0]), (19, .int .i64 y_1)] rfl ⟨rfl, rfl, rfl, rfl, rfl, trivial⟩ ?_
    refine WO_storeB tbok 1 [.int .i64 0, .int .i64 0, .int .i64 0, .int .i64 0, .int .i64 0, .slice none 0 0] rfl rfl rfl rfl rfl rfl rfl ?_
    refine WO.cls (C' := St w0 m m [[⟨b2, 25, [.int .i64 p0_0, .int .i64 p0_1, .int .i64 p0_2, .int .i64 p0_3, .int .i64 p0_4, .slice a_p0_5 p0_5.length c_p0_5]⟩], [⟨b3, 25, [.int .i64 0, .int .i64 0, .int .i64 0, .int .i64 0, .int .i64 0, .slice none 0 0]⟩]]) (fun _ h => h) ?_
    refine WO_pure tbok 1 [(1, .pointer (some ⟨b2, 0, none⟩)), (2, .pointer (some ⟨b3, 0, none⟩)), (3, .int .i64 y_1)] rfl ⟨rfl, rfl, rfl, trivial⟩ ?_
    refine WO_end ?_
    cases hm
    exact WK_ret (ret_out (L := []) (RLc_cell tbok 1 rfl rfl rfl (RLc_tmp rfl RLc_nil)) (List.nil_sublist _) ⟨none, 0, 0, rfl, SlR_nil⟩)
  · have hm := ifF hb5 hm
    refine WK_skip ?_
    refine WK_seq ?_
    refine WK_region ?_
    refine WO_pure tbok 1 [(1, .pointer (some ⟨b2, 0, none⟩)), (2, .pointer (some ⟨b3, 0, none⟩)), (3, .int .i64 0), (5, .slice none 0 0)] rfl ⟨rfl, rfl, rfl, rfl, trivial⟩ ?_
    refine WO_end ?_
    refine WK_seq ?_
    refine WK_seq ?_
    refine WK_region ?_
    refine WO_pure tbok 1 [(1, .pointer (some ⟨b2, 0, none⟩)), (2, .pointer (some ⟨b3, 0, none⟩)), (3, .int .i64 0), (5, .slice none 0 0), (20, .pointer (some ⟨b2, 5, none⟩))] rfl ⟨rfl, rfl, rfl, rfl, rfl, trivial⟩ ?_
    refine WO_loadB tbok 0 rfl rfl rfl rfl (fun _ h => h) rfl rfl ?_
    refine WO_pure tbok 2 [(1, .pointer (some ⟨b2, 0, none⟩)), (2, .pointer (some ⟨b3, 0, none⟩)), (3, .int .i64 0), (5, .slice none 0 0), (21, .slice a_p0_5 p0_5.length c_p0_5), (22, .int .i64 (p0_5.length : Int)), (23, .int .i64 0)] rfl ⟨rfl, rfl, rfl, rfl, rfl, rfl, rfl, trivial⟩ ?_
    refine WO_end ?_
    refine WK_pad ?_
    obtain ⟨x17, hx18, hm⟩ := bind_some hm
    refine WK_join (β := (List Int) × (Option Addr × Nat × Nat × List Ent)) (fun p => Sum.inr p.1 = x17 ∧ OwnE 3 1 (I1 .i64) (.slice p.2.1 p.2.2.1 p.2.2.2.1) p.1 p.2.2.2.2) (fun p => [(1, .pointer (some ⟨b2, 0, none⟩)), (2, .pointer (some ⟨b3, 0, none⟩)), (3, .int .i64 0), (5, .slice p.2.1 p.2.2.1 p.2.2.2.1)]) (fun p => St w0 m m [[⟨b2, 25, [.int .i64 p0_0, .int .i64 p0_1, .int .i64 p0_2, .int .i64 p0_3, .int .i64 p0_4, .slice a_p0_5 p0_5.length c_p0_5]⟩], [⟨b3, 25, [.int .i64 0, .int .i64 0, .int .i64 0, .int .i64 0, .int .i64 0, .slice none 0 0]⟩], p.2.2.2.2]) ?_ (fun hk19 => ?_)
    · rintro ⟨l_4, ⟨a14, q15, c16, L13⟩⟩ ⟨hq25, hL13⟩
      subst hq25
      have hqq : q15 = l_4.length := OwnE.qlen hL13
      subst hqq
      refine WK.sub (e' := [(1, .pointer (some ⟨b2, 0, none⟩)), (2, .pointer (some ⟨b3, 0, none⟩)), (3, .int .i64 0), (5, .slice a14 ((l_4).length) c16)]) ⟨rfl, rfl, rfl, rfl, trivial⟩ (WK.cls (C' := St w0 m m [[⟨b2, 25, [.int .i64 p0_0, .int .i64 p0_1, .int .i64 p0_2, .int .i64 p0_3, .int .i64 p0_4, .slice a_p0_5 p0_5.length c_p0_5]⟩], [⟨b3, 25, [.int .i64 0, .int .i64 0, .int .i64 0, .int .i64 0, .int .i64 0, .slice none 0 0]⟩], L13]) (fun _ h => h) ?_)
      refine WK_seq ?_
      refine WK_region ?_
      refine WO_loadB tbok 0 rfl rfl rfl rfl (fun _ h => h) rfl rfl ?_
      refine WO_pure tbok 1 [(2, .pointer (some ⟨b3, 0, none⟩)), (3, .int .i64 0), (97, .agg #[.int .i64 p0_0, .int .i64 p0_1, .int .i64 p0_2, .int .i64 p0_3, .int .i64 p0_4, .slice a_p0_5 p0_5.length c_p0_5]), (98, .slice a14 ((l_4).length) c16)] rfl ⟨rfl, rfl, rfl, rfl, trivial⟩ ?_
      refine WO_freeze 2 rfl (fun m26 hle27 hmm28 => ?_)
      refine WO.cls (C' := St w0 m m26 [[⟨b2, 25, [.int .i64 p0_0, .int .i64 p0_1, .int .i64 p0_2, .int .i64 p0_3, .int .i64 p0_4, .slice a_p0_5 p0_5.length c_p0_5]⟩], [⟨b3, 25, [.int .i64 0, .int .i64 0, .int .i64 0, .int .i64 0, .int .i64 0, .slice none 0 0]⟩], []]) (fun _ h => h) ?_
      obtain ⟨⟨y_5, y_6, y_7, y_8, y_9, y_10⟩, hc29, hm⟩ := bind_some hm
      refine WO_call2 (fiduciallaw48_with_Q (y_5, y_6, y_7, y_8, y_9, y_10)) rfl rfl trivial rfl rfl rfl rfl ⟨22, #[], #[], rfl, callable_22, fiduciallaw48_with_walk (h_p0_5.mono (mono_FE _) hle27) (OwnE.rd (E := (I1 .i64)) (k := 1) (fun _ => rfl) hL13 hmm28) hc29⟩ (fun v34 m35 L33 hle36 hq => ?_)
      obtain ⟨a30, qa30, c31, rfl, h37⟩ := hq
      obtain rfl := SlR.qlen h37
      refine WO.cls (C' := St w0 m m35 [[⟨b2, 25, [.int .i64 p0_0, .int .i64 p0_1, .int .i64 p0_2, .int .i64 p0_3, .int .i64 p0_4, .slice a_p0_5 p0_5.length c_p0_5]⟩], [⟨b3, 25, [.int .i64 0, .int .i64 0, .int .i64 0, .int .i64 0, .int .i64 0, .slice none 0 0]⟩], [], L33]) (fun _ h => h.sub (by simp)) ?_
      refine WO_storeB tbok 1 [.int .i64 y_5, .int .i64 y_6, .int .i64 y_7, .int .i64 y_8, .int .i64 y_9, .slice a30 ((y_10).length) c31] rfl rfl rfl rfl rfl rfl rfl ?_
      refine WO.cls (C' := St w0 m m35 [[⟨b2, 25, [.int .i64 p0_0, .int .i64 p0_1, .int .i64 p0_2, .int .i64 p0_3, .int .i64 p0_4, .slice a_p0_5 p0_5.length c_p0_5]⟩], [⟨b3, 25, [.int .i64 y_5, .int .i64 y_6, .int .i64 y_7, .int .i64 y_8, .int .i64 y_9, .slice a30 ((y_10).length) c31]⟩], [], L33]) (fun _ h => h) ?_
      refine WO_pure tbok 1 [(2, .pointer (some ⟨b3, 0, none⟩)), (3, .int .i64 0)] rfl ⟨rfl, rfl, trivial⟩ ?_
      refine WO_end ?_
      cases hm
      exact WK_ret (ret_out (L := []) (RLc_cell tbok 1 rfl rfl rfl (RLc_tmp rfl RLc_nil)) (List.nil_sublist _) ⟨a30, _, c31, rfl, h37⟩)
    · refine WK_block ?_
      refine WK_loop (S := List Int × Int) (G := Option Addr × Nat × Nat × List Ent) (fun s => fiduciallaw48_filled_s1 p0_3 p0_5 s.1 s.2) (fun s g => [(1, .pointer (some ⟨b2, 0, none⟩)), (2, .pointer (some ⟨b3, 0, none⟩)), (3, .int .i64 0), (5, .slice g.1 g.2.1 g.2.2.1), (21, .slice a_p0_5 p0_5.length c_p0_5), (22, .int .i64 (p0_5.length : Int)), (23, .int .i64 s.2)]) (fun s g => St w0 m m [[⟨b2, 25, [.int .i64 p0_0, .int .i64 p0_1, .int .i64 p0_2, .int .i64 p0_3, .int .i64 p0_4, .slice a_p0_5 p0_5.length c_p0_5]⟩], [⟨b3, 25, [.int .i64 0, .int .i64 0, .int .i64 0, .int .i64 0, .int .i64 0, .slice none 0 0]⟩], g.2.2.2]) (fun s g => OwnE 3 1 (I1 .i64) (.slice g.1 g.2.1 g.2.2.1) s.1 g.2.2.2) FUEL (([] : List Int), 0) (none, 0, 0, []) x17 hx18 (OwnE.nil (T := 3) (k := 1) (E := (I1 .i64)) none) ⟨rfl, rfl, rfl, rfl, rfl, rfl, rfl, trivial⟩ (fun _ h => h) ?_
      rintro ⟨l_2, s_3⟩ ⟨a9, q10, c11, L8⟩ o21 fl22 hm20 hL8 hn23 hd24
      have hm20 : fiduciallaw48_filled_s1 p0_3 p0_5 l_2 s_3 = some o21 := hm20
      unfold fiduciallaw48_filled_s1 at hm20
      have hqq : q10 = l_2.length := OwnE.qlen hL8
      subst hqq
      refine WK.sub (e' := [(1, .pointer (some ⟨b2, 0, none⟩)), (2, .pointer (some ⟨b3, 0, none⟩)), (3, .int .i64 0), (5, .slice a9 ((l_2).length) c11), (21, .slice a_p0_5 p0_5.length c_p0_5), (22, .int .i64 (p0_5.length : Int)), (23, .int .i64 s_3)]) ⟨rfl, rfl, rfl, rfl, rfl, rfl, rfl, trivial⟩ (WK.cls (C' := St w0 m m [[⟨b2, 25, [.int .i64 p0_0, .int .i64 p0_1, .int .i64 p0_2, .int .i64 p0_3, .int .i64 p0_4, .slice a_p0_5 p0_5.length c_p0_5]⟩], [⟨b3, 25, [.int .i64 0, .int .i64 0, .int .i64 0, .int .i64 0, .int .i64 0, .slice none 0 0]⟩], L8]) (fun _ h => h) ?_)
      refine WK_seq ?_
      refine WK_region ?_
      refine WO_pure tbok 1 [(1, .pointer (some ⟨b2, 0, none⟩)), (2, .pointer (some ⟨b3, 0, none⟩)), (3, .int .i64 0), (5, .slice a9 ((l_2).length) c11), (21, .slice a_p0_5 p0_5.length c_p0_5), (22, .int .i64 (p0_5.length : Int)), (23, .int .i64 s_3), (24, .bool (decide (s_3 < (p0_5.length : Int))))] rfl ⟨rfl, rfl, rfl, rfl, rfl, rfl, rfl, rfl, trivial⟩ ?_
      refine WO_end ?_
      refine WK_seq ?_
      refine WK_cond (b := decide (s_3 < (p0_5.length : Int))) rfl (fun hb38 => ?_) (fun hb38 => ?_)
      · have hm20 := ifT hb38 hm20
        refine WK_skip ?_
        refine WK_seq ?_
        refine WK_block ?_
        refine WK_seq ?_
        refine WK_region ?_
        refine WO_pure tbok 1 [(1, .pointer (some ⟨b2, 0, none⟩)), (2, .pointer (some ⟨b3, 0, none⟩)), (3, .int .i64 0), (5, .slice a9 ((l_2).length) c11), (21, .slice a_p0_5 p0_5.length c_p0_5), (22, .int .i64 (p0_5.length : Int)), (23, .int .i64 s_3), (25, .int .i64 s_3)] rfl ⟨rfl, rfl, rfl, rfl, rfl, rfl, rfl, rfl, trivial⟩ ?_
        obtain ⟨v_11, hy39, hm20⟩ := bind_some hm20
        obtain ⟨hc40, hy39⟩ := ix_some hy39
        refine WO_index tbok rfl rfl rfl rfl rfl rfl rfl rfl (SlR.addr h_p0_5) hc40 ?_
        refine WO_loadE tbok rfl rfl rfl rfl (fun _ h => St.sat h) h_p0_5 hy39 rfl ?_
        refine WO_pure tbok 2 [(1, .pointer (some ⟨b2, 0, none⟩)), (2, .pointer (some ⟨b3, 0, none⟩)), (3, .int .i64 0), (5, .slice a9 ((l_2).length) c11), (6, .int .i64 s_3), (7, .int .i64 v_11), (21, .slice a_p0_5 p0_5.length c_p0_5), (22, .int .i64 (p0_5.length : Int)), (23, .int .i64 s_3)] rfl ⟨rfl, rfl, rfl, rfl, rfl, rfl, rfl, rfl, rfl, trivial⟩ ?_
        refine WO_end ?_
        refine WK_seq ?_
        refine WK_seq ?_
        refine WK_region ?_
        refine WO_pure tbok 2 [(1, .pointer (some ⟨b2, 0, none⟩)), (2, .pointer (some ⟨b3, 0, none⟩)), (3, .int .i64 0), (5, .slice a9 ((l_2).length) c11), (6, .int .i64 s_3), (7, .int .i64 v_11), (21, .slice a_p0_5 p0_5.length c_p0_5), (22, .int .i64 (p0_5.length : Int)), (23, .int .i64 s_3), (29, .bool (v_11 == (-2147483648)))] rfl ⟨rfl, rfl, rfl, rfl, rfl, rfl, rfl, rfl, rfl, rfl, trivial⟩ ?_
        refine WO_end ?_
        refine WK_cond (b := v_11 == (-2147483648)) rfl (fun hb41 => ?_) (fun hb41 => ?_)
        · have hm20 := ifT hb41 hm20
          refine WK_seq ?_
          refine WK_region ?_
          refine WO_pure tbok 1 [(1, .pointer (some ⟨b2, 0, none⟩)), (2, .pointer (some ⟨b3, 0, none⟩)), (3, .int .i64 0), (5, .slice a9 ((l_2).length) c11), (6, .int .i64 s_3), (7, .int .i64 v_11), (8, .int .i64 (-1)), (21, .slice a_p0_5 p0_5.length c_p0_5), (22, .int .i64 (p0_5.length : Int)), (23, .int .i64 s_3)] rfl ⟨rfl, rfl, rfl, rfl, rfl, rfl, rfl, rfl, rfl, rfl, trivial⟩ ?_
          refine WO_end ?_
          refine WK_seq ?_
          refine WK_seq ?_
          refine WK_region ?_
          refine WO_pure tbok 1 [(1, .pointer (some ⟨b2, 0, none⟩)), (2, .pointer (some ⟨b3, 0, none⟩)), (3, .int .i64 0), (5, .slice a9 ((l_2).length) c11), (6, .int .i64 s_3), (7, .int .i64 v_11), (8, .int .i64 (-1)), (21, .slice a_p0_5 p0_5.length c_p0_5), (22, .int .i64 (p0_5.length : Int)), (23, .int .i64 s_3), (30, .pointer (some ⟨b2, 5, none⟩))] rfl ⟨rfl, rfl, rfl, rfl, rfl, rfl, rfl, rfl, rfl, rfl, rfl, trivial⟩ ?_
          refine WO_loadB tbok 0 rfl rfl rfl rfl (fun _ h => h) rfl rfl ?_
          refine WO_pure tbok 2 [(1, .pointer (some ⟨b2, 0, none⟩)), (2, .pointer (some ⟨b3, 0, none⟩)), (3, .int .i64 0), (5, .slice a9 ((l_2).length) c11), (6, .int .i64 s_3), (7, .int .i64 v_11), (8, .int .i64 (-1)), (21, .slice a_p0_5 p0_5.length c_p0_5), (22, .int .i64 (p0_5.length : Int)), (23, .int .i64 s_3), (31, .slice a_p0_5 p0_5.length c_p0_5), (32, .int .i64 (p0_5.length : Int)), (33, .int .i64 0)] rfl ⟨rfl, rfl, rfl, rfl, rfl, rfl, rfl, rfl, rfl, rfl, rfl, rfl, rfl, trivial⟩ ?_
          refine WO_end ?_
          obtain ⟨x42, hx43, hm20⟩ := bind_some hm20
          refine WK_join (β := (Int × Int) × Unit) (fun p => p.1 = x42) (fun p => [(1, .pointer (some ⟨b2, 0, none⟩)), (2, .pointer (some ⟨b3, 0, none⟩)), (3, .int .i64 0), (5, .slice a9 ((l_2).length) c11), (7, .int .i64 p.1.1), (8, .int .i64 p.1.2), (21, .slice a_p0_5 p0_5.length c_p0_5), (22, .int .i64 (p0_5.length : Int)), (23, .int .i64 s_3)]) (fun p => St w0 m m [[⟨b2, 25, [.int .i64 p0_0, .int .i64 p0_1, .int .i64 p0_2, .int .i64 p0_3, .int .i64 p0_4, .slice a_p0_5 p0_5.length c_p0_5]⟩], [⟨b3, 25, [.int .i64 0, .int .i64 0, .int .i64 0, .int .i64 0, .int .i64 0, .slice none 0 0]⟩], L8]) ?_ (fun hk44 => ?_)
          · rintro ⟨⟨s_15, s_16⟩, ⟨⟩⟩ hq50
            subst hq50
            refine WK.sub (e' := [(1, .pointer (some ⟨b2, 0, none⟩)), (2, .pointer (some ⟨b3, 0, none⟩)), (3, .int .i64 0), (5, .slice a9 ((l_2).length) c11), (7, .int .i64 s_15), (8, .int .i64 s_16), (21, .slice a_p0_5 p0_5.length c_p0_5), (22, .int .i64 (p0_5.length : Int)), (23, .int .i64 s_3)]) ⟨rfl, rfl, rfl, rfl, rfl, rfl, rfl, rfl, rfl, trivial⟩ (WK.cls (C' := St w0 m m [[⟨b2, 25, [.int .i64 p0_0, .int .i64 p0_1, .int .i64 p0_2, .int .i64 p0_3, .int .i64 p0_4, .slice a_p0_5 p0_5.length c_p0_5]⟩], [⟨b3, 25, [.int .i64 0, .int .i64 0, .int .i64 0, .int .i64 0, .int .i64 0, .slice none 0 0]⟩], L8]) (fun _ h => h) ?_)
            refine WK_seq ?_
            refine WK_region ?_
            refine WO_pure tbok 2 [(1, .pointer (some ⟨b2, 0, none⟩)), (2, .pointer (some ⟨b3, 0, none⟩)), (3, .int .i64 0), (5, .slice a9 ((l_2).length) c11), (7, .int .i64 s_15), (21, .slice a_p0_5 p0_5.length c_p0_5), (22, .int .i64 (p0_5.length : Int)), (23, .int .i64 s_3), (90, .bool (decide (s_16 < 0)))] rfl ⟨rfl, rfl, rfl, rfl, rfl, rfl, rfl, rfl, rfl, trivial⟩ ?_
            refine WO_end ?_
            refine WK_cond (b := decide (s_16 < 0)) rfl (fun hb51 => ?_) (fun hb51 => ?_)
            · have hm20 := ifT hb51 hm20
              refine WK_seq ?_
              refine WK_region ?_
              refine WO_pure tbok 1 [(1, .pointer (some ⟨b2, 0, none⟩)), (2, .pointer (some ⟨b3, 0, none⟩)), (3, .int .i64 0), (5, .slice a9 ((l_2).length) c11), (7, .int .i64 s_15), (21, .slice a_p0_5 p0_5.length c_p0_5), (22, .int .i64 (p0_5.length : Int)), (23, .int .i64 s_3), (91, .agg #[.int .i64 0, .int .i64 0, .int .i64 0, .int .i64 0, .int .i64 0, .slice none 0 0])] rfl ⟨rfl, rfl, rfl, rfl, rfl, rfl, rfl, rfl, rfl, trivial⟩ ?_
              refine WO_storeB tbok 1 [.int .i64 0, .int .i64 0, .int .i64 0, .int .i64 0, .int .i64 0, .slice none 0 0] rfl rfl rfl rfl rfl rfl rfl ?_
              refine WO.cls (C' := St w0 m m [[⟨b2, 25, [.int .i64 p0_0, .int .i64 p0_1, .int .i64 p0_2, .int .i64 p0_3, .int .i64 p0_4, .slice a_p0_5 p0_5.length c_p0_5]⟩], [⟨b3, 25, [.int .i64 0, .int .i64 0, .int .i64 0, .int .i64 0, .int .i64 0, .slice none 0 0]⟩], L8]) (fun _ h => h) ?_
              refine WO_pure tbok 1 [(1, .pointer (some ⟨b2, 0, none⟩)), (2, .pointer (some ⟨b3, 0, none⟩)), (3, .int .i64 6), (5, .slice a9 ((l_2).length) c11), (7, .int .i64 s_15), (21, .slice a_p0_5 p0_5.length c_p0_5), (22, .int .i64 (p0_5.length : Int)), (23, .int .i64 s_3)] rfl ⟨rfl, rfl, rfl, rfl, rfl, rfl, rfl, rfl, trivial⟩ ?_
              refine WO_end ?_
              cases hm20
              have hq := hd24 _ rfl
              subst hq
              have hm : some _ = some _ := hm
              cases hm
              exact WK_ret (ret_out (L := []) (RLc_cell tbok 1 rfl rfl rfl (RLc_tmp rfl RLc_nil)) (List.nil_sublist _) ⟨none, 0, 0, rfl, SlR_nil⟩)
            · have hm20 := ifF hb51 hm20
              refine WK_skip ?_
              refine WK_region ?_
              refine WO_pure tbok 2 [(1, .pointer (some ⟨b2, 0, none⟩)), (2, .pointer (some ⟨b3, 0, none⟩)), (3, .int .i64 0), (5, .slice a9 ((l_2).length) c11), (21, .slice a_p0_5 p0_5.length c_p0_5), (22, .int .i64 (p0_5.length : Int)), (23, .int .i64 s_3), (92, .slice a9 ((l_2).length) c11), (93, .int .i64 s_15)] rfl ⟨rfl, rfl, rfl, rfl, rfl, rfl, rfl, rfl, rfl, trivial⟩ ?_
              refine WO_bslice (E := (I1 .i64)) tbok (fun _ => rfl) (by decide) [.int .i64 s_15] ([s_15] : List Int) rfl rfl trivial rfl rfl rfl rfl rfl rfl rfl rfl rfl rfl rfl rfl (fun b52 hb52 => ?_)
              refine WO.cls (C' := St w0 m m [[⟨b2, 25, [.int .i64 p0_0, .int .i64 p0_1, .int .i64 p0_2, .int .i64 p0_3, .int .i64 p0_4, .slice a_p0_5 p0_5.length c_p0_5]⟩], [⟨b3, 25, [.int .i64 0, .int .i64 0, .int .i64 0, .int .i64 0, .int .i64 0, .slice none 0 0]⟩], L8, [⟨b52, 3, ([s_15] : List Int).flatMap (I1 .i64)⟩]]) (fun _ h => h) ?_
              obtain ⟨hc54, hm20⟩ := chk_some hm20
              refine WO_append (E := (I1 .i64)) tbok (fun _ => rfl) 2 ([s_15] : List Int) (fun _ _ => rfl) rfl rfl rfl rfl rfl rfl rfl rfl rfl rfl rfl rfl hL8 rfl (src_seg (j := 3) rfl) (ap_ok (by decide) hc54) (ap_max hc54) (fun a55 c56 L57 hL57 => ?_)
              refine WO.cls (C' := St w0 m m [[⟨b2, 25, [.int .i64 p0_0, .int .i64 p0_1, .int .i64 p0_2, .int .i64 p0_3, .int .i64 p0_4, .slice a_p0_5 p0_5.length c_p0_5]⟩], [⟨b3, 25, [.int .i64 0, .int .i64 0, .int .i64 0, .int .i64 0, .int .i64 0, .slice none 0 0]⟩], L57, [⟨b52, 3, ([s_15] : List Int).flatMap (I1 .i64)⟩]]) (fun _ h => h) ?_
              refine WO_pure tbok 1 [(1, .pointer (some ⟨b2, 0, none⟩)), (2, .pointer (some ⟨b3, 0, none⟩)), (3, .int .i64 0), (5, .slice a55 ((l_2 ++ ([s_15] : List Int)).length) c56), (21, .slice a_p0_5 p0_5.length c_p0_5), (22, .int .i64 (p0_5.length : Int)), (23, .int .i64 s_3)] rfl ⟨rfl, rfl, rfl, rfl, rfl, rfl, rfl, trivial⟩ ?_
              refine WO_end ?_
              refine WK_blk ?_
              refine WK_region ?_
              refine WO_pure tbok 2 [(1, .pointer (some ⟨b2, 0, none⟩)), (2, .pointer (some ⟨b3, 0, none⟩)), (3, .int .i64 0), (5, .slice a55 ((l_2 ++ ([s_15] : List Int)).length) c56), (21, .slice a_p0_5 p0_5.length c_p0_5), (22, .int .i64 (p0_5.length : Int)), (23, .int .i64 (w64 (s_3 + 1)))] rfl ⟨rfl, rfl, rfl, rfl, rfl, rfl, rfl, trivial⟩ ?_
              refine WO_end ?_
              cases hm20
              refine WK.sub ?_ (WK.cls (fun _ h => St.take 3 h) (hn23 _ (a55, (l_2 ++ ([s_15] : List Int)).length, c56, L57) rfl hL57))
              exact ⟨rfl, rfl, rfl, rfl, rfl, rfl, rfl, trivial⟩
          · refine WK_block ?_
            refine WK_loop (S := Int × Int × Int) (G := Unit) (fun s => fiduciallaw48_filled_s2 p0_3 p0_5 s_3 s.1 s.2.1 s.2.2) (fun s g => [(1, .pointer (some ⟨b2, 0, none⟩)), (2, .pointer (some ⟨b3, 0, none⟩)), (3, .int .i64 0), (5, .slice a9 ((l_2).length) c11), (6, .int .i64 s_3), (7, .int .i64 s.1), (8, .int .i64 s.2.1), (21, .slice a_p0_5 p0_5.length c_p0_5), (22, .int .i64 (p0_5.length : Int)), (23, .int .i64 s_3), (31, .slice a_p0_5 p0_5.length c_p0_5), (32, .int .i64 (p0_5.length : Int)), (33, .int .i64 s.2.2)]) (fun s g => St w0 m m [[⟨b2, 25, [.int .i64 p0_0, .int .i64 p0_1, .int .i64 p0_2, .int .i64 p0_3, .int .i64 p0_4, .slice a_p0_5 p0_5.length c_p0_5]⟩], [⟨b3, 25, [.int .i64 0, .int .i64 0, .int .i64 0, .int .i64 0, .int .i64 0, .slice none 0 0]⟩], L8]) (fun s g => True) FUEL (v_11, (-1), 0) () x42 hx43 trivial ⟨rfl, rfl, rfl, rfl, rfl, rfl, rfl, rfl, rfl, rfl, rfl, rfl, rfl, trivial⟩ (fun _ h => h) ?_
            rintro ⟨s_12, s_13, s_14⟩ ⟨⟩ o46 fl47 hm45 - hn48 hd49
            have hm45 : fiduciallaw48_filled_s2 p0_3 p0_5 s_3 s_12 s_13 s_14 = some o46 := hm45
            unfold fiduciallaw48_filled_s2 at hm45
            refine WK.sub (e' := [(1, .pointer (some ⟨b2, 0, none⟩)), (2, .pointer (some ⟨b3, 0, none⟩)), (3, .int .i64 0), (5, .slice a9 ((l_2).length) c11), (6, .int .i64 s_3), (7, .int .i64 s_12), (8, .int .i64 s_13), (21, .slice a_p0_5 p0_5.length c_p0_5), (22, .int .i64 (p0_5.length : Int)), (23, .int .i64 s_3), (31, .slice a_p0_5 p0_5.length c_p0_5), (32, .int .i64 (p0_5.length : Int)), (33, .int .i64 s_14)]) ⟨rfl, rfl, rfl, rfl, rfl, rfl, rfl, rfl, rfl, rfl, rfl, rfl, rfl, trivial⟩ (WK.cls (C' := St w0 m m [[⟨b2, 25, [.int .i64 p0_0, .int .i64 p0_1, .int .i64 p0_2, .int .i64 p0_3, .int .i64 p0_4, .slice a_p0_5 p0_5.length c_p0_5]⟩], [⟨b3, 25, [.int .i64 0, .int .i64 0, .int .i64 0, .int .i64 0, .int .i64 0, .slice none 0 0]⟩], L8]) (fun _ h => h) ?_)
            refine WK_seq ?_
            refine WK_region ?_
            refine WO_pure tbok 1 [(1, .pointer (some ⟨b2, 0, none⟩)), (2, .pointer (some ⟨b3, 0, none⟩)), (3, .int .i64 0), (5, .slice a9 ((l_2).length) c11), (6, .int .i64 s_3), (7, .int .i64 s_12), (8, .int .i64 s_13), (21, .slice a_p0_5 p0_5.length c_p0_5), (22, .int .i64 (p0_5.length : Int)), (23, .int .i64 s_3), (31, .slice a_p0_5 p0_5.length c_p0_5), (32, .int .i64 (p0_5.length : Int)), (33, .int .i64 s_14), (34, .bool (decide (s_14 < (p0_5.length : Int))))] rfl ⟨rfl, rfl, rfl, rfl, rfl, rfl, rfl, rfl, rfl, rfl, rfl, rfl, rfl, rfl, trivial⟩ ?_
            refine WO_end ?_
            refine WK_seq ?_
            refine WK_cond (b := decide (s_14 < (p0_5.length : Int))) rfl (fun hb59 => ?_) (fun hb59 => ?_)
            · have hm45 := ifT hb59 hm45
              refine WK_skip ?_
              refine WK_seq ?_
              refine WK_block ?_
              refine WK_seq ?_
              refine WK_region ?_
              refine WO_pure tbok 1 [(1, .pointer (some ⟨b2, 0, none⟩)), (2, .pointer (some ⟨b3, 0, none⟩)), (3, .int .i64 0), (5, .slice a9 ((l_2).length) c11), (6, .int .i64 s_3), (7, .int .i64 s_12), (8, .int .i64 s_13), (21, .slice a_p0_5 p0_5.length c_p0_5), (22, .int .i64 (p0_5.length : Int)), (23, .int .i64 s_3), (31, .slice a_p0_5 p0_5.length c_p0_5), (32, .int .i64 (p0_5.length : Int)), (33, .int .i64 s_14), (35, .int .i64 s_14)] rfl ⟨rfl, rfl, rfl, rfl, rfl, rfl, rfl, rfl, rfl, rfl, rfl, rfl, rfl, rfl, trivial⟩ ?_
              obtain ⟨v_17, hy60, hm45⟩ := bind_some hm45
              obtain ⟨hc61, hy60⟩ := ix_some hy60
              refine WO_index tbok rfl rfl rfl rfl rfl rfl rfl rfl (SlR.addr h_p0_5) hc61 ?_
              refine WO_loadE tbok rfl rfl rfl rfl (fun _ h => St.sat h) h_p0_5 hy60 rfl ?_
              refine WO_pure tbok 2 [(1, .pointer (some ⟨b2, 0, none⟩)), (2, .pointer (some ⟨b3, 0, none⟩)), (3, .int .i64 0), (5, .slice a9 ((l_2).length) c11), (6, .int .i64 s_3), (7, .int .i64 s_12), (8, .int .i64 s_13), (9, .int .i64 s_14), (10, .int .i64 v_17), (21, .slice a_p0_5 p0_5.length c_p0_5), (22, .int .i64 (p0_5.length : Int)), (23, .int .i64 s_3), (31, .slice a_p0_5 p0_5.length c_p0_5), (32, .int .i64 (p0_5.length : Int)), (33, .int .i64 s_14)] rfl ⟨rfl, rfl, rfl, rfl, rfl, rfl, rfl, rfl, rfl, rfl, rfl, rfl, rfl, rfl, rfl, trivial⟩ ?_
              refine WO_end ?_
              refine WK_seq ?_
              refine WK_draw 20 [0, 1, 2, 3, 4, 5, 6, 7, 8, 9, 10, 11, 12, 13, 14, 15, 16, 17, 18, 19] follows_ok (by kernel_rfl) St_closed ?_
              refine WO_pure tbok 2 [(1, .pointer (some ⟨b2, 0, none⟩)), (2, .pointer (some ⟨b3, 0, none⟩)), (3, .int .i64 0), (5, .slice a9 ((l_2).length) c11), (6, .int .i64 s_3), (7, .int .i64 s_12), (8, .int .i64 s_13), (9, .int .i64 s_14), (10, .int .i64 v_17), (21, .slice a_p0_5 p0_5.length c_p0_5), (22, .int .i64 (p0_5.length : Int)), (23, .int .i64 s_3), (31, .slice a_p0_5 p0_5.length c_p0_5), (32, .int .i64 (p0_5.length : Int)), (33, .int .i64 s_14), (38, .int .i64 s_3), (39, .pointer (some ⟨b2, 3, none⟩))] rfl ⟨rfl, rfl, rfl, rfl, rfl, rfl, rfl, rfl, rfl, rfl, rfl, rfl, rfl, rfl, rfl, rfl, rfl, trivial⟩ ?_
              refine WO_loadB tbok 0 rfl rfl rfl rfl (fun _ h => h) rfl rfl ?_
              obtain ⟨hc62, hm45⟩ := chk_some hm45
              refine WO_rem rfl rfl rfl rfl rfl hc62 ?_
              refine WO_pure tbok 2 [(1, .pointer (some ⟨b2, 0, none⟩)), (2, .pointer (some ⟨b3, 0, none⟩)), (3, .int .i64 0), (5, .slice a9 ((l_2).length) c11), (6, .int .i64 s_3), (7, .int .i64 s_12), (8, .int .i64 s_13), (9, .int .i64 s_14), (10, .int .i64 v_17), (21, .slice a_p0_5 p0_5.length c_p0_5), (22, .int .i64 (p0_5.length : Int)), (23, .int .i64 s_3), (31, .slice a_p0_5 p0_5.length c_p0_5), (32, .int .i64 (p0_5.length : Int)), (33, .int .i64 s_14), (41, .int .i64 (Int.tmod s_3 p0_3)), (42, .int .i64 s_14), (43, .pointer (some ⟨b2, 3, none⟩))] rfl ⟨rfl, rfl, rfl, rfl, rfl, rfl, rfl, rfl, rfl, rfl, rfl, rfl, rfl, rfl, rfl, rfl, rfl, rfl, trivial⟩ ?_
              refine WO_loadB tbok 0 rfl rfl rfl rfl (fun _ h => h) rfl rfl ?_
              obtain ⟨hc63, hm45⟩ := chk_some hm45
              refine WO_rem rfl rfl rfl rfl rfl hc63 ?_
              refine WO_pure tbok 3 [(1, .pointer (some ⟨b2, 0, none⟩)), (2, .pointer (some ⟨b3, 0, none⟩)), (3, .int .i64 0), (5, .slice a9 ((l_2).length) c11), (6, .int .i64 s_3), (7, .int .i64 s_12), (8, .int .i64 s_13), (9, .int .i64 s_14), (10, .int .i64 v_17), (21, .slice a_p0_5 p0_5.length c_p0_5), (22, .int .i64 (p0_5.length : Int)), (23, .int .i64 s_3), (31, .slice a_p0_5 p0_5.length c_p0_5), (32, .int .i64 (p0_5.length : Int)), (33, .int .i64 s_14), (46, .int .i64 (w64 ((Int.tmod s_3 p0_3) - (Int.tmod s_14 p0_3)))), (47, .int .i64 s_3), (48, .pointer (some ⟨b2, 3, none⟩))] rfl ⟨rfl, rfl, rfl, rfl, rfl, rfl, rfl, rfl, rfl, rfl, rfl, rfl, rfl, rfl, rfl, rfl, rfl, rfl, trivial⟩ ?_
              refine WO_loadB tbok 0 rfl rfl rfl rfl (fun _ h => h) rfl rfl ?_
              obtain ⟨hc64, hm45⟩ := chk_some hm45
              refine WO_quo rfl rfl rfl rfl rfl hc64 ?_
              refine WO_pure tbok 2 [(1, .pointer (some ⟨b2, 0, none⟩)), (2, .pointer (some ⟨b3, 0, none⟩)), (3, .int .i64 0), (5, .slice a9 ((l_2).length) c11), (6, .int .i64 s_3), (7, .int .i64 s_12), (8, .int .i64 s_13), (10, .int .i64 v_17), (21, .slice a_p0_5 p0_5.length c_p0_5), (22, .int .i64 (p0_5.length : Int)), (23, .int .i64 s_3), (31, .slice a_p0_5 p0_5.length c_p0_5), (32, .int .i64 (p0_5.length : Int)), (33, .int .i64 s_14), (46, .int .i64 (w64 ((Int.tmod s_3 p0_3) - (Int.tmod s_14 p0_3)))), (50, .int .i64 (w64 (Int.tdiv s_3 p0_3))), (51, .int .i64 s_14), (52, .pointer (some ⟨b2, 3, none⟩))] rfl ⟨rfl, rfl, rfl, rfl, rfl, rfl, rfl, rfl, rfl, rfl, rfl, rfl, rfl, rfl, rfl, rfl, rfl, rfl, trivial⟩ ?_
              refine WO_loadB tbok 0 rfl rfl rfl rfl (fun _ h => h) rfl rfl ?_
              obtain ⟨hc65, hm45⟩ := chk_some hm45
              refine WO_quo rfl rfl rfl rfl rfl hc65 ?_
              refine WO_pure tbok 3 [(1, .pointer (some ⟨b2, 0, none⟩)), (2, .pointer (some ⟨b3, 0, none⟩)), (3, .int .i64 0), (5, .slice a9 ((l_2).length) c11), (6, .int .i64 s_3), (7, .int .i64 s_12), (8, .int .i64 s_13), (10, .int .i64 v_17), (11, .int .i64 (w64 ((Int.tmod s_3 p0_3) - (Int.tmod s_14 p0_3)))), (12, .int .i64 (w64 ((w64 (Int.tdiv s_3 p0_3)) - (w64 (Int.tdiv s_14 p0_3))))), (21, .slice a_p0_5 p0_5.length c_p0_5), (22, .int .i64 (p0_5.length : Int)), (23, .int .i64 s_3), (31, .slice a_p0_5 p0_5.length c_p0_5), (32, .int .i64 (p0_5.length : Int)), (33, .int .i64 s_14)] rfl ⟨rfl, rfl, rfl, rfl, rfl, rfl, rfl, rfl, rfl, rfl, rfl, rfl, rfl, rfl, rfl, rfl, trivial⟩ ?_
              refine WO_tail ?_
              refine WO_end ?_
              refine WK_seq ?_
              refine WK_region ?_
              refine WO_pure tbok 10 [(1, .pointer (some ⟨b2, 0, none⟩)), (2, .pointer (some ⟨b3, 0, none⟩)), (3, .int .i64 0), (5, .slice a9 ((l_2).length) c11), (6, .int .i64 s_3), (7, .int .i64 s_12), (8, .int .i64 s_13), (10, .int .i64 v_17), (13, .int .i64 (w64 ((if (w64 ((Int.tmod s_3 p0_3) - (Int.tmod s_14 p0_3))) < (w64 (0 - (w64 ((Int.tmod s_3 p0_3) - (Int.tmod s_14 p0_3))))) then (w64 (0 - (w64 ((Int.tmod s_3 p0_3) - (Int.tmod s_14 p0_3))))) else (w64 ((Int.tmod s_3 p0_3) - (Int.tmod s_14 p0_3)))) + (if (w64 ((w64 (Int.tdiv s_3 p0_3)) - (w64 (Int.tdiv s_14 p0_3)))) < (w64 (0 - (w64 ((w64 (Int.tdiv s_3 p0_3)) - (w64 (Int.tdiv s_14 p0_3)))))) then (w64 (0 - (w64 ((w64 (Int.tdiv s_3 p0_3)) - (w64 (Int.tdiv s_14 p0_3)))))) else (w64 ((w64 (Int.tdiv s_3 p0_3)) - (w64 (Int.tdiv s_14 p0_3)))))))), (21, .slice a_p0_5 p0_5.length c_p0_5), (22, .int .i64 (p0_5.length : Int)), (23, .int .i64 s_3), (31, .slice a_p0_5 p0_5.length c_p0_5), (32, .int .i64 (p0_5.length : Int)), (33, .int .i64 s_14)] rfl ⟨rfl, rfl, rfl, rfl, rfl, rfl, rfl, rfl, rfl, rfl, rfl, rfl, rfl, rfl, rfl, trivial⟩ ?_
              refine WO_end ?_
              refine WK_seq ?_
              obtain ⟨s_18, hx66, hm45⟩ := bind_some hm45
              refine WK_meet [(1, .pointer (some ⟨b2, 0, none⟩)), (2, .pointer (some ⟨b3, 0, none⟩)), (3, .int .i64 0), (5, .slice a9 ((l_2).length) c11), (6, .int .i64 s_3), (7, .int .i64 s_12), (8, .int .i64 s_13), (10, .int .i64 v_17), (13, .int .i64 (w64 ((if (w64 ((Int.tmod s_3 p0_3) - (Int.tmod s_14 p0_3))) < (w64 (0 - (w64 ((Int.tmod s_3 p0_3) - (Int.tmod s_14 p0_3))))) then (w64 (0 - (w64 ((Int.tmod s_3 p0_3) - (Int.tmod s_14 p0_3))))) else (w64 ((Int.tmod s_3 p0_3) - (Int.tmod s_14 p0_3)))) + (if (w64 ((w64 (Int.tdiv s_3 p0_3)) - (w64 (Int.tdiv s_14 p0_3)))) < (w64 (0 - (w64 ((w64 (Int.tdiv s_3 p0_3)) - (w64 (Int.tdiv s_14 p0_3)))))) then (w64 (0 - (w64 ((w64 (Int.tdiv s_3 p0_3)) - (w64 (Int.tdiv s_14 p0_3)))))) else (w64 ((w64 (Int.tdiv s_3 p0_3)) - (w64 (Int.tdiv s_14 p0_3)))))))), (21, .slice a_p0_5 p0_5.length c_p0_5), (22, .int .i64 (p0_5.length : Int)), (23, .int .i64 s_3), (31, .slice a_p0_5 p0_5.length c_p0_5), (32, .int .i64 (p0_5.length : Int)), (33, .int .i64 s_14), (85, .bool s_18)] (St w0 m m [[⟨b2, 25, [.int .i64 p0_0, .int .i64 p0_1, .int .i64 p0_2, .int .i64 p0_3, .int .i64 p0_4, .slice a_p0_5 p0_5.length c_p0_5]⟩], [⟨b3, 25, [.int .i64 0, .int .i64 0, .int .i64 0, .int .i64 0, .int .i64 0, .slice none 0 0]⟩], L8]) ?_ (fun hk67 => ?_)
              · obtain ⟨⟨s_19, s_20⟩, hx68, hm45⟩ := bind_some hm45
                refine WK_meet [(1, .pointer (some ⟨b2, 0, none⟩)), (2, .pointer (some ⟨b3, 0, none⟩)), (3, .int .i64 0), (5, .slice a9 ((l_2).length) c11), (6, .int .i64 s_3), (7, .int .i64 s_19), (8, .int .i64 s_20), (21, .slice a_p0_5 p0_5.length c_p0_5), (22, .int .i64 (p0_5.length : Int)), (23, .int .i64 s_3), (31, .slice a_p0_5 p0_5.length c_p0_5), (32, .int .i64 (p0_5.length : Int)), (33, .int .i64 s_14)] (St w0 m m [[⟨b2, 25, [.int .i64 p0_0, .int .i64 p0_1, .int .i64 p0_2, .int .i64 p0_3, .int .i64 p0_4, .slice a_p0_5 p0_5.length c_p0_5]⟩], [⟨b3, 25, [.int .i64 0, .int .i64 0, .int .i64 0, .int .i64 0, .int .i64 0, .slice none 0 0]⟩], L8]) ?_ (fun hk69 => ?_)
                · refine WK_blk ?_
                  refine WK_region ?_
                  refine WO_pure tbok 2 [(1, .pointer (some ⟨b2, 0, none⟩)), (2, .pointer (some ⟨b3, 0, none⟩)), (3, .int .i64 0), (5, .slice a9 ((l_2).length) c11), (6, .int .i64 s_3), (7, .int .i64 s_19), (8, .int .i64 s_20), (21, .slice a_p0_5 p0_5.length c_p0_5), (22, .int .i64 (p0_5.length : Int)), (23, .int .i64 s_3), (31, .slice a_p0_5 p0_5.length c_p0_5), (32, .int .i64 (p0_5.length : Int)), (33, .int .i64 (w64 (s_14 + 1)))] rfl ⟨rfl, rfl, rfl, rfl, rfl, rfl, rfl, rfl, rfl, rfl, rfl, rfl, rfl, trivial⟩ ?_
                  refine WO_end ?_
                  cases hm45
                  refine WK.sub ?_ (WK.cls (fun _ h => h) (hn48 _ () rfl trivial))
                  exact ⟨rfl, rfl, rfl, rfl, rfl, rfl, rfl, rfl, rfl, rfl, rfl, rfl, rfl, trivial⟩
                · refine WK_cond (b := s_18) rfl (fun hb70 => ?_) (fun hb70 => ?_)
                  · have hx68 := ifT hb70 hx68
                    refine WK_region ?_
                    refine WO_pure tbok 4 [(1, .pointer (some ⟨b2, 0, none⟩)), (2, .pointer (some ⟨b3, 0, none⟩)), (3, .int .i64 0), (5, .slice a9 ((l_2).length) c11), (6, .int .i64 s_3), (7, .int .i64 v_17), (8, .int .i64 (w64 ((if (w64 ((Int.tmod s_3 p0_3) - (Int.tmod s_14 p0_3))) < (w64 (0 - (w64 ((Int.tmod s_3 p0_3) - (Int.tmod s_14 p0_3))))) then (w64 (0 - (w64 ((Int.tmod s_3 p0_3) - (Int.tmod s_14 p0_3))))) else (w64 ((Int.tmod s_3 p0_3) - (Int.tmod s_14 p0_3)))) + (if (w64 ((w64 (Int.tdiv s_3 p0_3)) - (w64 (Int.tdiv s_14 p0_3)))) < (w64 (0 - (w64 ((w64 (Int.tdiv s_3 p0_3)) - (w64 (Int.tdiv s_14 p0_3)))))) then (w64 (0 - (w64 ((w64 (Int.tdiv s_3 p0_3)) - (w64 (Int.tdiv s_14 p0_3)))))) else (w64 ((w64 (Int.tdiv s_3 p0_3)) - (w64 (Int.tdiv s_14 p0_3)))))))), (21, .slice a_p0_5 p0_5.length c_p0_5), (22, .int .i64 (p0_5.length : Int)), (23, .int .i64 s_3), (31, .slice a_p0_5 p0_5.length c_p0_5), (32, .int .i64 (p0_5.length : Int)), (33, .int .i64 s_14)] rfl ⟨rfl, rfl, rfl, rfl, rfl, rfl, rfl, rfl, rfl, rfl, rfl, rfl, rfl, trivial⟩ ?_
                    refine WO_end ?_
                    cases hx68
                    refine WK.sub ?_ (WK.cls (fun _ h => h) hk69)
                    exact ⟨rfl, rfl, rfl, rfl, rfl, rfl, rfl, rfl, rfl, rfl, rfl, rfl, rfl, trivial⟩
                  · have hx68 := ifF hb70 hx68
                    refine WK_skip ?_
                    cases hx68
                    refine WK.sub ?_ (WK.cls (fun _ h => h) hk69)
                    exact ⟨rfl, rfl, rfl, rfl, rfl, rfl, rfl, rfl, rfl, rfl, rfl, rfl, rfl, trivial⟩
              · refine WK_region ?_
                refine WO_pure tbok 3 [(1, .pointer (some ⟨b2, 0, none⟩)), (2, .pointer (some ⟨b3, 0, none⟩)), (3, .int .i64 0), (5, .slice a9 ((l_2).length) c11), (6, .int .i64 s_3), (7, .int .i64 s_12), (8, .int .i64 s_13), (10, .int .i64 v_17), (13, .int .i64 (w64 ((if (w64 ((Int.tmod s_3 p0_3) - (Int.tmod s_14 p0_3))) < (w64 (0 - (w64 ((Int.tmod s_3 p0_3) - (Int.tmod s_14 p0_3))))) then (w64 (0 - (w64 ((Int.tmod s_3 p0_3) - (Int.tmod s_14 p0_3))))) else (w64 ((Int.tmod s_3 p0_3) - (Int.tmod s_14 p0_3)))) + (if (w64 ((w64 (Int.tdiv s_3 p0_3)) - (w64 (Int.tdiv s_14 p0_3)))) < (w64 (0 - (w64 ((w64 (Int.tdiv s_3 p0_3)) - (w64 (Int.tdiv s_14 p0_3)))))) then (w64 (0 - (w64 ((w64 (Int.tdiv s_3 p0_3)) - (w64 (Int.tdiv s_14 p0_3)))))) else (w64 ((w64 (Int.tdiv s_3 p0_3)) - (w64 (Int.tdiv s_14 p0_3)))))))), (21, .slice a_p0_5 p0_5.length c_p0_5), (22, .int .i64 (p0_5.length : Int)), (23, .int .i64 s_3), (31, .slice a_p0_5 p0_5.length c_p0_5), (32, .int .i64 (p0_5.length : Int)), (33, .int .i64 s_14), (67, .bool (v_17 != (-2147483648)))] rfl ⟨rfl, rfl, rfl, rfl, rfl, rfl, rfl, rfl, rfl, rfl, rfl, rfl, rfl, rfl, rfl, rfl, trivial⟩ ?_
                refine WO_split (d := 67) (b := v_17 != (-2147483648)) rfl (fun hb71 => ?_) (fun hb71 => ?_)
                · have hx66 := ifT hb71 hx66
                  refine WO_pure tbok 3 [(1, .pointer (some ⟨b2, 0, none⟩)), (2, .pointer (some ⟨b3, 0, none⟩)), (3, .int .i64 0), (5, .slice a9 ((l_2).length) c11), (6, .int .i64 s_3), (7, .int .i64 s_12), (8, .int .i64 s_13), (10, .int .i64 v_17), (13, .int .i64 (w64 ((if (w64 ((Int.tmod s_3 p0_3) - (Int.tmod s_14 p0_3))) < (w64 (0 - (w64 ((Int.tmod s_3 p0_3) - (Int.tmod s_14 p0_3))))) then (w64 (0 - (w64 ((Int.tmod s_3 p0_3) - (Int.tmod s_14 p0_3))))) else (w64 ((Int.tmod s_3 p0_3) - (Int.tmod s_14 p0_3)))) + (if (w64 ((w64 (Int.tdiv s_3 p0_3)) - (w64 (Int.tdiv s_14 p0_3)))) < (w64 (0 - (w64 ((w64 (Int.tdiv s_3 p0_3)) - (w64 (Int.tdiv s_14 p0_3)))))) then (w64 (0 - (w64 ((w64 (Int.tdiv s_3 p0_3)) - (w64 (Int.tdiv s_14 p0_3)))))) else (w64 ((w64 (Int.tdiv s_3 p0_3)) - (w64 (Int.tdiv s_14 p0_3)))))))), (21, .slice a_p0_5 p0_5.length c_p0_5), (22, .int .i64 (p0_5.length : Int)), (23, .int .i64 s_3), (31, .slice a_p0_5 p0_5.length c_p0_5), (32, .int .i64 (p0_5.length : Int)), (33, .int .i64 s_14), (67, .bool true), (70, .bool (decide (s_13 < 0)))] rfl ⟨rfl, rfl, rfl, rfl, rfl, rfl, rfl, rfl, rfl, rfl, rfl, rfl, rfl, rfl, rfl, rfl, rfl, trivial⟩ ?_
                  refine WO_split (d := 70) (b := decide (s_13 < 0)) rfl (fun hb72 => ?_) (fun hb72 => ?_)
                  · have hx66 := ifT hb72 hx66
                    refine WO_pure tbok 15 [(1, .pointer (some ⟨b2, 0, none⟩)), (2, .pointer (some ⟨b3, 0, none⟩)), (3, .int .i64 0), (5, .slice a9 ((l_2).length) c11), (6, .int .i64 s_3), (7, .int .i64 s_12), (8, .int .i64 s_13), (10, .int .i64 v_17), (13, .int .i64 (w64 ((if (w64 ((Int.tmod s_3 p0_3) - (Int.tmod s_14 p0_3))) < (w64 (0 - (w64 ((Int.tmod s_3 p0_3) - (Int.tmod s_14 p0_3))))) then (w64 (0 - (w64 ((Int.tmod s_3 p0_3) - (Int.tmod s_14 p0_3))))) else (w64 ((Int.tmod s_3 p0_3) - (Int.tmod s_14 p0_3)))) + (if (w64 ((w64 (Int.tdiv s_3 p0_3)) - (w64 (Int.tdiv s_14 p0_3)))) < (w64 (0 - (w64 ((w64 (Int.tdiv s_3 p0_3)) - (w64 (Int.tdiv s_14 p0_3)))))) then (w64 (0 - (w64 ((w64 (Int.tdiv s_3 p0_3)) - (w64 (Int.tdiv s_14 p0_3)))))) else (w64 ((w64 (Int.tdiv s_3 p0_3)) - (w64 (Int.tdiv s_14 p0_3)))))))), (21, .slice a_p0_5 p0_5.length c_p0_5), (22, .int .i64 (p0_5.length : Int)), (23, .int .i64 s_3), (31, .slice a_p0_5 p0_5.length c_p0_5), (32, .int .i64 (p0_5.length : Int)), (33, .int .i64 s_14), (85, .bool true)] rfl ⟨rfl, rfl, rfl, rfl, rfl, rfl, rfl, rfl, rfl, rfl, rfl, rfl, rfl, rfl, rfl, rfl, trivial⟩ ?_
                    refine WO_end ?_
                    cases hx66
                    refine WK.sub ?_ (WK.cls (fun _ h => h) hk67)
                    exact ⟨rfl, rfl, rfl, rfl, rfl, rfl, rfl, rfl, rfl, rfl, rfl, rfl, rfl, rfl, rfl, rfl, trivial⟩
                  · have hx66 := ifF hb72 hx66
                    refine WO_pure tbok 5 [(1, .pointer (some ⟨b2, 0, none⟩)), (2, .pointer (some ⟨b3, 0, none⟩)), (3, .int .i64 0), (5, .slice a9 ((l_2).length) c11), (6, .int .i64 s_3), (7, .int .i64 s_12), (8, .int .i64 s_13), (10, .int .i64 v_17), (13, .int .i64 (w64 ((if (w64 ((Int.tmod s_3 p0_3) - (Int.tmod s_14 p0_3))) < (w64 (0 - (w64 ((Int.tmod s_3 p0_3) - (Int.tmod s_14 p0_3))))) then (w64 (0 - (w64 ((Int.tmod s_3 p0_3) - (Int.tmod s_14 p0_3))))) else (w64 ((Int.tmod s_3 p0_3) - (Int.tmod s_14 p0_3)))) + (if (w64 ((w64 (Int.tdiv s_3 p0_3)) - (w64 (Int.tdiv s_14 p0_3)))) < (w64 (0 - (w64 ((w64 (Int.tdiv s_3 p0_3)) - (w64 (Int.tdiv s_14 p0_3)))))) then (w64 (0 - (w64 ((w64 (Int.tdiv s_3 p0_3)) - (w64 (Int.tdiv s_14 p0_3)))))) else (w64 ((w64 (Int.tdiv s_3 p0_3)) - (w64 (Int.tdiv s_14 p0_3)))))))), (21, .slice a_p0_5 p0_5.length c_p0_5), (22, .int .i64 (p0_5.length : Int)), (23, .int .i64 s_3), (31, .slice a_p0_5 p0_5.length c_p0_5), (32, .int .i64 (p0_5.length : Int)), (33, .int .i64 s_14), (67, .bool true), (75, .bool (decide ((w64 ((if (w64 ((Int.tmod s_3 p0_3) - (Int.tmod s_14 p0_3))) < (w64 (0 - (w64 ((Int.tmod s_3 p0_3) - (Int.tmod s_14 p0_3))))) then (w64 (0 - (w64 ((Int.tmod s_3 p0_3) - (Int.tmod s_14 p0_3))))) else (w64 ((Int.tmod s_3 p0_3) - (Int.tmod s_14 p0_3)))) + (if (w64 ((w64 (Int.tdiv s_3 p0_3)) - (w64 (Int.tdiv s_14 p0_3)))) < (w64 (0 - (w64 ((w64 (Int.tdiv s_3 p0_3)) - (w64 (Int.tdiv s_14 p0_3)))))) then (w64 (0 - (w64 ((w64 (Int.tdiv s_3 p0_3)) - (w64 (Int.tdiv s_14 p0_3)))))) else (w64 ((w64 (Int.tdiv s_3 p0_3)) - (w64 (Int.tdiv s_14 p0_3))))))) < s_13)))] rfl ⟨rfl, rfl, rfl, rfl, rfl, rfl, rfl, rfl, rfl, rfl, rfl, rfl, rfl, rfl, rfl, rfl, rfl, trivial⟩ ?_
                    refine WO_split (d := 75) (b := decide ((w64 ((if (w64 ((Int.tmod s_3 p0_3) - (Int.tmod s_14 p0_3))) < (w64 (0 - (w64 ((Int.tmod s_3 p0_3) - (Int.tmod s_14 p0_3))))) then (w64 (0 - (w64 ((Int.tmod s_3 p0_3) - (Int.tmod s_14 p0_3))))) else (w64 ((Int.tmod s_3 p0_3) - (Int.tmod s_14 p0_3)))) + (if (w64 ((w64 (Int.tdiv s_3 p0_3)) - (w64 (Int.tdiv s_14 p0_3)))) < (w64 (0 - (w64 ((w64 (Int.tdiv s_3 p0_3)) - (w64 (Int.tdiv s_14 p0_3)))))) then (w64 (0 - (w64 ((w64 (Int.tdiv s_3 p0_3)) - (w64 (Int.tdiv s_14 p0_3)))))) else (w64 ((w64 (Int.tdiv s_3 p0_3)) - (w64 (Int.tdiv s_14 p0_3))))))) < s_13)) rfl (fun hb73 => ?_) (fun hb73 => ?_)
                    · have hx66 := ifT hb73 hx66
                      refine WO_pure tbok 10 [(1, .pointer (some ⟨b2, 0, none⟩)), (2, .pointer (some ⟨b3, 0, none⟩)), (3, .int .i64 0), (5, .slice a9 ((l_2).length) c11), (6, .int .i64 s_3), (7, .int .i64 s_12), (8, .int .i64 s_13), (10, .int .i64 v_17), (13, .int .i64 (w64 ((if (w64 ((Int.tmod s_3 p0_3) - (Int.tmod s_14 p0_3))) < (w64 (0 - (w64 ((Int.tmod s_3 p0_3) - (Int.tmod s_14 p0_3))))) then (w64 (0 - (w64 ((Int.tmod s_3 p0_3) - (Int.tmod s_14 p0_3))))) else (w64 ((Int.tmod s_3 p0_3) - (Int.tmod s_14 p0_3)))) + (if (w64 ((w64 (Int.tdiv s_3 p0_3)) - (w64 (Int.tdiv s_14 p0_3)))) < (w64 (0 - (w64 ((w64 (Int.tdiv s_3 p0_3)) - (w64 (Int.tdiv s_14 p0_3)))))) then (w64 (0 - (w64 ((w64 (Int.tdiv s_3 p0_3)) - (w64 (Int.tdiv s_14 p0_3)))))) else (w64 ((w64 (Int.tdiv s_3 p0_3)) - (w64 (Int.tdiv s_14 p0_3)))))))), (21, .slice a_p0_5 p0_5.length c_p0_5), (22, .int .i64 (p0_5.length : Int)), (23, .int .i64 s_3), (31, .slice a_p0_5 p0_5.length c_p0_5), (32, .int .i64 (p0_5.length : Int)), (33, .int .i64 s_14), (85, .bool true)] rfl ⟨rfl, rfl, rfl, rfl, rfl, rfl, rfl, rfl, rfl, rfl, rfl, rfl, rfl, rfl, rfl, rfl, trivial⟩ ?_
                      refine WO_end ?_
                      cases hx66
                      refine WK.sub ?_ (WK.cls (fun _ h => h) hk67)
                      exact ⟨rfl, rfl, rfl, rfl, rfl, rfl, rfl, rfl, rfl, rfl, rfl, rfl, rfl, rfl, rfl, rfl, trivial⟩
                    · have hx66 := ifF hb73 hx66
                      refine WO_pure tbok 4 [(1, .pointer (some ⟨b2, 0, none⟩)), (2, .pointer (some ⟨b3, 0, none⟩)), (3, .int .i64 0), (5, .slice a9 ((l_2).length) c11), (6, .int .i64 s_3), (7, .int .i64 s_12), (8, .int .i64 s_13), (10, .int .i64 v_17), (13, .int .i64 (w64 ((if (w64 ((Int.tmod s_3 p0_3) - (Int.tmod s_14 p0_3))) < (w64 (0 - (w64 ((Int.tmod s_3 p0_3) - (Int.tmod s_14 p0_3))))) then (w64 (0 - (w64 ((Int.tmod s_3 p0_3) - (Int.tmod s_14 p0_3))))) else (w64 ((Int.tmod s_3 p0_3) - (Int.tmod s_14 p0_3)))) + (if (w64 ((w64 (Int.tdiv s_3 p0_3)) - (w64 (Int.tdiv s_14 p0_3)))) < (w64 (0 - (w64 ((w64 (Int.tdiv s_3 p0_3)) - (w64 (Int.tdiv s_14 p0_3)))))) then (w64 (0 - (w64 ((w64 (Int.tdiv s_3 p0_3)) - (w64 (Int.tdiv s_14 p0_3)))))) else (w64 ((w64 (Int.tdiv s_3 p0_3)) - (w64 (Int.tdiv s_14 p0_3)))))))), (21, .slice a_p0_5 p0_5.length c_p0_5), (22, .int .i64 (p0_5.length : Int)), (23, .int .i64 s_3), (31, .slice a_p0_5 p0_5.length c_p0_5), (32, .int .i64 (p0_5.length : Int)), (33, .int .i64 s_14), (67, .bool true), (75, .bool false), (79, .bool ((w64 ((if (w64 ((Int.tmod s_3 p0_3) - (Int.tmod s_14 p0_3))) < (w64 (0 - (w64 ((Int.tmod s_3 p0_3) - (Int.tmod s_14 p0_3))))) then (w64 (0 - (w64 ((Int.tmod s_3 p0_3) - (Int.tmod s_14 p0_3))))) else (w64 ((Int.tmod s_3 p0_3) - (Int.tmod s_14 p0_3)))) + (if (w64 ((w64 (Int.tdiv s_3 p0_3)) - (w64 (Int.tdiv s_14 p0_3)))) < (w64 (0 - (w64 ((w64 (Int.tdiv s_3 p0_3)) - (w64 (Int.tdiv s_14 p0_3)))))) then (w64 (0 - (w64 ((w64 (Int.tdiv s_3 p0_3)) - (w64 (Int.tdiv s_14 p0_3)))))) else (w64 ((w64 (Int.tdiv s_3 p0_3)) - (w64 (Int.tdiv s_14 p0_3))))))) == s_13))] rfl ⟨rfl, rfl, rfl, rfl, rfl, rfl, rfl, rfl, rfl, rfl, rfl, rfl, rfl, rfl, rfl, rfl, rfl, rfl, trivial⟩ ?_
                      refine WO_split (d := 79) (b := (w64 ((if (w64 ((Int.tmod s_3 p0_3) - (Int.tmod s_14 p0_3))) < (w64 (0 - (w64 ((Int.tmod s_3 p0_3) - (Int.tmod s_14 p0_3))))) then (w64 (0 - (w64 ((Int.tmod s_3 p0_3) - (Int.tmod s_14 p0_3))))) else (w64 ((Int.tmod s_3 p0_3) - (Int.tmod s_14 p0_3)))) + (if (w64 ((w64 (Int.tdiv s_3 p0_3)) - (w64 (Int.tdiv s_14 p0_3)))) < (w64 (0 - (w64 ((w64 (Int.tdiv s_3 p0_3)) - (w64 (Int.tdiv s_14 p0_3)))))) then (w64 (0 - (w64 ((w64 (Int.tdiv s_3 p0_3)) - (w64 (Int.tdiv s_14 p0_3)))))) else (w64 ((w64 (Int.tdiv s_3 p0_3)) - (w64 (Int.tdiv s_14 p0_3))))))) == s_13) rfl (fun hb74 => ?_) (fun hb74 => ?_)
                      · have hx66 := ifT hb74 hx66
                        refine WO_pure tbok 6 [(1, .pointer (some ⟨b2, 0, none⟩)), (2, .pointer (some ⟨b3, 0, none⟩)), (3, .int .i64 0), (5, .slice a9 ((l_2).length) c11), (6, .int .i64 s_3), (7, .int .i64 s_12), (8, .int .i64 s_13), (10, .int .i64 v_17), (13, .int .i64 (w64 ((if (w64 ((Int.tmod s_3 p0_3) - (Int.tmod s_14 p0_3))) < (w64 (0 - (w64 ((Int.tmod s_3 p0_3) - (Int.tmod s_14 p0_3))))) then (w64 (0 - (w64 ((Int.tmod s_3 p0_3) - (Int.tmod s_14 p0_3))))) else (w64 ((Int.tmod s_3 p0_3) - (Int.tmod s_14 p0_3)))) + (if (w64 ((w64 (Int.tdiv s_3 p0_3)) - (w64 (Int.tdiv s_14 p0_3)))) < (w64 (0 - (w64 ((w64 (Int.tdiv s_3 p0_3)) - (w64 (Int.tdiv s_14 p0_3)))))) then (w64 (0 - (w64 ((w64 (Int.tdiv s_3 p0_3)) - (w64 (Int.tdiv s_14 p0_3)))))) else (w64 ((w64 (Int.tdiv s_3 p0_3)) - (w64 (Int.tdiv s_14 p0_3)))))))), (21, .slice a_p0_5 p0_5.length c_p0_5), (22, .int .i64 (p0_5.length : Int)), (23, .int .i64 s_3), (31, .slice a_p0_5 p0_5.length c_p0_5), (32, .int .i64 (p0_5.length : Int)), (33, .int .i64 s_14), (85, .bool (decide (v_17 < s_12)))] rfl ⟨rfl, rfl, rfl, rfl, rfl, rfl, rfl, rfl, rfl, rfl, rfl, rfl, rfl, rfl, rfl, rfl, trivial⟩ ?_
                        refine WO_end ?_
                        cases hx66
                        refine WK.sub ?_ (WK.cls (fun _ h => h) hk67)
                        exact ⟨rfl, rfl, rfl, rfl, rfl, rfl, rfl, rfl, rfl, rfl, rfl, rfl, rfl, rfl, rfl, rfl, trivial⟩
                      · have hx66 := ifF hb74 hx66
                        refine WO_pure tbok 6 [(1, .pointer (some ⟨b2, 0, none⟩)), (2, .pointer (some ⟨b3, 0, none⟩)), (3, .int .i64 0), (5, .slice a9 ((l_2).length) c11), (6, .int .i64 s_3), (7, .int .i64 s_12), (8, .int .i64 s_13), (10, .int .i64 v_17), (13, .int .i64 (w64 ((if (w64 ((Int.tmod s_3 p0_3) - (Int.tmod s_14 p0_3))) < (w64 (0 - (w64 ((Int.tmod s_3 p0_3) - (Int.tmod s_14 p0_3))))) then (w64 (0 - (w64 ((Int.tmod s_3 p0_3) - (Int.tmod s_14 p0_3))))) else (w64 ((Int.tmod s_3 p0_3) - (Int.tmod s_14 p0_3)))) + (if (w64 ((w64 (Int.tdiv s_3 p0_3)) - (w64 (Int.tdiv s_14 p0_3)))) < (w64 (0 - (w64 ((w64 (Int.tdiv s_3 p0_3)) - (w64 (Int.tdiv s_14 p0_3)))))) then (w64 (0 - (w64 ((w64 (Int.tdiv s_3 p0_3)) - (w64 (Int.tdiv s_14 p0_3)))))) else (w64 ((w64 (Int.tdiv s_3 p0_3)) - (w64 (Int.tdiv s_14 p0_3)))))))), (21, .slice a_p0_5 p0_5.length c_p0_5), (22, .int .i64 (p0_5.length : Int)), (23, .int .i64 s_3), (31, .slice a_p0_5 p0_5.length c_p0_5), (32, .int .i64 (p0_5.length : Int)), (33, .int .i64 s_14), (85, .bool false)] rfl ⟨rfl, rfl, rfl, rfl, rfl, rfl, rfl, rfl, rfl, rfl, rfl, rfl, rfl, rfl, rfl, rfl, trivial⟩ ?_
                        refine WO_end ?_
                        cases hx66
                        refine WK.sub ?_ (WK.cls (fun _ h => h) hk67)
                        exact ⟨rfl, rfl, rfl, rfl, rfl, rfl, rfl, rfl, rfl, rfl, rfl, rfl, rfl, rfl, rfl, rfl, trivial⟩
                · have hx66 := ifF hb71 hx66
                  refine WO_pure tbok 18 [(1, .pointer (some ⟨b2, 0, none⟩)), (2, .pointer (some ⟨b3, 0, none⟩)), (3, .int .i64 0), (5, .slice a9 ((l_2).length) c11), (6, .int .i64 s_3), (7, .int .i64 s_12), (8, .int .i64 s_13), (10, .int .i64 v_17), (13, .int .i64 (w64 ((if (w64 ((Int.tmod s_3 p0_3) - (Int.tmod s_14 p0_3))) < (w64 (0 - (w64 ((Int.tmod s_3 p0_3) - (Int.tmod s_14 p0_3))))) then (w64 (0 - (w64 ((Int.tmod s_3 p0_3) - (Int.tmod s_14 p0_3))))) else (w64 ((Int.tmod s_3 p0_3) - (Int.tmod s_14 p0_3)))) + (if (w64 ((w64 (Int.tdiv s_3 p0_3)) - (w64 (Int.tdiv s_14 p0_3)))) < (w64 (0 - (w64 ((w64 (Int.tdiv s_3 p0_3)) - (w64 (Int.tdiv s_14 p0_3)))))) then (w64 (0 - (w64 ((w64 (Int.tdiv s_3 p0_3)) - (w64 (Int.tdiv s_14 p0_3)))))) else (w64 ((w64 (Int.tdiv s_3 p0_3)) - (w64 (Int.tdiv s_14 p0_3)))))))), (21, .slice a_p0_5 p0_5.length c_p0_5), (22, .int .i64 (p0_5.length : Int)), (23, .int .i64 s_3), (31, .slice a_p0_5 p0_5.length c_p0_5), (32, .int .i64 (p0_5.length : Int)), (33, .int .i64 s_14), (85, .bool false)] rfl ⟨rfl, rfl, rfl, rfl, rfl, rfl, rfl, rfl, rfl, rfl, rfl, rfl, rfl, rfl, rfl, rfl, trivial⟩ ?_
                  refine WO_end ?_
                  cases hx66
                  refine WK.sub ?_ (WK.cls (fun _ h => h) hk67)
                  exact ⟨rfl, rfl, rfl, rfl, rfl, rfl, rfl, rfl, rfl, rfl, rfl, rfl, rfl, rfl, rfl, rfl, trivial⟩
            · have hm45 := ifF hb59 hm45
              refine WK_exit rfl ?_
              cases hm45
              refine WK.sub ?_ (WK.cls (fun _ h => h) (hk44 ((s_12, s_13), ()) (hd49 _ rfl)))
              exact ⟨rfl, rfl, rfl, rfl, rfl, rfl, rfl, rfl, rfl, trivial⟩
        · have hm20 := ifF hb41 hm20
          refine WK_skip ?_
          refine WK_region ?_
          refine WO_pure tbok 2 [(1, .pointer (some ⟨b2, 0, none⟩)), (2, .pointer (some ⟨b3, 0, none⟩)), (3, .int .i64 0), (5, .slice a9 ((l_2).length) c11), (21, .slice a_p0_5 p0_5.length c_p0_5), (22, .int .i64 (p0_5.length : Int)), (23, .int .i64 s_3), (92, .slice a9 ((l_2).length) c11), (93, .int .i64 v_11)] rfl ⟨rfl, rfl, rfl, rfl, rfl, rfl, rfl, rfl, rfl, trivial⟩ ?_
          refine WO_bslice (E := (I1 .i64)) tbok (fun _ => rfl) (by decide) [.int .i64 v_11] ([v_11] : List Int) rfl rfl trivial rfl rfl rfl rfl rfl rfl rfl rfl rfl rfl rfl rfl (fun b75 hb75 => ?_)
          refine WO.cls (C' := St w0 m m [[⟨b2, 25, [.int .i64 p0_0, .int .i64 p0_1, .int .i64 p0_2, .int .i64 p0_3, .int .i64 p0_4, .slice a_p0_5 p0_5.length c_p0_5]⟩], [⟨b3, 25, [.int .i64 0, .int .i64 0, .int .i64 0, .int .i64 0, .int .i64 0, .slice none 0 0]⟩], L8, [⟨b75, 3, ([v_11] : List Int).flatMap (I1 .i64)⟩]]) (fun _ h => h) ?_
          obtain ⟨hc77, hm20⟩ := chk_some hm20
          refine WO_append (E := (I1 .i64)) tbok (fun _ => rfl) 2 ([v_11] : List Int) (fun _ _ => rfl) rfl rfl rfl rfl rfl rfl rfl rfl rfl rfl rfl rfl hL8 rfl (src_seg (j := 3) rfl) (ap_ok (by decide) hc77) (ap_max hc77) (fun a78 c79 L80 hL80 => ?_)
          refine WO.cls (C' := St w0 m m [[⟨b2, 25, [.int .i64 p0_0, .int .i64 p0_1, .int .i64 p0_2, .int .i64 p0_3, .int .i64 p0_4, .slice a_p0_5 p0_5.length c_p0_5]⟩], [⟨b3, 25, [.int .i64 0, .int .i64 0, .int .i64 0, .int .i64 0, .int .i64 0, .slice none 0 0]⟩], L80, [⟨b75, 3, ([v_11] : List Int).flatMap (I1 .i64)⟩]]) (fun _ h => h) ?_
          refine WO_pure tbok 1 [(1, .pointer (some ⟨b2, 0, none⟩)), (2, .pointer (some ⟨b3, 0, none⟩)), (3, .int .i64 0), (5, .slice a78 ((l_2 ++ ([v_11] : List Int)).length) c79), (21, .slice a_p0_5 p0_5.length c_p0_5), (22, .int .i64 (p0_5.length : Int)), (23, .int .i64 s_3)] rfl ⟨rfl, rfl, rfl, rfl, rfl, rfl, rfl, trivial⟩ ?_
          refine WO_end ?_
          refine WK_blk ?_
          refine WK_region ?_
          refine WO_pure tbok 2 [(1, .pointer (some ⟨b2, 0, none⟩)), (2, .pointer (some ⟨b3, 0, none⟩)), (3, .int .i64 0), (5, .slice a78 ((l_2 ++ ([v_11] : List Int)).length) c79), (21, .slice a_p0_5 p0_5.length c_p0_5), (22, .int .i64 (p0_5.length : Int)), (23, .int .i64 (w64 (s_3 + 1)))] rfl ⟨rfl, rfl, rfl, rfl, rfl, rfl, rfl, trivial⟩ ?_
          refine WO_end ?_
          cases hm20
          refine WK.sub ?_ (WK.cls (fun _ h => St.take 3 h) (hn23 _ (a78, (l_2 ++ ([v_11] : List Int)).length, c79, L80) rfl hL80))
          exact ⟨rfl, rfl, rfl, rfl, rfl, rfl, rfl, trivial⟩
      · have hm20 := ifF hb38 hm20
        refine WK_exit rfl ?_
        cases hm20
        refine WK.sub ?_ (WK.cls (fun _ h => h) (hk19 (l_2, (a9, _, c11, L8)) ⟨(hd24 _ rfl), hL8⟩))
        exact ⟨rfl, rfl, rfl, rfl, trivial⟩
theorem slices_Index_sint_walk {m : Mu} {p0 : List Int} {p1 : Int} {a_p0 : Option Addr} {q_p0 c_p0 : Nat} (h_p0 : SlR (FE (I1 .i64)) 1 m (.slice a_p0 q_p0 c_p0) p0) {r : Int} (hm : slices_Index_sint p0 p1 = some r) :
    Go.E.Spec Try.prog 56 [.slice a_p0 q_p0 c_p0, .int .i64 p1] m (fun v _ _ => v = .int .i64 r) := by
  refine Spec_enter Try.func56 rfl rfl rfl (fun w0 => ?_)
  refine WK.sub (e' := [(0, .slice a_p0 q_p0 c_p0), (1, .int .i64 p1)]) ⟨rfl, rfl, trivial⟩ ?_
  obtain rfl := SlR.qlen h_p0
  refine WK.sub (e' := [(0, .slice a_p0 p0.length c_p0), (1, .int .i64 p1)]) ⟨rfl, rfl, trivial⟩ ?_
  unfold slices_Index_sint at hm
  refine WK_seq ?_
  refine WK_region ?_
  refine WO_pure tbok 1 [(0, .slice a_p0 p0.length c_p0), (1, .int .i64 p1), (4, .int .i64 0)] rfl ⟨rfl, rfl, rfl, trivial⟩ ?_
  refine WO_end ?_
  refine WK_seq ?_
  refine WK_seq ?_
  refine WK_region ?_
  refine WO_pure tbok 3 [(0, .slice a_p0 p0.length c_p0), (1, .int .i64 p1), (4, .int .i64 0), (7, .int .i64 (p0.length : Int)), (8, .int .i64 0)] rfl ⟨rfl, rfl, rfl, rfl, rfl, trivial⟩ ?_
  refine WO_end ?_
  obtain ⟨x2, hx3, hm⟩ := bind_some hm
  refine WK_join (β := Unit × Unit) (fun p => Sum.inr p.1 = x2) (fun p => [(4, .int .i64 0)]) (fun p => St w0 m m []) ?_ (fun hk4 => ?_)
  · rintro ⟨⟨⟩, ⟨⟩⟩ hq10
    subst hq10
    refine WK.sub (e' := [(4, .int .i64 0)]) ⟨rfl, trivial⟩ (WK.cls (C' := St w0 m m []) (fun _ h => h) ?_)
    refine WK_seq ?_
    refine WK_region ?_
    refine WO_pure tbok 1 [(4, .int .i64 (-1))] rfl ⟨rfl, trivial⟩ ?_
    refine WO_end ?_
    cases hm
    exact WK_ret (ret_out (L := []) (RLc_tmp rfl RLc_nil) (List.nil_sublist _) rfl)
  · refine WK_block ?_
    refine WK_loop (S := Int) (G := Unit) (fun s => slices_Index_sint_s1 p0 p1 s) (fun s g => [(0, .slice a_p0 p0.length c_p0), (1, .int .i64 p1), (4, .int .i64 0), (7, .int .i64 (p0.length : Int)), (8, .int .i64 s)]) (fun s g => St w0 m m []) (fun s g => True) FUEL 0 () x2 hx3 trivial ⟨rfl, rfl, rfl, rfl, rfl, trivial⟩ (fun _ h => h) ?_
    rintro s_1 ⟨⟩ o6 fl7 hm5 - hn8 hd9
    have hm5 : slices_Index_sint_s1 p0 p1 s_1 = some o6 := hm5
    unfold slices_Index_sint_s1 at hm5
    refine WK.sub (e' := [(0, .slice a_p0 p0.length c_p0), (1, .int .i64 p1), (4, .int .i64 0), (7, .int .i64 (p0.length : Int)), (8, .int .i64 s_1)]) ⟨rfl, rfl, rfl, rfl, rfl, trivial⟩ (WK.cls (C' := St w0 m m []) (fun _ h => h) ?_)
    refine WK_seq ?_
    refine WK_region ?_
    refine WO_pure tbok 1 [(0, .slice a_p0 p0.length c_p0), (1, .int .i64 p1), (4, .int .i64 0), (7, .int .i64 (p0.length : Int)), (8, .int .i64 s_1), (9, .bool (decide (s_1 < (p0.length : Int))))] rfl ⟨rfl, rfl, rfl, rfl, rfl, rfl, trivial⟩ ?_
    refine WO_end ?_
    refine WK_seq ?_
    refine WK_cond (b := decide (s_1 < (p0.length : Int))) rfl (fun hb11 => ?_) (fun hb11 => ?_)
    · have hm5 := ifT hb11 hm5
      refine WK_skip ?_
      refine WK_seq ?_
      refine WK_block ?_
      refine WK_seq ?_
      refine WK_region ?_
      refine WO_pure tbok 2 [(0, .slice a_p0 p0.length c_p0), (1, .int .i64 p1), (4, .int .i64 0), (5, .int .i64 s_1), (7, .int .i64 (p0.length : Int)), (8, .int .i64 s_1)] rfl ⟨rfl, rfl, rfl, rfl, rfl, rfl, trivial⟩ ?_
      refine WO_end ?_
      refine WK_seq ?_
      refine WK_region ?_
      refine WO_pure tbok 3 [(0, .slice a_p0 p0.length c_p0), (1, .int .i64 p1), (4, .int .i64 0), (5, .int .i64 s_1), (7, .int .i64 (p0.length : Int)), (8, .int .i64 s_1), (11, .int .i64 p1), (12, .slice a_p0 p0.length c_p0), (13, .int .i64 s_1)] rfl ⟨rfl, rfl, rfl, rfl, rfl, rfl, rfl, rfl, rfl, trivial⟩ ?_
      obtain ⟨v_2, hy12, hm5⟩ := bind_some hm5
      obtain ⟨hc13, hy12⟩ := ix_some hy12
      refine WO_index tbok rfl rfl rfl rfl rfl rfl rfl rfl (SlR.addr h_p0) hc13 ?_
      refine WO_loadE tbok rfl rfl rfl rfl (fun _ h => St.sat h) h_p0 hy12 rfl ?_
      refine WO_pure tbok 1 [(0, .slice a_p0 p0.length c_p0), (1, .int .i64 p1), (4, .int .i64 0), (5, .int .i64 s_1), (7, .int .i64 (p0.length : Int)), (8, .int .i64 s_1), (16, .bool (p1 == v_2))] rfl ⟨rfl, rfl, rfl, rfl, rfl, rfl, rfl, trivial⟩ ?_
      refine WO_end ?_
      refine WK_cond (b := p1 == v_2) rfl (fun hb14 => ?_) (fun hb14 => ?_)
      · have hm5 := ifT hb14 hm5
        refine WK_seq ?_
        refine WK_region ?_
        refine WO_pure tbok 2 [(0, .slice a_p0 p0.length c_p0), (1, .int .i64 p1), (4, .int .i64 s_1), (7, .int .i64 (p0.length : Int)), (8, .int .i64 s_1)] rfl ⟨rfl, rfl, rfl, rfl, rfl, trivial⟩ ?_
        refine WO_end ?_
        cases hm5
        have hq := hd9 _ rfl
        subst hq
        have hm : some _ = some _ := hm
        cases hm
        exact WK_ret (ret_out (L := []) (RLc_tmp rfl RLc_nil) (List.nil_sublist _) rfl)
      · have hm5 := ifF hb14 hm5
        refine WK_skip ?_
        refine WK_blk ?_
        refine WK_region ?_
        refine WO_pure tbok 2 [(0, .slice a_p0 p0.length c_p0), (1, .int .i64 p1), (4, .int .i64 0), (7, .int .i64 (p0.length : Int)), (8, .int .i64 (w64 (s_1 + 1)))] rfl ⟨rfl, rfl, rfl, rfl, rfl, trivial⟩ ?_
        refine WO_end ?_
        cases hm5
        refine WK.sub ?_ (WK.cls (fun _ h => h) (hn8 _ () rfl trivial))
        exact ⟨rfl, rfl, rfl, rfl, rfl, trivial⟩
    · have hm5 := ifF hb11 hm5
      refine WK_exit rfl ?_
      cases hm5
      refine WK.sub ?_ (WK.cls (fun _ h => h) (hk4 ((), ()) (hd9 _ rfl)))
      exact ⟨rfl, trivial⟩
theorem slices_Contains_sint_walk {m : Mu} {p0 : List Int} {p1 : Int} {a_p0 : Option Addr} {q_p0 c_p0 : Nat} (h_p0 : SlR (FE (I1 .i64)) 1 m (.slice a_p0 q_p0 c_p0) p0) {r : Bool} (hm : slices_Contains_sint p0 p1 = some r) :
    Go.E.Spec Try.prog 37 [.slice a_p0 q_p0 c_p0, .int .i64 p1] m (fun v _ _ => v = .bool r) := by
  refine Spec_enter Try.func37 rfl rfl rfl (fun w0 => ?_)
  refine WK.sub (e' := [(0, .slice a_p0 q_p0 c_p0), (1, .int .i64 p1)]) ⟨rfl, rfl, trivial⟩ ?_
  obtain rfl := SlR.qlen h_p0
  refine WK.sub (e' := [(0, .slice a_p0 p0.length c_p0), (1, .int .i64 p1)]) ⟨rfl, rfl, trivial⟩ ?_
  unfold slices_Contains_sint at hm
  refine WK_seq ?_
  refine WK_region ?_
  refine WO_pure tbok 1 [(0, .slice a_p0 p0.length c_p0), (1, .int .i64 p1), (4, .bool false)] rfl ⟨rfl, rfl, rfl, trivial⟩ ?_
  refine WO_end ?_
  refine WK_seq ?_
  refine WK_region ?_
  refine WO_pure tbok 2 [(4, .bool false), (5, .slice a_p0 p0.length c_p0), (6, .int .i64 p1)] rfl ⟨rfl, rfl, rfl, trivial⟩ ?_
  obtain ⟨y_1, hc2, hm⟩ := bind_some hm
  refine WO_call0 (.int .i64 y_1) rfl rfl trivial rfl rfl rfl rfl St_closed ⟨56, #[], #[], rfl, callable_56, fun w hw => ⟨_, hw.sat, slices_Index_sint_walk h_p0 hc2⟩⟩ ?_
  refine WO_pure tbok 2 [(4, .bool (decide (0 ≤ y_1)))] rfl ⟨rfl, trivial⟩ ?_
  refine WO_end ?_
  cases hm
  exact WK_ret (ret_out (L := []) (RLc_tmp rfl RLc_nil) (List.nil_sublist _) rfl)
theorem fiduciallaw48_TerrainFills_walk {m : Mu} {p0_0 : Int} {p0_1 : Int} {p0_2 : Int} {p0_3 : Int} {p0_4 : Int} {p0_5 : List Int} {p1 : List Bool} {a_p0_5 : Option Addr} {q_p0_5 c_p0_5 : Nat} {a_p1 : Option Addr} {q_p1 c_p1 : Nat} (h_p0_5 : SlR (FE (I1 .i64)) 1 m (.slice a_p0_5 q_p0_5 c_p0_5) p0_5) (h_p1 : SlR (FE B1) 1 m (.slice a_p1 q_p1 c_p1) p1) {r : Bool} (hm : fiduciallaw48_TerrainFills p0_0 p0_1 p0_2 p0_3 p0_4 p0_5 p1 = some r) :
    Go.E.Spec Try.prog 10 [.agg #[.int .i64 p0_0, .int .i64 p0_1, .int .i64 p0_2, .int .i64 p0_3, .int .i64 p0_4, .slice a_p0_5 q_p0_5 c_p0_5], .slice a_p1 q_p1 c_p1] m (fun v _ _ => v = .bool r) := by
  refine Spec_enter Try.func10 rfl rfl rfl (fun w0 => ?_)
  refine WK.sub (e' := [(0, .agg #[.int .i64 p0_0, .int .i64 p0_1, .int .i64 p0_2, .int .i64 p0_3, .int .i64 p0_4, .slice a_p0_5 q_p0_5 c_p0_5]), (1, .slice a_p1 q_p1 c_p1)]) ⟨rfl, rfl, trivial⟩ ?_
  obtain rfl := SlR.qlen h_p0_5
  obtain rfl := SlR.qlen h_p1
  refine WK.sub (e' := [(0, .agg #[.int .i64 p0_0, .int .i64 p0_1, .int .i64 p0_2, .int .i64 p0_3, .int .i64 p0_4, .slice a_p0_5 p0_5.length c_p0_5]), (1, .slice a_p1 p1.length c_p1)]) ⟨rfl, rfl, trivial⟩ ?_
  unfold fiduciallaw48_TerrainFills at hm
  refine WK_seq ?_
  refine WK_region ?_
  refine WO_box [.int .i64 p0_0, .int .i64 p0_1, .int .i64 p0_2, .int .i64 p0_3, .int .i64 p0_4, .slice a_p0_5 p0_5.length c_p0_5] rfl rfl trivial rfl rfl rfl (fun b3 => ?_)
  refine WO.cls (C' := St w0 m m [[⟨b3, 25, [.int .i64 p0_0, .int .i64 p0_1, .int .i64 p0_2, .int .i64 p0_3, .int .i64 p0_4, .slice a_p0_5 p0_5.length c_p0_5]⟩]]) (fun _ h => h) ?_
  refine WO_pure tbok 1 [(1, .slice a_p1 p1.length c_p1), (2, .pointer (some ⟨b3, 0, none⟩)), (4, .bool false)] rfl ⟨rfl, rfl, rfl, trivial⟩ ?_
  refine WO_end ?_
  refine WK_seq ?_
  refine WK_seq ?_
  refine WK_region ?_
  obtain ⟨y_1, hc4, hm⟩ := bind_some hm
  refine WO_call0 (.bool y_1) rfl rfl trivial rfl rfl rfl rfl St_closed ⟨11, #[], #[], rfl, callable_11, fun w hw => ⟨_, hw.sat, fiduciallaw48_known_walk hc4⟩⟩ ?_
  refine WO_pure tbok 1 [(1, .slice a_p1 p1.length c_p1), (2, .pointer (some ⟨b3, 0, none⟩)), (4, .bool false), (16, .bool (!y_1))] rfl ⟨rfl, rfl, rfl, rfl, trivial⟩ ?_
  refine WO_end ?_
  refine WK_cond (b := !y_1) rfl (fun hb5 => ?_) (fun hb5 => ?_)
  · have hm := ifT hb5 hm
    refine WK_seq ?_
    refine WK_region ?_
    refine WO_pure tbok 1 [(1, .slice a_p1 p1.length c_p1), (2, .pointer (some ⟨b3, 0, none⟩)), (4, .bool false)] rfl ⟨rfl, rfl, rfl, trivial⟩ ?_
    refine WO_end ?_
    cases hm
    exact WK_ret (ret_out (L := []) (RLc_tmp rfl RLc_nil) (List.nil_sublist _) rfl)
  · have hm := ifF hb5 hm
    refine WK_skip ?_
    refine WK_seq ?_
    refine WK_seq ?_
    obtain ⟨s_2, hx6, hm⟩ := bind_some hm
    refine WK_meet [(1, .slice a_p1 p1.length c_p1), (2, .pointer (some ⟨b3, 0, none⟩)), (4, .bool false), (24, .bool s_2)] (St w0 m m [[⟨b3, 25, [.int .i64 p0_0, .int .i64 p0_1, .int .i64 p0_2, .int .i64 p0_3, .int .i64 p0_4, .slice a_p0_5 p0_5.length c_p0_5]⟩]]) ?_ (fun hk7 => ?_)
    · refine WK_cond (b := s_2) rfl (fun hb8 => ?_) (fun hb8 => ?_)
      · have hm := ifT hb8 hm
        refine WK_seq ?_
        refine WK_region ?_
        refine WO_pure tbok 1 [(1, .slice a_p1 p1.length c_p1), (2, .pointer (some ⟨b3, 0, none⟩)), (4, .bool true)] rfl ⟨rfl, rfl, rfl, trivial⟩ ?_
        refine WO_end ?_
        cases hm
        exact WK_ret (ret_out (L := []) (RLc_tmp rfl RLc_nil) (List.nil_sublist _) rfl)
      · have hm := ifF hb8 hm
        refine WK_skip ?_
        refine WK_seq ?_
        refine WK_region ?_
        refine WO_loadB tbok 0 rfl rfl rfl rfl (fun _ h => h) rfl rfl ?_
        refine WO_pure tbok 1 [(1, .slice a_p1 p1.length c_p1), (2, .pointer (some ⟨b3, 0, none⟩)), (4, .bool false), (26, .agg #[.int .i64 p0_0, .int .i64 p0_1, .int .i64 p0_2, .int .i64 p0_3, .int .i64 p0_4, .slice a_p0_5 p0_5.length c_p0_5]), (27, .slice a_p1 p1.length c_p1)] rfl ⟨rfl, rfl, rfl, rfl, rfl, trivial⟩ ?_
        obtain ⟨⟨y_3, y_4, y_5, y_6, y_7, y_8, y_9⟩, hc9, hm⟩ := bind_some hm
        refine WO_call2 (terrain_Keep_Q (y_3, y_4, y_5, y_6, y_7, y_8, y_9)) rfl rfl trivial rfl rfl rfl rfl ⟨33, #[], #[], rfl, callable_33, terrain_Keep_walk h_p0_5 h_p1 hc9⟩ (fun v14 m15 L13 hle16 hq => ?_)
        obtain ⟨a10, qa10, c11, rfl, h17⟩ := hq
        obtain rfl := SlR.qlen h17
        refine WO.cls (C' := St w0 m m15 [[⟨b3, 25, [.int .i64 p0_0, .int .i64 p0_1, .int .i64 p0_2, .int .i64 p0_3, .int .i64 p0_4, .slice a_p0_5 p0_5.length c_p0_5]⟩], L13]) (fun _ h => h.sub (by simp)) ?_
        refine WO_pure tbok 3 [(1, .slice a_p1 p1.length c_p1), (2, .pointer (some ⟨b3, 0, none⟩)), (4, .bool false), (29, .agg #[.int .i64 y_3, .int .i64 y_4, .int .i64 y_5, .int .i64 y_6, .int .i64 y_7, .slice a10 ((y_8).length) c11]), (30, .int .i64 y_9)] rfl ⟨rfl, rfl, rfl, rfl, rfl, trivial⟩ ?_
        refine WO_alloc tbok [.int .i64 0, .int .i64 0, .int .i64 0, .int .i64 0, .int .i64 0, .slice none 0 0] rfl rfl trivial rfl rfl rfl rfl (fun b18 => ?_)
        refine WO.cls (C' := St w0 m m15 [[⟨b3, 25, [.int .i64 p0_0, .int .i64 p0_1, .int .i64 p0_2, .int .i64 p0_3, .int .i64 p0_4, .slice a_p0_5 p0_5.length c_p0_5]⟩], L13, [⟨b18, 25, [.int .i64 0, .int .i64 0, .int .i64 0, .int .i64 0, .int .i64 0, .slice none 0 0]⟩]]) (fun _ h => h) ?_
        refine WO_storeB tbok 2 [.int .i64 y_3, .int .i64 y_4, .int .i64 y_5, .int .i64 y_6, .int .i64 y_7, .slice a10 ((y_8).length) c11] rfl rfl rfl rfl rfl rfl rfl ?_
        refine WO.cls (C' := St w0 m m15 [[⟨b3, 25, [.int .i64 p0_0, .int .i64 p0_1, .int .i64 p0_2, .int .i64 p0_3, .int .i64 p0_4, .slice a_p0_5 p0_5.length c_p0_5]⟩], L13, [⟨b18, 25, [.int .i64 y_3, .int .i64 y_4, .int .i64 y_5, .int .i64 y_6, .int .i64 y_7, .slice a10 ((y_8).length) c11]⟩]]) (fun _ h => h) ?_
        refine WO_pure tbok 1 [(1, .slice a_p1 p1.length c_p1), (2, .pointer (some ⟨b3, 0, none⟩)), (4, .bool false), (5, .pointer (some ⟨b18, 0, none⟩)), (6, .int .i64 y_9)] rfl ⟨rfl, rfl, rfl, rfl, rfl, trivial⟩ ?_
        refine WO_end ?_
        refine WK_seq ?_
        refine WK_region ?_
        refine WO_loadB tbok 0 rfl rfl rfl rfl (fun _ h => h) rfl rfl ?_
        refine WO_pure tbok 1 [(2, .pointer (some ⟨b3, 0, none⟩)), (4, .bool false), (5, .pointer (some ⟨b18, 0, none⟩)), (6, .int .i64 y_9), (32, .agg #[.int .i64 p0_0, .int .i64 p0_1, .int .i64 p0_2, .int .i64 p0_3, .int .i64 p0_4, .slice a_p0_5 p0_5.length c_p0_5]), (33, .slice a_p1 p1.length c_p1)] rfl ⟨rfl, rfl, rfl, rfl, rfl, rfl, trivial⟩ ?_
        obtain ⟨⟨y_10, y_11, y_12, y_13, y_14, y_15, y_16⟩, hc19, hm⟩ := bind_some hm
        refine WO_call2 (fiduciallaw48_kept_Q (y_10, y_11, y_12, y_13, y_14, y_15, y_16)) rfl rfl trivial rfl rfl rfl rfl ⟨34, #[], #[], rfl, callable_34, fiduciallaw48_kept_walk (h_p0_5.mono (mono_FE _) hle16) (h_p1.mono (mono_FE _) hle16) hc19⟩ (fun v24 m25 L23 hle26 hq => ?_)
        obtain ⟨a20, qa20, c21, rfl, h27⟩ := hq
        obtain rfl := SlR.qlen h27
        refine WO.cls (C' := St w0 m m25 [[⟨b3, 25, [.int .i64 p0_0, .int .i64 p0_1, .int .i64 p0_2, .int .i64 p0_3, .int .i64 p0_4, .slice a_p0_5 p0_5.length c_p0_5]⟩], L13, [⟨b18, 25, [.int .i64 y_3, .int .i64 y_4, .int .i64 y_5, .int .i64 y_6, .int .i64 y_7, .slice a10 ((y_8).length) c11]⟩], L23]) (fun _ h => h.sub (by simp)) ?_
        refine WO_pure tbok 3 [(2, .pointer (some ⟨b3, 0, none⟩)), (4, .bool false), (5, .pointer (some ⟨b18, 0, none⟩)), (6, .int .i64 y_9), (35, .agg #[.int .i64 y_10, .int .i64 y_11, .int .i64 y_12, .int .i64 y_13, .int .i64 y_14, .slice a20 ((y_15).length) c21]), (36, .int .i64 y_16)] rfl ⟨rfl, rfl, rfl, rfl, rfl, rfl, trivial⟩ ?_
        refine WO_alloc tbok [.int .i64 0, .int .i64 0, .int .i64 0, .int .i64 0, .int .i64 0, .slice none 0 0] rfl rfl trivial rfl rfl rfl rfl (fun b28 => ?_)
        refine WO.cls (C' := St w0 m m25 [[⟨b3, 25, [.int .i64 p0_0, .int .i64 p0_1, .int .i64 p0_2, .int .i64 p0_3, .int .i64 p0_4, .slice a_p0_5 p0_5.length c_p0_5]⟩], L13, [⟨b18, 25, [.int .i64 y_3, .int .i64 y_4, .int .i64 y_5, .int .i64 y_6, .int .i64 y_7, .slice a10 ((y_8).length) c11]⟩], L23, [⟨b28, 25, [.int .i64 0, .int .i64 0, .int .i64 0, .int .i64 0, .int .i64 0, .slice none 0 0]⟩]]) (fun _ h => h) ?_
        refine WO_storeB tbok 4 [.int .i64 y_10, .int .i64 y_11, .int .i64 y_12, .int .i64 y_13, .int .i64 y_14, .slice a20 ((y_15).length) c21] rfl rfl rfl rfl rfl rfl rfl ?_
        refine WO.cls (C' := St w0 m m25 [[⟨b3, 25, [.int .i64 p0_0, .int .i64 p0_1, .int .i64 p0_2, .int .i64 p0_3, .int .i64 p0_4, .slice a_p0_5 p0_5.length c_p0_5]⟩], L13, [⟨b18, 25, [.int .i64 y_3, .int .i64 y_4, .int .i64 y_5, .int .i64 y_6, .int .i64 y_7, .slice a10 ((y_8).length) c11]⟩], L23, [⟨b28, 25, [.int .i64 y_10, .int .i64 y_11, .int .i64 y_12, .int .i64 y_13, .int .i64 y_14, .slice a20 ((y_15).length) c21]⟩]]) (fun _ h => h) ?_
        refine WO_pure tbok 1 [(2, .pointer (some ⟨b3, 0, none⟩)), (4, .bool false), (5, .pointer (some ⟨b18, 0, none⟩)), (6, .int .i64 y_9), (7, .pointer (some ⟨b28, 0, none⟩)), (8, .int .i64 y_16)] rfl ⟨rfl, rfl, rfl, rfl, rfl, rfl, trivial⟩ ?_
        refine WO_end ?_
        refine WK_seq ?_
        refine WK_region ?_
        refine WO_loadB tbok 0 rfl rfl rfl rfl (fun _ h => h) rfl rfl ?_
        obtain ⟨⟨y_17, y_18, y_19, y_20, y_21, y_22, y_23⟩, hc29, hm⟩ := bind_some hm
        refine WO_call2 (terrain_Fill_Q (y_17, y_18, y_19, y_20, y_21, y_22, y_23)) rfl rfl trivial rfl rfl rfl rfl ⟨35, #[], #[], rfl, callable_35, terrain_Fill_walk ((h_p0_5.mono (mono_FE _) hle16).mono (mono_FE _) hle26) hc29⟩ (fun v34 m35 L33 hle36 hq => ?_)
        obtain ⟨a30, qa30, c31, rfl, h37⟩ := hq
        obtain rfl := SlR.qlen h37
        refine WO.cls (C' := St w0 m m35 [[⟨b3, 25, [.int .i64 p0_0, .int .i64 p0_1, .int .i64 p0_2, .int .i64 p0_3, .int .i64 p0_4, .slice a_p0_5 p0_5.length c_p0_5]⟩], L13, [⟨b18, 25, [.int .i64 y_3, .int .i64 y_4, .int .i64 y_5, .int .i64 y_6, .int .i64 y_7, .slice a10 ((y_8).length) c11]⟩], L23, [⟨b28, 25, [.int .i64 y_10, .int .i64 y_11, .int .i64 y_12, .int .i64 y_13, .int .i64 y_14, .slice a20 ((y_15).length) c21]⟩], L33]) (fun _ h => h.sub (by simp)) ?_
        refine WO_pure tbok 3 [(2, .pointer (some ⟨b3, 0, none⟩)), (4, .bool false), (5, .pointer (some ⟨b18, 0, none⟩)), (6, .int .i64 y_9), (7, .pointer (some ⟨b28, 0, none⟩)), (8, .int .i64 y_16), (40, .agg #[.int .i64 y_17, .int .i64 y_18, .int .i64 y_19, .int .i64 y_20, .int .i64 y_21, .slice a30 ((y_22).length) c31]), (41, .int .i64 y_23)] rfl ⟨rfl, rfl, rfl, rfl, rfl, rfl, rfl, rfl, trivial⟩ ?_
        refine WO_alloc tbok [.int .i64 0, .int .i64 0, .int .i64 0, .int .i64 0, .int .i64 0, .slice none 0 0] rfl rfl trivial rfl rfl rfl rfl (fun b38 => ?_)
        refine WO.cls (C' := St w0 m m35 [[⟨b3, 25, [.int .i64 p0_0, .int .i64 p0_1, .int .i64 p0_2, .int .i64 p0_3, .int .i64 p0_4, .slice a_p0_5 p0_5.length c_p0_5]⟩], L13, [⟨b18, 25, [.int .i64 y_3, .int .i64 y_4, .int .i64 y_5, .int .i64 y_6, .int .i64 y_7, .slice a10 ((y_8).length) c11]⟩], L23, [⟨b28, 25, [.int .i64 y_10, .int .i64 y_11, .int .i64 y_12, .int .i64 y_13, .int .i64 y_14, .slice a20 ((y_15).length) c21]⟩], L33, [⟨b38, 25, [.int .i64 0, .int .i64 0, .int .i64 0, .int .i64 0, .int .i64 0, .slice none 0 0]⟩]]) (fun _ h => h) ?_
        refine WO_storeB tbok 6 [.int .i64 y_17, .int .i64 y_18, .int .i64 y_19, .int .i64 y_20, .int .i64 y_21, .slice a30 ((y_22).length) c31] rfl rfl rfl rfl rfl rfl rfl ?_
        refine WO.cls (C' := St w0 m m35 [[⟨b3, 25, [.int .i64 p0_0, .int .i64 p0_1, .int .i64 p0_2, .int .i64 p0_3, .int .i64 p0_4, .slice a_p0_5 p0_5.length c_p0_5]⟩], L13, [⟨b18, 25, [.int .i64 y_3, .int .i64 y_4, .int .i64 y_5, .int .i64 y_6, .int .i64 y_7, .slice a10 ((y_8).length) c11]⟩], L23, [⟨b28, 25, [.int .i64 y_10, .int .i64 y_11, .int .i64 y_12, .int .i64 y_13, .int .i64 y_14, .slice a20 ((y_15).length) c21]⟩], L33, [⟨b38, 25, [.int .i64 y_17, .int .i64 y_18, .int .i64 y_19, .int .i64 y_20, .int .i64 y_21, .slice a30 ((y_22).length) c31]⟩]]) (fun _ h => h) ?_
        refine WO_pure tbok 1 [(2, .pointer (some ⟨b3, 0, none⟩)), (4, .bool false), (5, .pointer (some ⟨b18, 0, none⟩)), (6, .int .i64 y_9), (7, .pointer (some ⟨b28, 0, none⟩)), (8, .int .i64 y_16), (9, .pointer (some ⟨b38, 0, none⟩)), (10, .int .i64 y_23)] rfl ⟨rfl, rfl, rfl, rfl, rfl, rfl, rfl, rfl, trivial⟩ ?_
        refine WO_end ?_
        refine WK_seq ?_
        refine WK_region ?_
        refine WO_loadB tbok 0 rfl rfl rfl rfl (fun _ h => h) rfl rfl ?_
        obtain ⟨⟨y_24, y_25, y_26, y_27, y_28, y_29, y_30⟩, hc39, hm⟩ := bind_some hm
        refine WO_call2 (fiduciallaw48_filled_Q (y_24, y_25, y_26, y_27, y_28, y_29, y_30)) rfl rfl trivial rfl rfl rfl rfl ⟨36, #[], #[], rfl, callable_36, fiduciallaw48_filled_walk (((h_p0_5.mono (mono_FE _) hle16).mono (mono_FE _) hle26).mono (mono_FE _) hle36) hc39⟩ (fun v44 m45 L43 hle46 hq => ?_)
        obtain ⟨a40, qa40, c41, rfl, h47⟩ := hq
        obtain rfl := SlR.qlen h47
        refine WO.cls (C' := St w0 m m45 [[⟨b3, 25, [.int .i64 p0_0, .int .i64 p0_1, .int .i64 p0_2, .int .i64 p0_3, .int .i64 p0_4, .slice a_p0_5 p0_5.length c_p0_5]⟩], L13, [⟨b18, 25, [.int .i64 y_3, .int .i64 y_4, .int .i64 y_5, .int .i64 y_6, .int .i64 y_7, .slice a10 ((y_8).length) c11]⟩], L23, [⟨b28, 25, [.int .i64 y_10, .int .i64 y_11, .int .i64 y_12, .int .i64 y_13, .int .i64 y_14, .slice a20 ((y_15).length) c21]⟩], L33, [⟨b38, 25, [.int .i64 y_17, .int .i64 y_18, .int .i64 y_19, .int .i64 y_20, .int .i64 y_21, .slice a30 ((y_22).length) c31]⟩], L43]) (fun _ h => h.sub (by simp)) ?_
        refine WO_pure tbok 3 [(2, .pointer (some ⟨b3, 0, none⟩)), (4, .bool false), (5, .pointer (some ⟨b18, 0, none⟩)), (6, .int .i64 y_9), (7, .pointer (some ⟨b28, 0, none⟩)), (8, .int .i64 y_16), (9, .pointer (some ⟨b38, 0, none⟩)), (10, .int .i64 y_23), (45, .agg #[.int .i64 y_24, .int .i64 y_25, .int .i64 y_26, .int .i64 y_27, .int .i64 y_28, .slice a40 ((y_29).length) c41]), (46, .int .i64 y_30)] rfl ⟨rfl, rfl, rfl, rfl, rfl, rfl, rfl, rfl, rfl, rfl, trivial⟩ ?_
        refine WO_alloc tbok [.int .i64 0, .int .i64 0, .int .i64 0, .int .i64 0, .int .i64 0, .slice none 0 0] rfl rfl trivial rfl rfl rfl rfl (fun b48 => ?_)
        refine WO.cls (C' := St w0 m m45 [[⟨b3, 25, [.int .i64 p0_0, .int .i64 p0_1, .int .i64 p0_2, .int .i64 p0_3, .int .i64 p0_4, .slice a_p0_5 p0_5.length c_p0_5]⟩], L13, [⟨b18, 25, [.int .i64 y_3, .int .i64 y_4, .int .i64 y_5, .int .i64 y_6, .int .i64 y_7, .slice a10 ((y_8).length) c11]⟩], L23, [⟨b28, 25, [.int .i64 y_10, .int .i64 y_11, .int .i64 y_12, .int .i64 y_13, .int .i64 y_14, .slice a20 ((y_15).length) c21]⟩], L33, [⟨b38, 25, [.int .i64 y_17, .int .i64 y_18, .int .i64 y_19, .int .i64 y_20, .int .i64 y_21, .slice a30 ((y_22).length) c31]⟩], L43, [⟨b48, 25, [.int .i64 0, .int .i64 0, .int .i64 0, .int .i64 0, .int .i64 0, .slice none 0 0]⟩]]) (fun _ h => h) ?_
        refine WO_storeB tbok 8 [.int .i64 y_24, .int .i64 y_25, .int .i64 y_26, .int .i64 y_27, .int .i64 y_28, .slice a40 ((y_29).length) c41] rfl rfl rfl rfl rfl rfl rfl ?_
        refine WO.cls (C' := St w0 m m45 [[⟨b3, 25, [.int .i64 p0_0, .int .i64 p0_1, .int .i64 p0_2, .int .i64 p0_3, .int .i64 p0_4, .slice a_p0_5 p0_5.length c_p0_5]⟩], L13, [⟨b18, 25, [.int .i64 y_3, .int .i64 y_4, .int .i64 y_5, .int .i64 y_6, .int .i64 y_7, .slice a10 ((y_8).length) c11]⟩], L23, [⟨b28, 25, [.int .i64 y_10, .int .i64 y_11, .int .i64 y_12, .int .i64 y_13, .int .i64 y_14, .slice a20 ((y_15).length) c21]⟩], L33, [⟨b38, 25, [.int .i64 y_17, .int .i64 y_18, .int .i64 y_19, .int .i64 y_20, .int .i64 y_21, .slice a30 ((y_22).length) c31]⟩], L43, [⟨b48, 25, [.int .i64 y_24, .int .i64 y_25, .int .i64 y_26, .int .i64 y_27, .int .i64 y_28, .slice a40 ((y_29).length) c41]⟩]]) (fun _ h => h) ?_
        refine WO_pure tbok 1 [(2, .pointer (some ⟨b3, 0, none⟩)), (4, .bool false), (5, .pointer (some ⟨b18, 0, none⟩)), (6, .int .i64 y_9), (7, .pointer (some ⟨b28, 0, none⟩)), (8, .int .i64 y_16), (9, .pointer (some ⟨b38, 0, none⟩)), (10, .int .i64 y_23), (11, .pointer (some ⟨b48, 0, none⟩)), (12, .int .i64 y_30)] rfl ⟨rfl, rfl, rfl, rfl, rfl, rfl, rfl, rfl, rfl, rfl, trivial⟩ ?_
        refine WO_end ?_
        refine WK_seq ?_
        refine WK_seq ?_
        obtain ⟨s_31, hx49, hm⟩ := bind_some hm
        refine WK_meet [(2, .pointer (some ⟨b3, 0, none⟩)), (4, .bool false), (9, .pointer (some ⟨b38, 0, none⟩)), (66, .bool s_31)] (St w0 m m45 [[⟨b3, 25, [.int .i64 p0_0, .int .i64 p0_1, .int .i64 p0_2, .int .i64 p0_3, .int .i64 p0_4, .slice a_p0_5 p0_5.length c_p0_5]⟩], L13, [⟨b18, 25, [.int .i64 y_3, .int .i64 y_4, .int .i64 y_5, .int .i64 y_6, .int .i64 y_7, .slice a10 ((y_8).length) c11]⟩], L23, [⟨b28, 25, [.int .i64 y_10, .int .i64 y_11, .int .i64 y_12, .int .i64 y_13, .int .i64 y_14, .slice a20 ((y_15).length) c21]⟩], L33, [⟨b38, 25, [.int .i64 y_17, .int .i64 y_18, .int .i64 y_19, .int .i64 y_20, .int .i64 y_21, .slice a30 ((y_22).length) c31]⟩], L43, [⟨b48, 25, [.int .i64 y_24, .int .i64 y_25, .int .i64 y_26, .int .i64 y_27, .int .i64 y_28, .slice a40 ((y_29).length) c41]⟩]]) ?_ (fun hk50 => ?_)
        · refine WK_cond (b := s_31) rfl (fun hb51 => ?_) (fun hb51 => ?_)
          · have hm := ifT hb51 hm
            refine WK_seq ?_
            refine WK_region ?_
            refine WO_pure tbok 1 [(2, .pointer (some ⟨b3, 0, none⟩)), (4, .bool false), (9, .pointer (some ⟨b38, 0, none⟩))] rfl ⟨rfl, rfl, rfl, trivial⟩ ?_
            refine WO_end ?_
            cases hm
            exact WK_ret (ret_out (L := []) (RLc_tmp rfl RLc_nil) (List.nil_sublist _) rfl)
          · have hm := ifF hb51 hm
            refine WK_skip ?_
            refine WK_seq ?_
            refine WK_seq ?_
            refine WK_region ?_
            refine WO_pure tbok 1 [(2, .pointer (some ⟨b3, 0, none⟩)), (4, .bool false), (67, .pointer (some ⟨b38, 5, none⟩))] rfl ⟨rfl, rfl, rfl, trivial⟩ ?_
            refine WO_loadB tbok 6 rfl rfl rfl rfl (fun _ h => h) rfl rfl ?_
            refine WO_pure tbok 2 [(2, .pointer (some ⟨b3, 0, none⟩)), (4, .bool false), (68, .slice a30 ((y_22).length) c31), (69, .int .i64 ((y_22).length : Int)), (70, .int .i64 0)] rfl ⟨rfl, rfl, rfl, rfl, rfl, trivial⟩ ?_
            refine WO_end ?_
            obtain ⟨x52, hx53, hm⟩ := bind_some hm
            refine WK_join (β := Unit × Unit) (fun p => Sum.inr p.1 = x52) (fun p => [(4, .bool false)]) (fun p => St w0 m m45 [[⟨b3, 25, [.int .i64 p0_0, .int .i64 p0_1, .int .i64 p0_2, .int .i64 p0_3, .int .i64 p0_4, .slice a_p0_5 p0_5.length c_p0_5]⟩], L13, [⟨b18, 25, [.int .i64 y_3, .int .i64 y_4, .int .i64 y_5, .int .i64 y_6, .int .i64 y_7, .slice a10 ((y_8).length) c11]⟩], L23, [⟨b28, 25, [.int .i64 y_10, .int .i64 y_11, .int .i64 y_12, .int .i64 y_13, .int .i64 y_14, .slice a20 ((y_15).length) c21]⟩], L33, [⟨b38, 25, [.int .i64 y_17, .int .i64 y_18, .int .i64 y_19, .int .i64 y_20, .int .i64 y_21, .slice a30 ((y_22).length) c31]⟩], L43, [⟨b48, 25, [.int .i64 y_24, .int .i64 y_25, .int .i64 y_26, .int .i64 y_27, .int .i64 y_28, .slice a40 ((y_29).length) c41]⟩]]) ?_ (fun hk54 => ?_)
            · rintro ⟨⟨⟩, ⟨⟩⟩ hq60
              subst hq60
              refine WK.sub (e' := [(4, .bool false)]) ⟨rfl, trivial⟩ (WK.cls (C' := St w0 m m45 [[⟨b3, 25, [.int .i64 p0_0, .int .i64 p0_1, .int .i64 p0_2, .int .i64 p0_3, .int .i64 p0_4, .slice a_p0_5 p0_5.length c_p0_5]⟩], L13, [⟨b18, 25, [.int .i64 y_3, .int .i64 y_4, .int .i64 y_5, .int .i64 y_6, .int .i64 y_7, .slice a10 ((y_8).length) c11]⟩], L23, [⟨b28, 25, [.int .i64 y_10, .int .i64 y_11, .int .i64 y_12, .int .i64 y_13, .int .i64 y_14, .slice a20 ((y_15).length) c21]⟩], L33, [⟨b38, 25, [.int .i64 y_17, .int .i64 y_18, .int .i64 y_19, .int .i64 y_20, .int .i64 y_21, .slice a30 ((y_22).length) c31]⟩], L43, [⟨b48, 25, [.int .i64 y_24, .int .i64 y_25, .int .i64 y_26, .int .i64 y_27, .int .i64 y_28, .slice a40 ((y_29).length) c41]⟩]]) (fun _ h => h) ?_)
              refine WK_seq ?_
              refine WK_region ?_
              refine WO_pure tbok 1 [(4, .bool true)] rfl ⟨rfl, trivial⟩ ?_
              refine WO_end ?_
              cases hm
              exact WK_ret (ret_out (L := []) (RLc_tmp rfl RLc_nil) (List.nil_sublist _) rfl)
            · refine WK_block ?_
              refine WK_loop (S := Int) (G := Unit) (fun s => fiduciallaw48_TerrainFills_s1 p0_5 y_22 s) (fun s g => [(2, .pointer (some ⟨b3, 0, none⟩)), (4, .bool false), (68, .slice a30 ((y_22).length) c31), (69, .int .i64 ((y_22).length : Int)), (70, .int .i64 s)]) (fun s g => St w0 m m45 [[⟨b3, 25, [.int .i64 p0_0, .int .i64 p0_1, .int .i64 p0_2, .int .i64 p0_3, .int .i64 p0_4, .slice a_p0_5 p0_5.length c_p0_5]⟩], L13, [⟨b18, 25, [.int .i64 y_3, .int .i64 y_4, .int .i64 y_5, .int .i64 y_6, .int .i64 y_7, .slice a10 ((y_8).length) c11]⟩], L23, [⟨b28, 25, [.int .i64 y_10, .int .i64 y_11, .int .i64 y_12, .int .i64 y_13, .int .i64 y_14, .slice a20 ((y_15).length) c21]⟩], L33, [⟨b38, 25, [.int .i64 y_17, .int .i64 y_18, .int .i64 y_19, .int .i64 y_20, .int .i64 y_21, .slice a30 ((y_22).length) c31]⟩], L43, [⟨b48, 25, [.int .i64 y_24, .int .i64 y_25, .int .i64 y_26, .int .i64 y_27, .int .i64 y_28, .slice a40 ((y_29).length) c41]⟩]]) (fun s g => True) FUEL 0 () x52 hx53 trivial ⟨rfl, rfl, rfl, rfl, rfl, trivial⟩ (fun _ h => h) ?_
              rintro s_32 ⟨⟩ o56 fl57 hm55 - hn58 hd59
              have hm55 : fiduciallaw48_TerrainFills_s1 p0_5 y_22 s_32 = some o56 := hm55
              unfold fiduciallaw48_TerrainFills_s1 at hm55
              refine WK.sub (e' := [(2, .pointer (some ⟨b3, 0, none⟩)), (4, .bool false), (68, .slice a30 ((y_22).length) c31), (69, .int .i64 ((y_22).length : Int)), (70, .int .i64 s_32)]) ⟨rfl, rfl, rfl, rfl, rfl, trivial⟩ (WK.cls (C' := St w0 m m45 [[⟨b3, 25, [.int .i64 p0_0, .int .i64 p0_1, .int .i64 p0_2, .int .i64 p0_3, .int .i64 p0_4, .slice a_p0_5 p0_5.length c_p0_5]⟩], L13, [⟨b18, 25, [.int .i64 y_3, .int .i64 y_4, .int .i64 y_5, .int .i64 y_6, .int .i64 y_7, .slice a10 ((y_8).length) c11]⟩], L23, [⟨b28, 25, [.int .i64 y_10, .int .i64 y_11, .int .i64 y_12, .int .i64 y_13, .int .i64 y_14, .slice a20 ((y_15).length) c21]⟩], L33, [⟨b38, 25, [.int .i64 y_17, .int .i64 y_18, .int .i64 y_19, .int .i64 y_20, .int .i64 y_21, .slice a30 ((y_22).length) c31]⟩], L43, [⟨b48, 25, [.int .i64 y_24, .int .i64 y_25, .int .i64 y_26, .int .i64 y_27, .int .i64 y_28, .slice a40 ((y_29).length) c41]⟩]]) (fun _ h => h) ?_)
              refine WK_seq ?_
              refine WK_region ?_
              refine WO_pure tbok 1 [(2, .pointer (some ⟨b3, 0, none⟩)), (4, .bool false), (68, .slice a30 ((y_22).length) c31), (69, .int .i64 ((y_22).length : Int)), (70, .int .i64 s_32), (71, .bool (decide (s_32 < ((y_22).length : Int))))] rfl ⟨rfl, rfl, rfl, rfl, rfl, rfl, trivial⟩ ?_
              refine WO_end ?_
              refine WK_seq ?_
              refine WK_cond (b := decide (s_32 < ((y_22).length : Int))) rfl (fun hb61 => ?_) (fun hb61 => ?_)
              · have hm55 := ifT hb61 hm55
                refine WK_skip ?_
                refine WK_seq ?_
                refine WK_block ?_
                refine WK_seq ?_
                refine WK_region ?_
                refine WO_pure tbok 1 [(2, .pointer (some ⟨b3, 0, none⟩)), (4, .bool false), (68, .slice a30 ((y_22).length) c31), (69, .int .i64 ((y_22).length : Int)), (70, .int .i64 s_32), (72, .int .i64 s_32)] rfl ⟨rfl, rfl, rfl, rfl, rfl, rfl, trivial⟩ ?_
                obtain ⟨v_33, hy62, hm55⟩ := bind_some hm55
                obtain ⟨hc63, hy62⟩ := ix_some hy62
                refine WO_index tbok rfl rfl rfl rfl rfl rfl rfl rfl (SlR.addr (h37.mono (mono_FE _) hle46)) hc63 ?_
                refine WO_loadE tbok rfl rfl rfl rfl (fun _ h => St.sat h) (h37.mono (mono_FE _) hle46) hy62 rfl ?_
                refine WO_pure tbok 2 [(2, .pointer (some ⟨b3, 0, none⟩)), (4, .bool false), (13, .int .i64 s_32), (14, .int .i64 v_33), (68, .slice a30 ((y_22).length) c31), (69, .int .i64 ((y_22).length : Int)), (70, .int .i64 s_32)] rfl ⟨rfl, rfl, rfl, rfl, rfl, rfl, rfl, trivial⟩ ?_
                refine WO_end ?_
                refine WK_seq ?_
                obtain ⟨s_34, hx64, hm55⟩ := bind_some hm55
                refine WK_meet [(2, .pointer (some ⟨b3, 0, none⟩)), (4, .bool false), (68, .slice a30 ((y_22).length) c31), (69, .int .i64 ((y_22).length : Int)), (70, .int .i64 s_32), (100, .bool s_34)] (St w0 m m45 [[⟨b3, 25, [.int .i64 p0_0, .int .i64 p0_1, .int .i64 p0_2, .int .i64 p0_3, .int .i64 p0_4, .slice a_p0_5 p0_5.length c_p0_5]⟩], L13, [⟨b18, 25, [.int .i64 y_3, .int .i64 y_4, .int .i64 y_5, .int .i64 y_6, .int .i64 y_7, .slice a10 ((y_8).length) c11]⟩], L23, [⟨b28, 25, [.int .i64 y_10, .int .i64 y_11, .int .i64 y_12, .int .i64 y_13, .int .i64 y_14, .slice a20 ((y_15).length) c21]⟩], L33, [⟨b38, 25, [.int .i64 y_17, .int .i64 y_18, .int .i64 y_19, .int .i64 y_20, .int .i64 y_21, .slice a30 ((y_22).length) c31]⟩], L43, [⟨b48, 25, [.int .i64 y_24, .int .i64 y_25, .int .i64 y_26, .int .i64 y_27, .int .i64 y_28, .slice a40 ((y_29).length) c41]⟩]]) ?_ (fun hk65 => ?_)
                · refine WK_cond (b := s_34) rfl (fun hb66 => ?_) (fun hb66 => ?_)
                  · have hm55 := ifT hb66 hm55
                    refine WK_seq ?_
                    refine WK_region ?_
                    refine WO_pure tbok 1 [(2, .pointer (some ⟨b3, 0, none⟩)), (4, .bool false), (68, .slice a30 ((y_22).length) c31), (69, .int .i64 ((y_22).length : Int)), (70, .int .i64 s_32)] rfl ⟨rfl, rfl, rfl, rfl, rfl, trivial⟩ ?_
                    refine WO_end ?_
                    cases hm55
                    have hq := hd59 _ rfl
                    subst hq
                    have hm : some _ = some _ := hm
                    cases hm
                    exact WK_ret (ret_out (L := []) (RLc_tmp rfl RLc_nil) (List.nil_sublist _) rfl)
                  · have hm55 := ifF hb66 hm55
                    refine WK_skip ?_
                    refine WK_blk ?_
                    refine WK_region ?_
                    refine WO_pure tbok 2 [(2, .pointer (some ⟨b3, 0, none⟩)), (4, .bool false), (68, .slice a30 ((y_22).length) c31), (69, .int .i64 ((y_22).length : Int)), (70, .int .i64 (w64 (s_32 + 1)))] rfl ⟨rfl, rfl, rfl, rfl, rfl, trivial⟩ ?_
                    refine WO_end ?_
                    cases hm55
                    refine WK.sub ?_ (WK.cls (fun _ h => h) (hn58 _ () rfl trivial))
                    exact ⟨rfl, rfl, rfl, rfl, rfl, trivial⟩
                · refine WK_region ?_
                  refine WO_pure tbok 3 [(2, .pointer (some ⟨b3, 0, none⟩)), (4, .bool false), (13, .int .i64 s_32), (14, .int .i64 v_33), (68, .slice a30 ((y_22).length) c31), (69, .int .i64 ((y_22).length : Int)), (70, .int .i64 s_32), (77, .bool (v_33 == (-2147483648)))] rfl ⟨rfl, rfl, rfl, rfl, rfl, rfl, rfl, rfl, trivial⟩ ?_
                  refine WO_split (d := 77) (b := v_33 == (-2147483648)) rfl (fun hb67 => ?_) (fun hb67 => ?_)
                  · have hx64 := ifT hb67 hx64
                    refine WO_pure tbok 20 [(2, .pointer (some ⟨b3, 0, none⟩)), (4, .bool false), (68, .slice a30 ((y_22).length) c31), (69, .int .i64 ((y_22).length : Int)), (70, .int .i64 s_32), (94, .bool true)] rfl ⟨rfl, rfl, rfl, rfl, rfl, rfl, trivial⟩ ?_
                    refine WO_skip rfl rfl ?_
                    refine WO_pure tbok 2 [(2, .pointer (some ⟨b3, 0, none⟩)), (4, .bool false), (68, .slice a30 ((y_22).length) c31), (69, .int .i64 ((y_22).length : Int)), (70, .int .i64 s_32), (100, .bool true)] rfl ⟨rfl, rfl, rfl, rfl, rfl, rfl, trivial⟩ ?_
                    refine WO_end ?_
                    cases hx64
                    refine WK.sub ?_ (WK.cls (fun _ h => h) hk65)
                    exact ⟨rfl, rfl, rfl, rfl, rfl, rfl, trivial⟩
                  · have hx64 := ifF hb67 hx64
                    refine WO_pure tbok 1 [(2, .pointer (some ⟨b3, 0, none⟩)), (4, .bool false), (13, .int .i64 s_32), (14, .int .i64 v_33), (68, .slice a30 ((y_22).length) c31), (69, .int .i64 ((y_22).length : Int)), (70, .int .i64 s_32), (77, .bool false), (78, .pointer (some ⟨b3, 5, none⟩))] rfl ⟨rfl, rfl, rfl, rfl, rfl, rfl, rfl, rfl, rfl, trivial⟩ ?_
                    refine WO_loadB tbok 0 rfl rfl rfl rfl (fun _ h => h) rfl rfl ?_
                    refine WO_pure tbok 1 [(2, .pointer (some ⟨b3, 0, none⟩)), (4, .bool false), (13, .int .i64 s_32), (14, .int .i64 v_33), (68, .slice a30 ((y_22).length) c31), (69, .int .i64 ((y_22).length : Int)), (70, .int .i64 s_32), (77, .bool false), (79, .slice a_p0_5 p0_5.length c_p0_5), (80, .int .i64 s_32)] rfl ⟨rfl, rfl, rfl, rfl, rfl, rfl, rfl, rfl, rfl, rfl, trivial⟩ ?_
                    obtain ⟨v_35, hy68, hx64⟩ := bind_some hx64
                    obtain ⟨hc69, hy68⟩ := ix_some hy68
                    refine WO_index tbok rfl rfl rfl rfl rfl rfl rfl rfl (SlR.addr ((((h_p0_5.mono (mono_FE _) hle16).mono (mono_FE _) hle26).mono (mono_FE _) hle36).mono (mono_FE _) hle46)) hc69 ?_
                    refine WO_loadE tbok rfl rfl rfl rfl (fun _ h => St.sat h) ((((h_p0_5.mono (mono_FE _) hle16).mono (mono_FE _) hle26).mono (mono_FE _) hle36).mono (mono_FE _) hle46) hy68 rfl ?_
                    refine WO_pure tbok 2 [(2, .pointer (some ⟨b3, 0, none⟩)), (4, .bool false), (13, .int .i64 s_32), (14, .int .i64 v_33), (68, .slice a30 ((y_22).length) c31), (69, .int .i64 ((y_22).length : Int)), (70, .int .i64 s_32), (77, .bool false), (84, .bool (v_35 != (-2147483648)))] rfl ⟨rfl, rfl, rfl, rfl, rfl, rfl, rfl, rfl, rfl, trivial⟩ ?_
                    refine WO_split (d := 84) (b := v_35 != (-2147483648)) rfl (fun hb70 => ?_) (fun hb70 => ?_)
                    · have hx64 := ifT hb70 hx64
                      refine WO_pure tbok 1 [(2, .pointer (some ⟨b3, 0, none⟩)), (4, .bool false), (13, .int .i64 s_32), (14, .int .i64 v_33), (68, .slice a30 ((y_22).length) c31), (69, .int .i64 ((y_22).length : Int)), (70, .int .i64 s_32), (77, .bool false), (84, .bool true), (85, .pointer (some ⟨b3, 5, none⟩))] rfl ⟨rfl, rfl, rfl, rfl, rfl, rfl, rfl, rfl, rfl, rfl, trivial⟩ ?_
                      refine WO_loadB tbok 0 rfl rfl rfl rfl (fun _ h => h) rfl rfl ?_
                      refine WO_pure tbok 1 [(2, .pointer (some ⟨b3, 0, none⟩)), (4, .bool false), (14, .int .i64 v_33), (68, .slice a30 ((y_22).length) c31), (69, .int .i64 ((y_22).length : Int)), (70, .int .i64 s_32), (77, .bool false), (84, .bool true), (86, .slice a_p0_5 p0_5.length c_p0_5), (87, .int .i64 s_32)] rfl ⟨rfl, rfl, rfl, rfl, rfl, rfl, rfl, rfl, rfl, rfl, trivial⟩ ?_
                      obtain ⟨v_36, hy71, hx64⟩ := bind_some hx64
                      obtain ⟨hc72, hy71⟩ := ix_some hy71
                      refine WO_index tbok rfl rfl rfl rfl rfl rfl rfl rfl (SlR.addr ((((h_p0_5.mono (mono_FE _) hle16).mono (mono_FE _) hle26).mono (mono_FE _) hle36).mono (mono_FE _) hle46)) hc72 ?_
                      refine WO_loadE tbok rfl rfl rfl rfl (fun _ h => St.sat h) ((((h_p0_5.mono (mono_FE _) hle16).mono (mono_FE _) hle26).mono (mono_FE _) hle36).mono (mono_FE _) hle46) hy71 rfl ?_
                      refine WO_pure tbok 5 [(2, .pointer (some ⟨b3, 0, none⟩)), (4, .bool false), (14, .int .i64 v_33), (68, .slice a30 ((y_22).length) c31), (69, .int .i64 ((y_22).length : Int)), (70, .int .i64 s_32), (94, .bool (v_36 != v_33))] rfl ⟨rfl, rfl, rfl, rfl, rfl, rfl, rfl, trivial⟩ ?_
                      refine WO_split (d := 94) (b := v_36 != v_33) rfl (fun hb73 => ?_) (fun hb73 => ?_)
                      · have hx64 := ifT hb73 hx64
                        refine WO_pure tbok 3 [(2, .pointer (some ⟨b3, 0, none⟩)), (4, .bool false), (68, .slice a30 ((y_22).length) c31), (69, .int .i64 ((y_22).length : Int)), (70, .int .i64 s_32), (94, .bool true)] rfl ⟨rfl, rfl, rfl, rfl, rfl, rfl, trivial⟩ ?_
                        refine WO_skip rfl rfl ?_
                        refine WO_pure tbok 2 [(2, .pointer (some ⟨b3, 0, none⟩)), (4, .bool false), (68, .slice a30 ((y_22).length) c31), (69, .int .i64 ((y_22).length : Int)), (70, .int .i64 s_32), (100, .bool true)] rfl ⟨rfl, rfl, rfl, rfl, rfl, rfl, trivial⟩ ?_
                        refine WO_end ?_
                        cases hx64
                        refine WK.sub ?_ (WK.cls (fun _ h => h) hk65)
                        exact ⟨rfl, rfl, rfl, rfl, rfl, rfl, trivial⟩
                      · have hx64 := ifF hb73 hx64
                        refine WO_pure tbok 1 [(2, .pointer (some ⟨b3, 0, none⟩)), (4, .bool false), (14, .int .i64 v_33), (68, .slice a30 ((y_22).length) c31), (69, .int .i64 ((y_22).length : Int)), (70, .int .i64 s_32), (94, .bool false), (95, .pointer (some ⟨b3, 5, none⟩))] rfl ⟨rfl, rfl, rfl, rfl, rfl, rfl, rfl, rfl, trivial⟩ ?_
                        refine WO_loadB tbok 0 rfl rfl rfl rfl (fun _ h => h) rfl rfl ?_
                        refine WO_pure tbok 1 [(2, .pointer (some ⟨b3, 0, none⟩)), (4, .bool false), (68, .slice a30 ((y_22).length) c31), (69, .int .i64 ((y_22).length : Int)), (70, .int .i64 s_32), (94, .bool false), (96, .slice a_p0_5 p0_5.length c_p0_5), (97, .int .i64 v_33)] rfl ⟨rfl, rfl, rfl, rfl, rfl, rfl, rfl, rfl, trivial⟩ ?_
                        obtain ⟨y_37, hc74, hx64⟩ := bind_some hx64
                        refine WO_call0 (.bool y_37) rfl rfl trivial rfl rfl rfl rfl St_closed ⟨37, #[], #[], rfl, callable_37, fun w hw => ⟨_, hw.sat, slices_Contains_sint_walk ((((h_p0_5.mono (mono_FE _) hle16).mono (mono_FE _) hle26).mono (mono_FE _) hle36).mono (mono_FE _) hle46) hc74⟩⟩ ?_
                        refine WO_pure tbok 2 [(2, .pointer (some ⟨b3, 0, none⟩)), (4, .bool false), (68, .slice a30 ((y_22).length) c31), (69, .int .i64 ((y_22).length : Int)), (70, .int .i64 s_32), (100, .bool (!y_37))] rfl ⟨rfl, rfl, rfl, rfl, rfl, rfl, trivial⟩ ?_
                        refine WO_end ?_
                        cases hx64
                        refine WK.sub ?_ (WK.cls (fun _ h => h) hk65)
                        exact ⟨rfl, rfl, rfl, rfl, rfl, rfl, trivial⟩
                    · have hx64 := ifF hb70 hx64
                      refine WO_pure tbok 11 [(2, .pointer (some ⟨b3, 0, none⟩)), (4, .bool false), (14, .int .i64 v_33), (68, .slice a30 ((y_22).length) c31), (69, .int .i64 ((y_22).length : Int)), (70, .int .i64 s_32), (94, .bool false), (95, .pointer (some ⟨b3, 5, none⟩))] rfl ⟨rfl, rfl, rfl, rfl, rfl, rfl, rfl, rfl, trivial⟩ ?_
                      refine WO_loadB tbok 0 rfl rfl rfl rfl (fun _ h => h) rfl rfl ?_
                      refine WO_pure tbok 1 [(2, .pointer (some ⟨b3, 0, none⟩)), (4, .bool false), (68, .slice a30 ((y_22).length) c31), (69, .int .i64 ((y_22).length : Int)), (70, .int .i64 s_32), (94, .bool false), (96, .slice a_p0_5 p0_5.length c_p0_5), (97, .int .i64 v_33)] rfl ⟨rfl, rfl, rfl, rfl, rfl, rfl, rfl, rfl, trivial⟩ ?_
                      obtain ⟨y_38, hc75, hx64⟩ := bind_some hx64
                      refine WO_call0 (.bool y_38) rfl rfl trivial rfl rfl rfl rfl St_closed ⟨37, #[], #[], rfl, callable_37, fun w hw => ⟨_, hw.sat, slices_Contains_sint_walk ((((h_p0_5.mono (mono_FE _) hle16).mono (mono_FE _) hle26).mono (mono_FE _) hle36).mono (mono_FE _) hle46) hc75⟩⟩ ?_
                      refine WO_pure tbok 2 [(2, .pointer (some ⟨b3, 0, none⟩)), (4, .bool false), (68, .slice a30 ((y_22).length) c31), (69, .int .i64 ((y_22).length : Int)), (70, .int .i64 s_32), (100, .bool (!y_38))] rfl ⟨rfl, rfl, rfl, rfl, rfl, rfl, trivial⟩ ?_
                      refine WO_end ?_
                      cases hx64
                      refine WK.sub ?_ (WK.cls (fun _ h => h) hk65)
                      exact ⟨rfl, rfl, rfl, rfl, rfl, rfl, trivial⟩
              · have hm55 := ifF hb61 hm55
                refine WK_exit rfl ?_
                cases hm55
                refine WK.sub ?_ (WK.cls (fun _ h => h) (hk54 ((), ()) (hd59 _ rfl)))
                exact ⟨rfl, trivial⟩
        · refine WK_region ?_
          refine WO_pure tbok 4 [(2, .pointer (some ⟨b3, 0, none⟩)), (4, .bool false), (5, .pointer (some ⟨b18, 0, none⟩)), (7, .pointer (some ⟨b28, 0, none⟩)), (9, .pointer (some ⟨b38, 0, none⟩)), (10, .int .i64 y_23), (11, .pointer (some ⟨b48, 0, none⟩)), (12, .int .i64 y_30), (50, .bool (y_9 != y_16))] rfl ⟨rfl, rfl, rfl, rfl, rfl, rfl, rfl, rfl, rfl, trivial⟩ ?_
          refine WO_split (d := 50) (b := y_9 != y_16) rfl (fun hb76 => ?_) (fun hb76 => ?_)
          · have hx49 := ifT hb76 hx49
            refine WO_pure tbok 7 [(2, .pointer (some ⟨b3, 0, none⟩)), (4, .bool false), (9, .pointer (some ⟨b38, 0, none⟩)), (11, .pointer (some ⟨b48, 0, none⟩)), (55, .bool true)] rfl ⟨rfl, rfl, rfl, rfl, rfl, trivial⟩ ?_
            refine WO_skip rfl rfl ?_
            refine WO_pure tbok 5 [(2, .pointer (some ⟨b3, 0, none⟩)), (4, .bool false), (9, .pointer (some ⟨b38, 0, none⟩)), (61, .bool true)] rfl ⟨rfl, rfl, rfl, rfl, trivial⟩ ?_
            refine WO_skip rfl rfl ?_
            refine WO_pure tbok 2 [(2, .pointer (some ⟨b3, 0, none⟩)), (4, .bool false), (9, .pointer (some ⟨b38, 0, none⟩)), (66, .bool true)] rfl ⟨rfl, rfl, rfl, rfl, trivial⟩ ?_
            refine WO_end ?_
            cases hx49
            refine WK.sub ?_ (WK.cls (fun _ h => h) hk50)
            exact ⟨rfl, rfl, rfl, rfl, trivial⟩
          · have hx49 := ifF hb76 hx49
            refine WO_pure tbok 5 [(2, .pointer (some ⟨b3, 0, none⟩)), (4, .bool false), (5, .pointer (some ⟨b18, 0, none⟩)), (7, .pointer (some ⟨b28, 0, none⟩)), (9, .pointer (some ⟨b38, 0, none⟩)), (11, .pointer (some ⟨b48, 0, none⟩)), (55, .bool (y_23 != y_30))] rfl ⟨rfl, rfl, rfl, rfl, rfl, rfl, rfl, trivial⟩ ?_
            refine WO_split (d := 55) (b := y_23 != y_30) rfl (fun hb77 => ?_) (fun hb77 => ?_)
            · have hx49 := ifT hb77 hx49
              refine WO_pure tbok 2 [(2, .pointer (some ⟨b3, 0, none⟩)), (4, .bool false), (9, .pointer (some ⟨b38, 0, none⟩)), (11, .pointer (some ⟨b48, 0, none⟩)), (55, .bool true)] rfl ⟨rfl, rfl, rfl, rfl, rfl, trivial⟩ ?_
              refine WO_skip rfl rfl ?_
              refine WO_pure tbok 5 [(2, .pointer (some ⟨b3, 0, none⟩)), (4, .bool false), (9, .pointer (some ⟨b38, 0, none⟩)), (61, .bool true)] rfl ⟨rfl, rfl, rfl, rfl, trivial⟩ ?_
              refine WO_skip rfl rfl ?_
              refine WO_pure tbok 2 [(2, .pointer (some ⟨b3, 0, none⟩)), (4, .bool false), (9, .pointer (some ⟨b38, 0, none⟩)), (66, .bool true)] rfl ⟨rfl, rfl, rfl, rfl, trivial⟩ ?_
              refine WO_end ?_
              cases hx49
              refine WK.sub ?_ (WK.cls (fun _ h => h) hk50)
              exact ⟨rfl, rfl, rfl, rfl, trivial⟩
            · have hx49 := ifF hb77 hx49
              refine WO_loadB tbok 2 rfl rfl rfl rfl (fun _ h => h) rfl rfl ?_
              refine WO_loadB tbok 4 rfl rfl rfl rfl (fun _ h => h) rfl rfl ?_
              obtain ⟨y_39, hc78, hx49⟩ := bind_some hx49
              refine WO_call0 (.bool y_39) rfl rfl trivial rfl rfl rfl rfl St_closed ⟨15, #[], #[], rfl, callable_15, fun w hw => ⟨_, hw.sat, fiduciallaw48_same_walk (((h17.mono (mono_FE _) hle26).mono (mono_FE _) hle36).mono (mono_FE _) hle46) ((h27.mono (mono_FE _) hle36).mono (mono_FE _) hle46) hc78⟩⟩ ?_
              refine WO_pure tbok 3 [(2, .pointer (some ⟨b3, 0, none⟩)), (4, .bool false), (9, .pointer (some ⟨b38, 0, none⟩)), (11, .pointer (some ⟨b48, 0, none⟩)), (61, .bool (!y_39))] rfl ⟨rfl, rfl, rfl, rfl, rfl, trivial⟩ ?_
              refine WO_split (d := 61) (b := !y_39) rfl (fun hb79 => ?_) (fun hb79 => ?_)
              · have hx49 := ifT hb79 hx49
                refine WO_pure tbok 2 [(2, .pointer (some ⟨b3, 0, none⟩)), (4, .bool false), (9, .pointer (some ⟨b38, 0, none⟩)), (61, .bool true)] rfl ⟨rfl, rfl, rfl, rfl, trivial⟩ ?_
                refine WO_skip rfl rfl ?_
                refine WO_pure tbok 2 [(2, .pointer (some ⟨b3, 0, none⟩)), (4, .bool false), (9, .pointer (some ⟨b38, 0, none⟩)), (66, .bool true)] rfl ⟨rfl, rfl, rfl, rfl, trivial⟩ ?_
                refine WO_end ?_
                cases hx49
                refine WK.sub ?_ (WK.cls (fun _ h => h) hk50)
                exact ⟨rfl, rfl, rfl, rfl, trivial⟩
              · have hx49 := ifF hb79 hx49
                refine WO_loadB tbok 6 rfl rfl rfl rfl (fun _ h => h) rfl rfl ?_
                refine WO_loadB tbok 8 rfl rfl rfl rfl (fun _ h => h) rfl rfl ?_
                obtain ⟨y_40, hc80, hx49⟩ := bind_some hx49
                refine WO_call0 (.bool y_40) rfl rfl trivial rfl rfl rfl rfl St_closed ⟨15, #[], #[], rfl, callable_15, fun w hw => ⟨_, hw.sat, fiduciallaw48_same_walk (h37.mono (mono_FE _) hle46) h47 hc80⟩⟩ ?_
                refine WO_pure tbok 2 [(2, .pointer (some ⟨b3, 0, none⟩)), (4, .bool false), (9, .pointer (some ⟨b38, 0, none⟩)), (66, .bool (!y_40))] rfl ⟨rfl, rfl, rfl, rfl, trivial⟩ ?_
                refine WO_end ?_
                cases hx49
                refine WK.sub ?_ (WK.cls (fun _ h => h) hk50)
                exact ⟨rfl, rfl, rfl, rfl, trivial⟩
    · refine WK_region ?_
      refine WO_loadB tbok 0 rfl rfl rfl rfl (fun _ h => h) rfl rfl ?_
      obtain ⟨y_41, hc81, hx6⟩ := bind_some hx6
      refine WO_call0 (.bool y_41) rfl rfl trivial rfl rfl rfl rfl St_closed ⟨12, #[], #[], rfl, callable_12, fun w hw => ⟨_, hw.sat, fiduciallaw48_few_walk h_p0_5 hc81⟩⟩ ?_
      refine WO_pure tbok 2 [(1, .slice a_p1 p1.length c_p1), (2, .pointer (some ⟨b3, 0, none⟩)), (4, .bool false), (20, .bool (!y_41))] rfl ⟨rfl, rfl, rfl, rfl, trivial⟩ ?_
      refine WO_split (d := 20) (b := !y_41) rfl (fun hb82 => ?_) (fun hb82 => ?_)
      · have hx6 := ifT hb82 hx6
        refine WO_pure tbok 4 [(1, .slice a_p1 p1.length c_p1), (2, .pointer (some ⟨b3, 0, none⟩)), (4, .bool false), (24, .bool true)] rfl ⟨rfl, rfl, rfl, rfl, trivial⟩ ?_
        refine WO_end ?_
        cases hx6
        refine WK.sub ?_ (WK.cls (fun _ h => h) hk7)
        exact ⟨rfl, rfl, rfl, rfl, trivial⟩
      · have hx6 := ifF hb82 hx6
        refine WO_pure tbok 4 [(1, .slice a_p1 p1.length c_p1), (2, .pointer (some ⟨b3, 0, none⟩)), (4, .bool false), (24, .bool (decide (150 < (p1.length : Int))))] rfl ⟨rfl, rfl, rfl, rfl, trivial⟩ ?_
        refine WO_end ?_
        cases hx6
        refine WK.sub ?_ (WK.cls (fun _ h => h) hk7)
        exact ⟨rfl, rfl, rfl, rfl, trivial⟩
theorem fiduciallaw48_TerrainBlocks_c1_walk {m : Mu} {p0 : Int} {q0_0 : Int} {q1_0 : Int} {q2_0 : Int} {q3_0 : Int} {b_q0 : Nat} {b_q1 : Nat} {b_q2 : Nat} {b_q3 : Nat} (hb_q0 : m b_q0 = some (Ent.obj ⟨b_q0, 3, [.int .i64 q0_0]⟩)) (hb_q1 : m b_q1 = some (Ent.obj ⟨b_q1, 3, [.int .i64 q1_0]⟩)) (hb_q2 : m b_q2 = some (Ent.obj ⟨b_q2, 3, [.int .i64 q2_0]⟩)) (hb_q3 : m b_q3 = some (Ent.obj ⟨b_q3, 3, [.int .i64 q3_0]⟩)) {r : Bool} (hm : fiduciallaw48_TerrainBlocks_c1 p0 q0_0 q1_0 q2_0 q3_0 = some r) :
    Go.E.Spec Try.prog 21 [.int .i64 p0, .pointer (some ⟨b_q0, 0, none⟩), .pointer (some ⟨b_q1, 0, none⟩), .pointer (some ⟨b_q2, 0, none⟩), .pointer (some ⟨b_q3, 0, none⟩)] m (fun v _ _ => v = .bool r) := by
  refine Spec_enter Try.func21 rfl rfl rfl (fun w0 => ?_)
  refine WK.sub (e' := [(0, .int .i64 p0), (1, .pointer (some ⟨b_q0, 0, none⟩)), (2, .pointer (some ⟨b_q1, 0, none⟩)), (3, .pointer (some ⟨b_q2, 0, none⟩)), (4, .pointer (some ⟨b_q3, 0, none⟩))]) ⟨rfl, rfl, rfl, rfl, rfl, trivial⟩ ?_
  refine WK.sub (e' := [(0, .int .i64 p0), (1, .pointer (some ⟨b_q0, 0, none⟩)), (2, .pointer (some ⟨b_q1, 0, none⟩)), (3, .pointer (some ⟨b_q2, 0, none⟩)), (4, .pointer (some ⟨b_q3, 0, none⟩))]) ⟨rfl, rfl, rfl, rfl, rfl, trivial⟩ ?_
  unfold fiduciallaw48_TerrainBlocks_c1 at hm
  refine WK_seq ?_
  refine WK_region ?_
  refine WO_pure tbok 1 [(0, .int .i64 p0), (1, .pointer (some ⟨b_q0, 0, none⟩)), (2, .pointer (some ⟨b_q1, 0, none⟩)), (3, .pointer (some ⟨b_q2, 0, none⟩)), (4, .pointer (some ⟨b_q3, 0, none⟩)), (6, .bool false)] rfl ⟨rfl, rfl, rfl, rfl, rfl, rfl, trivial⟩ ?_
  refine WO_end ?_
  refine WK_seq ?_
  refine WK_region ?_
  refine WO_pure tbok 6 [(1, .pointer (some ⟨b_q0, 0, none⟩)), (2, .pointer (some ⟨b_q1, 0, none⟩)), (3, .pointer (some ⟨b_q2, 0, none⟩)), (4, .pointer (some ⟨b_q3, 0, none⟩)), (6, .bool false), (7, .int .i64 (Int.tmod p0 20)), (8, .int .i64 (w64 (Int.tdiv p0 20)))] rfl ⟨rfl, rfl, rfl, rfl, rfl, rfl, rfl, trivial⟩ ?_
  refine WO_end ?_
  refine WK_seq ?_
  refine WK_region ?_
  refine WO_pure tbok 1 [(1, .pointer (some ⟨b_q0, 0, none⟩)), (2, .pointer (some ⟨b_q1, 0, none⟩)), (3, .pointer (some ⟨b_q2, 0, none⟩)), (4, .pointer (some ⟨b_q3, 0, none⟩)), (6, .bool false), (7, .int .i64 (Int.tmod p0 20)), (8, .int .i64 (w64 (Int.tdiv p0 20))), (13, .int .i64 (Int.tmod p0 20))] rfl ⟨rfl, rfl, rfl, rfl, rfl, rfl, rfl, rfl, trivial⟩ ?_
  refine WO_loadM tbok rfl rfl rfl rfl (fun _ h => St.sat h) hb_q0 rfl ?_
  refine WO_pure tbok 2 [(1, .pointer (some ⟨b_q0, 0, none⟩)), (2, .pointer (some ⟨b_q1, 0, none⟩)), (3, .pointer (some ⟨b_q2, 0, none⟩)), (4, .pointer (some ⟨b_q3, 0, none⟩)), (6, .bool false), (7, .int .i64 (Int.tmod p0 20)), (8, .int .i64 (w64 (Int.tdiv p0 20))), (16, .bool (decide (q0_0 ≤ (Int.tmod p0 20))))] rfl ⟨rfl, rfl, rfl, rfl, rfl, rfl, rfl, rfl, trivial⟩ ?_
  refine WO_split (d := 16) (b := decide (q0_0 ≤ (Int.tmod p0 20))) rfl (fun hb1 => ?_) (fun hb1 => ?_)
  · have hm := ifT hb1 hm
    refine WO_pure tbok 1 [(1, .pointer (some ⟨b_q0, 0, none⟩)), (2, .pointer (some ⟨b_q1, 0, none⟩)), (3, .pointer (some ⟨b_q2, 0, none⟩)), (4, .pointer (some ⟨b_q3, 0, none⟩)), (6, .bool false), (8, .int .i64 (w64 (Int.tdiv p0 20))), (16, .bool true), (17, .int .i64 (Int.tmod p0 20))] rfl ⟨rfl, rfl, rfl, rfl, rfl, rfl, rfl, rfl, trivial⟩ ?_
    refine WO_loadM tbok rfl rfl rfl rfl (fun _ h => St.sat h) hb_q0 rfl ?_
    refine WO_loadM tbok rfl rfl rfl rfl (fun _ h => St.sat h) hb_q1 rfl ?_
    refine WO_pure tbok 4 [(3, .pointer (some ⟨b_q2, 0, none⟩)), (4, .pointer (some ⟨b_q3, 0, none⟩)), (6, .bool false), (8, .int .i64 (w64 (Int.tdiv p0 20))), (23, .bool (decide ((Int.tmod p0 20) < (w64 (q0_0 + q1_0)))))] rfl ⟨rfl, rfl, rfl, rfl, rfl, trivial⟩ ?_
    refine WO_split (d := 23) (b := decide ((Int.tmod p0 20) < (w64 (q0_0 + q1_0)))) rfl (fun hb2 => ?_) (fun hb2 => ?_)
    · have hm := ifT hb2 hm
      refine WO_pure tbok 1 [(3, .pointer (some ⟨b_q2, 0, none⟩)), (4, .pointer (some ⟨b_q3, 0, none⟩)), (6, .bool false), (8, .int .i64 (w64 (Int.tdiv p0 20))), (23, .bool true), (24, .int .i64 (w64 (Int.tdiv p0 20)))] rfl ⟨rfl, rfl, rfl, rfl, rfl, rfl, trivial⟩ ?_
      refine WO_loadM tbok rfl rfl rfl rfl (fun _ h => St.sat h) hb_q2 rfl ?_
      refine WO_pure tbok 3 [(3, .pointer (some ⟨b_q2, 0, none⟩)), (4, .pointer (some ⟨b_q3, 0, none⟩)), (6, .bool false), (8, .int .i64 (w64 (Int.tdiv p0 20))), (28, .bool (decide (q2_0 ≤ (w64 (Int.tdiv p0 20)))))] rfl ⟨rfl, rfl, rfl, rfl, rfl, trivial⟩ ?_
      refine WO_split (d := 28) (b := decide (q2_0 ≤ (w64 (Int.tdiv p0 20)))) rfl (fun hb3 => ?_) (fun hb3 => ?_)
      · have hm := ifT hb3 hm
        refine WO_pure tbok 1 [(3, .pointer (some ⟨b_q2, 0, none⟩)), (4, .pointer (some ⟨b_q3, 0, none⟩)), (6, .bool false), (28, .bool true), (29, .int .i64 (w64 (Int.tdiv p0 20)))] rfl ⟨rfl, rfl, rfl, rfl, rfl, trivial⟩ ?_
        refine WO_loadM tbok rfl rfl rfl rfl (fun _ h => St.sat h) hb_q2 rfl ?_
        refine WO_loadM tbok rfl rfl rfl rfl (fun _ h => St.sat h) hb_q3 rfl ?_
        refine WO_pure tbok 4 [(6, .bool (decide ((w64 (Int.tdiv p0 20)) < (w64 (q2_0 + q3_0)))))] rfl ⟨rfl, trivial⟩ ?_
        refine WO_end ?_
        cases hm
        exact WK_ret (ret_out (L := []) (RLc_tmp rfl RLc_nil) (List.nil_sublist _) rfl)
      · have hm := ifF hb3 hm
        refine WO_pure tbok 7 [(6, .bool false)] rfl ⟨rfl, trivial⟩ ?_
        refine WO_end ?_
        cases hm
        exact WK_ret (ret_out (L := []) (RLc_tmp rfl RLc_nil) (List.nil_sublist _) rfl)
    · have hm := ifF hb2 hm
      refine WO_pure tbok 12 [(6, .bool false)] rfl ⟨rfl, trivial⟩ ?_
      refine WO_end ?_
      cases hm
      exact WK_ret (ret_out (L := []) (RLc_tmp rfl RLc_nil) (List.nil_sublist _) rfl)
  · have hm := ifF hb1 hm
    refine WO_pure tbok 19 [(6, .bool false)] rfl ⟨rfl, trivial⟩ ?_
    refine WO_end ?_
    cases hm
    exact WK_ret (ret_out (L := []) (RLc_tmp rfl RLc_nil) (List.nil_sublist _) rfl)
theorem bits_Mul32_walk {m : Mu} {p0 : Int} {p1 : Int}   {r : Int × Int} (hm : bits_Mul32 p0 p1 = some r) :
    Go.E.Spec Try.prog 61 [.int .u32 p0, .int .u32 p1] m (fun v _ _ => v = .tuple #[.int .u32 r.1, .int .u32 r.2]) := by
  refine Spec_enter Try.func61 rfl rfl rfl (fun w0 => ?_)
  refine WK.sub (e' := [(0, .int .u32 p0), (1, .int .u32 p1)]) ⟨rfl, rfl, trivial⟩ ?_
  refine WK.sub (e' := [(0, .int .u32 p0), (1, .int .u32 p1)]) ⟨rfl, rfl, trivial⟩ ?_
  unfold bits_Mul32 at hm
  refine WK_seq ?_
  refine WK_region ?_
  refine WO_pure tbok 2 [(0, .int .u32 p0), (1, .int .u32 p1), (4, .int .u32 0), (5, .int .u32 0)] rfl ⟨rfl, rfl, rfl, rfl, trivial⟩ ?_
  refine WO_end ?_
  refine WK_seq ?_
  refine WK_region ?_
  refine WO_pure tbok 6 [(4, .int .u32 0), (5, .int .u32 0), (6, .int .u64 (wu64 ((wu64 (p0)) * (wu64 (p1)))))] rfl ⟨rfl, rfl, rfl, trivial⟩ ?_
  refine WO_end ?_
  refine WK_seq ?_
  refine WK_region ?_
  refine WO_pure tbok 1 [(4, .int .u32 0), (5, .int .u32 0), (6, .int .u64 (wu64 ((wu64 (p0)) * (wu64 (p1))))), (12, .int .u64 (wu64 ((wu64 (p0)) * (wu64 (p1)))))] rfl ⟨rfl, rfl, rfl, rfl, trivial⟩ ?_
  refine WO_shr rfl rfl rfl rfl rfl (by decide) ?_
  refine WO_pure tbok 5 [(4, .int .u32 (IntKind.wrap .u32 (Int.fdiv (wu64 ((wu64 (p0)) * (wu64 (p1)))) (2 ^ (min (32 : Int).toNat 64))))), (5, .int .u32 (IntKind.wrap .u32 (wu64 ((wu64 (p0)) * (wu64 (p1))))))] rfl ⟨rfl, rfl, trivial⟩ ?_
  refine WO_end ?_
  cases hm
  exact WK_ret (ret_out (L := []) (RLc_tmp rfl (RLc_tmp rfl RLc_nil)) (List.nil_sublist _) rfl)
end Go.Proofs.Ytcaeieofjchpjaa
