import Derived.Test.YtbolefkhmfbnlaaTab
import Derived.Test.YtbolefkhmfbnlaaM
set_option linter.unusedVariables false
set_option maxRecDepth 100000
set_option maxHeartbeats 4000000
namespace Go.Proofs.Ytbolefkhmfbnlaa
open Go.E Go.RowKit
attribute [local irreducible] Go.E.WO Go.E.WK
theorem slices_IndexFunc_sint_walk {m : Mu} {p0 : List Int} {p1 : Int → Option Bool} {a_p0 : Option Addr} {q_p0 c_p0 : Nat} {p1v : Value} (h_p0 : SlR (FE (I1 .i64)) 1 m (.slice a_p0 q_p0 c_p0) p0) (hp1 : ∀ (m1 : Mu), Le m m1 → ∀ (u1 : Int), ∀ (r : Bool), p1 u1 = some r → SpecV Try.prog p1v [.int .i64 u1] m1 (fun v _ _ => v = .bool r)) {r : Int} (hm : slices_IndexFunc_sint p0 p1 = some r) :
    Go.E.Spec Try.prog 70 [.slice a_p0 q_p0 c_p0, p1v] m (fun v _ _ => v = .int .i64 r) := by
  refine Spec_enter Try.func70 rfl rfl rfl (fun w0 => ?_)
  refine WK.sub (e' := [(0, .slice a_p0 q_p0 c_p0), (1, p1v)]) ⟨rfl, rfl, trivial⟩ ?_
  obtain rfl := SlR.qlen h_p0
  refine WK.sub (e' := [(0, .slice a_p0 p0.length c_p0), (1, p1v)]) ⟨rfl, rfl, trivial⟩ ?_
  unfold slices_IndexFunc_sint at hm
  refine WK_seq ?_
  refine WK_region ?_
  refine WO_pure tbok 1 [(0, .slice a_p0 p0.length c_p0), (1, p1v), (4, .int .i64 0)] rfl ⟨rfl, rfl, rfl, trivial⟩ ?_
  refine WO_end ?_
  refine WK_seq ?_
  refine WK_seq ?_
  refine WK_region ?_
  refine WO_pure tbok 3 [(0, .slice a_p0 p0.length c_p0), (1, p1v), (4, .int .i64 0), (7, .int .i64 (p0.length : Int)), (8, .int .i64 0)] rfl ⟨rfl, rfl, rfl, rfl, rfl, trivial⟩ ?_
  refine WO_end ?_
  obtain ⟨x2, hx3, hm⟩ := bind_some hm
  refine WK_join (β := Unit × Unit) (fun p => Sum.inr p.1 = x2) (fun p => [(4, .int .i64 0)]) (fun p => St w0 m m []) ?_ (fun hk4 => ?_)
  · rintro ⟨⟨⟩, ⟨⟩⟩ hq10
    subst hq10
    refine WK.sub (e' := [(4, .int .i64 0)]) ⟨rfl, trivial⟩ (WK.cls (C' := St w0 m m []) (fun _ h => h) ?_)
    refine WK_seq ?_
    refine WK_region ?_
    refine WO_pure tbok 1 [(4, .int .i64 (-1))] rfl ⟨rfl, trivial⟩ ?_
    refine WO_end ?_
    cases hm
    exact WK_ret (ret_out (L := []) (RLc_tmp rfl RLc_nil) (List.nil_sublist _) rfl)
  · refine WK_block ?_
    refine WK_loop (S := Int) (G := Unit) (fun s => slices_IndexFunc_sint_s1 p0 p1 s) (fun s g => [(0, .slice a_p0 p0.length c_p0), (1, p1v), (4, .int .i64 0), (7, .int .i64 (p0.length : Int)), (8, .int .i64 s)]) (fun s g => St w0 m m []) (fun s g => True) FUEL 0 () x2 hx3 trivial ⟨rfl, rfl, rfl, rfl, rfl, trivial⟩ (fun _ h => h) ?_
    rintro s_1 ⟨⟩ o6 fl7 hm5 - hn8 hd9
    have hm5 : slices_IndexFunc_sint_s1 p0 p1 s_1 = some o6 := hm5
    unfold slices_IndexFunc_sint_s1 at hm5
    refine WK.sub (e' := [(0, .slice a_p0 p0.length c_p0), (1, p1v), (4, .int .i64 0), (7, .int .i64 (p0.length : Int)), (8, .int .i64 s_1)]) ⟨rfl, rfl, rfl, rfl, rfl, trivial⟩ (WK.cls (C' := St w0 m m []) (fun _ h => h) ?_)
    refine WK_seq ?_
    refine WK_region ?_
    refine WO_pure tbok 1 [(0, .slice a_p0 p0.length c_p0), (1, p1v), (4, .int .i64 0), (7, .int .i64 (p0.length : Int)), (8, .int .i64 s_1), (9, .bool (decide (s_1 < (p0.length : Int))))] rfl ⟨rfl, rfl, rfl, rfl, rfl, rfl, trivial⟩ ?_
    refine WO_end ?_
    refine WK_seq ?_
    refine WK_cond (b := decide (s_1 < (p0.length : Int))) rfl (fun hb11 => ?_) (fun hb11 => ?_)
    · have hm5 := ifT hb11 hm5
      refine WK_skip ?_
      refine WK_seq ?_
      refine WK_block ?_
      refine WK_seq ?_
      refine WK_region ?_
      refine WO_pure tbok 2 [(0, .slice a_p0 p0.length c_p0), (1, p1v), (4, .int .i64 0), (5, .int .i64 s_1), (7, .int .i64 (p0.length : Int)), (8, .int .i64 s_1)] rfl ⟨rfl, rfl, rfl, rfl, rfl, rfl, trivial⟩ ?_
      refine WO_end ?_
      refine WK_seq ?_
      refine WK_region ?_
      refine WO_pure tbok 3 [(0, .slice a_p0 p0.length c_p0), (1, p1v), (4, .int .i64 0), (5, .int .i64 s_1), (7, .int .i64 (p0.length : Int)), (8, .int .i64 s_1), (11, p1v), (12, .slice a_p0 p0.length c_p0), (13, .int .i64 s_1)] rfl ⟨rfl, rfl, rfl, rfl, rfl, rfl, rfl, rfl, rfl, trivial⟩ ?_
      obtain ⟨v_2, hy12, hm5⟩ := bind_some hm5
      obtain ⟨hc13, hy12⟩ := ix_some hy12
      refine WO_index tbok rfl rfl rfl rfl rfl rfl rfl rfl (SlR.addr h_p0) hc13 ?_
      refine WO_loadE tbok rfl rfl rfl rfl (fun _ h => St.sat h) h_p0 hy12 rfl ?_
      obtain ⟨y_3, hc14, hm5⟩ := bind_some hm5
      obtain ⟨f0, first0, cap0, hf0, hcal0, hsp0⟩ := hp1 _ (Le.refl _) v_2 _ hc14
      refine WO_call0 (.bool y_3) rfl rfl trivial rfl rfl rfl rfl St_closed ⟨f0, first0, cap0, hf0, hcal0, fun w hw => ⟨m, hw.sat, hsp0⟩⟩ ?_
      refine WO_end ?_
      refine WK_cond (b := y_3) rfl (fun hb15 => ?_) (fun hb15 => ?_)
      · have hm5 := ifT hb15 hm5
        refine WK_seq ?_
        refine WK_region ?_
        refine WO_pure tbok 2 [(0, .slice a_p0 p0.length c_p0), (1, p1v), (4, .int .i64 s_1), (7, .int .i64 (p0.length : Int)), (8, .int .i64 s_1)] rfl ⟨rfl, rfl, rfl, rfl, rfl, trivial⟩ ?_
        refine WO_end ?_
        cases hm5
        have hq := hd9 _ rfl
        subst hq
        have hm : some _ = some _ := hm
        cases hm
        exact WK_ret (ret_out (L := []) (RLc_tmp rfl RLc_nil) (List.nil_sublist _) rfl)
      · have hm5 := ifF hb15 hm5
        refine WK_skip ?_
        refine WK_blk ?_
        refine WK_region ?_
        refine WO_pure tbok 2 [(0, .slice a_p0 p0.length c_p0), (1, p1v), (4, .int .i64 0), (7, .int .i64 (p0.length : Int)), (8, .int .i64 (w64 (s_1 + 1)))] rfl ⟨rfl, rfl, rfl, rfl, rfl, trivial⟩ ?_
        refine WO_end ?_
        cases hm5
        refine WK.sub ?_ (WK.cls (fun _ h => h) (hn8 _ () rfl trivial))
        exact ⟨rfl, rfl, rfl, rfl, rfl, trivial⟩
    · have hm5 := ifF hb11 hm5
      refine WK_exit rfl ?_
      cases hm5
      refine WK.sub ?_ (WK.cls (fun _ h => h) (hk4 ((), ()) (hd9 _ rfl)))
      exact ⟨rfl, trivial⟩
theorem slices_ContainsFunc_sint_walk {m : Mu} {p0 : List Int} {p1 : Int → Option Bool} {a_p0 : Option Addr} {q_p0 c_p0 : Nat} {p1v : Value} (h_p0 : SlR (FE (I1 .i64)) 1 m (.slice a_p0 q_p0 c_p0) p0) (hp1 : ∀ (m1 : Mu), Le m m1 → ∀ (u1 : Int), ∀ (r : Bool), p1 u1 = some r → SpecV Try.prog p1v [.int .i64 u1] m1 (fun v _ _ => v = .bool r)) {r : Bool} (hm : slices_ContainsFunc_sint p0 p1 = some r) :
    Go.E.Spec Try.prog 40 [.slice a_p0 q_p0 c_p0, p1v] m (fun v _ _ => v = .bool r) := by
  refine Spec_enter Try.func40 rfl rfl rfl (fun w0 => ?_)
  refine WK.sub (e' := [(0, .slice a_p0 q_p0 c_p0), (1, p1v)]) ⟨rfl, rfl, trivial⟩ ?_
  obtain rfl := SlR.qlen h_p0
  refine WK.sub (e' := [(0, .slice a_p0 p0.length c_p0), (1, p1v)]) ⟨rfl, rfl, trivial⟩ ?_
  unfold slices_ContainsFunc_sint at hm
  refine WK_seq ?_
  refine WK_region ?_
  refine WO_pure tbok 1 [(0, .slice a_p0 p0.length c_p0), (1, p1v), (4, .bool false)] rfl ⟨rfl, rfl, rfl, trivial⟩ ?_
  refine WO_end ?_
  refine WK_seq ?_
  refine WK_region ?_
  refine WO_pure tbok 2 [(4, .bool false), (5, .slice a_p0 p0.length c_p0), (6, p1v)] rfl ⟨rfl, rfl, rfl, trivial⟩ ?_
  obtain ⟨y_1, hc2, hm⟩ := bind_some hm
  refine WO_call0 (.int .i64 y_1) rfl rfl trivial rfl rfl rfl rfl St_closed ⟨70, #[], #[], rfl, callable_70, fun w hw => ⟨_, hw.sat, slices_IndexFunc_sint_walk h_p0 hp1 hc2⟩⟩ ?_
  refine WO_pure tbok 2 [(4, .bool (decide (0 ≤ y_1)))] rfl ⟨rfl, trivial⟩ ?_
  refine WO_end ?_
  cases hm
  exact WK_ret (ret_out (L := []) (RLc_tmp rfl RLc_nil) (List.nil_sublist _) rfl)
theorem raster_Check_c1_walk {m : Mu} {p0 : Int} {q0_0 : Int} {q0_1 : Int} {q0_2 : Int} {q0_3 : List Int} {a_q0_3 : Option Addr} {q_q0_3 c_q0_3 : Nat} {b_q0 : Nat} (hb_q0 : m b_q0 = some (Ent.obj ⟨b_q0, 24, [.int .i64 q0_0, .int .i64 q0_1, .int .i64 q0_2, .slice a_q0_3 q_q0_3 c_q0_3]⟩)) (h_q0_3 : SlR (FE (I1 .i64)) 1 m (.slice a_q0_3 q_q0_3 c_q0_3) q0_3) {r : Bool} (hm : raster_Check_c1 p0 q0_0 q0_1 q0_2 q0_3 = some r) :
    Go.E.Spec Try.prog 71 [.int .i64 p0, .pointer (some ⟨b_q0, 0, none⟩)] m (fun v _ _ => v = .bool r) := by
  refine Spec_enter Try.func71 rfl rfl rfl (fun w0 => ?_)
  refine WK.sub (e' := [(0, .int .i64 p0), (1, .pointer (some ⟨b_q0, 0, none⟩))]) ⟨rfl, rfl, trivial⟩ ?_
  obtain rfl := SlR.qlen h_q0_3
  refine WK.sub (e' := [(0, .int .i64 p0), (1, .pointer (some ⟨b_q0, 0, none⟩))]) ⟨rfl, rfl, trivial⟩ ?_
  unfold raster_Check_c1 at hm
  refine WK_seq ?_
  refine WK_region ?_
  refine WO_pure tbok 1 [(0, .int .i64 p0), (1, .pointer (some ⟨b_q0, 0, none⟩)), (3, .bool false)] rfl ⟨rfl, rfl, rfl, trivial⟩ ?_
  refine WO_end ?_
  refine WK_seq ?_
  refine WK_region ?_
  refine WO_pure tbok 3 [(0, .int .i64 p0), (1, .pointer (some ⟨b_q0, 0, none⟩)), (3, .bool false), (6, .bool (decide (p0 < 0)))] rfl ⟨rfl, rfl, rfl, rfl, trivial⟩ ?_
  refine WO_split (d := 6) (b := decide (p0 < 0)) rfl (fun hb2 => ?_) (fun hb2 => ?_)
  · have hm := ifT hb2 hm
    refine WO_pure tbok 6 [(3, .bool true)] rfl ⟨rfl, trivial⟩ ?_
    refine WO_end ?_
    cases hm
    exact WK_ret (ret_out (L := []) (RLc_tmp rfl RLc_nil) (List.nil_sublist _) rfl)
  · have hm := ifF hb2 hm
    refine WO_pure tbok 2 [(3, .bool false), (6, .bool false), (7, .int .i64 p0), (8, .pointer (some ⟨b_q0, 2, none⟩))] rfl ⟨rfl, rfl, rfl, rfl, trivial⟩ ?_
    refine WO_loadM tbok rfl rfl rfl rfl (fun _ h => St.sat h) hb_q0 rfl ?_
    refine WO_pure tbok 3 [(3, .bool (decide (q0_2 < p0)))] rfl ⟨rfl, trivial⟩ ?_
    refine WO_end ?_
    cases hm
    exact WK_ret (ret_out (L := []) (RLc_tmp rfl RLc_nil) (List.nil_sublist _) rfl)
theorem raster_Check_walk {m : Mu} {p0_0 : Int} {p0_1 : Int} {p0_2 : Int} {p0_3 : List Int} {a_p0_3 : Option Addr} {q_p0_3 c_p0_3 : Nat} (h_p0_3 : SlR (FE (I1 .i64)) 1 m (.slice a_p0_3 q_p0_3 c_p0_3) p0_3) {r : Int} (hm : raster_Check p0_0 p0_1 p0_2 p0_3 = some r) :
    Go.E.Spec Try.prog 43 [.agg #[.int .i64 p0_0, .int .i64 p0_1, .int .i64 p0_2, .slice a_p0_3 q_p0_3 c_p0_3]] m (fun v _ _ => v = .int .i64 r) := by
  refine Spec_enter Try.func43 rfl rfl rfl (fun w0 => ?_)
  refine WK.sub (e' := [(0, .agg #[.int .i64 p0_0, .int .i64 p0_1, .int .i64 p0_2, .slice a_p0_3 q_p0_3 c_p0_3])]) ⟨rfl, trivial⟩ ?_
  obtain rfl := SlR.qlen h_p0_3
  refine WK.sub (e' := [(0, .agg #[.int .i64 p0_0, .int .i64 p0_1, .int .i64 p0_2, .slice a_p0_3 p0_3.length c_p0_3])]) ⟨rfl, trivial⟩ ?_
  unfold raster_Check at hm
  refine WK_seq ?_
  refine WK_region ?_
  refine WO_box [.int .i64 p0_0, .int .i64 p0_1, .int .i64 p0_2, .slice a_p0_3 p0_3.length c_p0_3] rfl rfl trivial rfl rfl rfl (fun b2 => ?_)
  refine WO.cls (C' := St w0 m m [[⟨b2, 24, [.int .i64 p0_0, .int .i64 p0_1, .int .i64 p0_2, .slice a_p0_3 p0_3.length c_p0_3]⟩]]) (fun _ h => h) ?_
  refine WO_pure tbok 1 [(1, .pointer (some ⟨b2, 0, none⟩)), (2, .int .i64 0)] rfl ⟨rfl, rfl, trivial⟩ ?_
  refine WO_end ?_
  refine WK_seq ?_
  refine WK_seq ?_
  obtain ⟨s_1, hx3, hm⟩ := bind_some hm
  refine WK_meet [(1, .pointer (some ⟨b2, 0, none⟩)), (2, .int .i64 0), (34, .bool s_1)] (St w0 m m [[⟨b2, 24, [.int .i64 p0_0, .int .i64 p0_1, .int .i64 p0_2, .slice a_p0_3 p0_3.length c_p0_3]⟩]]) ?_ (fun hk4 => ?_)
  · refine WK_cond (b := s_1) rfl (fun hb5 => ?_) (fun hb5 => ?_)
    · have hm := ifT hb5 hm
      refine WK_seq ?_
      refine WK_region ?_
      refine WO_pure tbok 1 [(1, .pointer (some ⟨b2, 0, none⟩)), (2, .int .i64 1)] rfl ⟨rfl, rfl, trivial⟩ ?_
      refine WO_end ?_
      cases hm
      exact WK_ret (ret_out (L := []) (RLc_tmp rfl RLc_nil) (List.nil_sublist _) rfl)
    · have hm := ifF hb5 hm
      refine WK_skip ?_
      refine WK_seq ?_
      refine WK_seq ?_
      refine WK_region ?_
      refine WO_pure tbok 1 [(1, .pointer (some ⟨b2, 0, none⟩)), (2, .int .i64 0), (35, .pointer (some ⟨b2, 3, none⟩))] rfl ⟨rfl, rfl, rfl, trivial⟩ ?_
      refine WO_loadB tbok 0 rfl rfl rfl rfl (fun _ h => h) rfl rfl ?_
      refine WO_pure tbok 1 [(2, .int .i64 0), (36, .slice a_p0_3 p0_3.length c_p0_3), (37, .func (.func 71) #[] #[.pointer (some ⟨b2, 0, none⟩)])] rfl ⟨rfl, rfl, rfl, trivial⟩ ?_
      obtain ⟨y_3, hc6, hm⟩ := bind_some hm
      refine WO_call0 (.bool y_3) rfl rfl trivial rfl rfl rfl rfl St_closed ⟨40, #[], #[], rfl, callable_40, fun w hw => ⟨_, hw.satV, slices_ContainsFunc_sint_walk (h_p0_3.mono (mono_FE _) hw.leV) (fun m1 hm1 z_2 _ h => specV_cap callable_71 (raster_Check_c1_walk (hm1 _ _ (hw.memV (i := 0) rfl (List.mem_singleton.2 rfl))) ((h_p0_3.mono (mono_FE _) hw.leV).mono (mono_FE _) hm1) h)) hc6⟩⟩ ?_
      refine WO_end ?_
      refine WK_cond (b := y_3) rfl (fun hb7 => ?_) (fun hb7 => ?_)
      · have hm := ifT hb7 hm
        refine WK_seq ?_
        refine WK_region ?_
        refine WO_pure tbok 1 [(2, .int .i64 1)] rfl ⟨rfl, trivial⟩ ?_
        refine WO_end ?_
        cases hm
        exact WK_ret (ret_out (L := []) (RLc_tmp rfl RLc_nil) (List.nil_sublist _) rfl)
      · have hm := ifF hb7 hm
        refine WK_skip ?_
        refine WK_seq ?_
        refine WK_region ?_
        refine WO_pure tbok 1 [(2, .int .i64 0)] rfl ⟨rfl, trivial⟩ ?_
        refine WO_end ?_
        cases hm
        exact WK_ret (ret_out (L := []) (RLc_tmp rfl RLc_nil) (List.nil_sublist _) rfl)
  · refine WK_region ?_
    refine WO_pure tbok 1 [(1, .pointer (some ⟨b2, 0, none⟩)), (2, .int .i64 0), (3, .pointer (some ⟨b2, 0, none⟩))] rfl ⟨rfl, rfl, rfl, trivial⟩ ?_
    refine WO_loadB tbok 0 rfl rfl rfl rfl (fun _ h => h) rfl rfl ?_
    refine WO_pure tbok 1 [(1, .pointer (some ⟨b2, 0, none⟩)), (2, .int .i64 0), (4, .int .i64 p0_0), (5, .pointer (some ⟨b2, 1, none⟩))] rfl ⟨rfl, rfl, rfl, rfl, trivial⟩ ?_
    refine WO_loadB tbok 0 rfl rfl rfl rfl (fun _ h => h) rfl rfl ?_
    refine WO_pure tbok 1 [(1, .pointer (some ⟨b2, 0, none⟩)), (2, .int .i64 0), (4, .int .i64 p0_0), (6, .int .i64 p0_1), (7, .pointer (some ⟨b2, 2, none⟩))] rfl ⟨rfl, rfl, rfl, rfl, rfl, trivial⟩ ?_
    refine WO_loadB tbok 0 rfl rfl rfl rfl (fun _ h => h) rfl rfl ?_
    refine WO_pure tbok 3 [(1, .pointer (some ⟨b2, 0, none⟩)), (2, .int .i64 0), (11, .bool (decide ((if p0_2 < (if p0_1 < p0_0 then p0_1 else p0_0) then p0_2 else (if p0_1 < p0_0 then p0_1 else p0_0)) < 1)))] rfl ⟨rfl, rfl, rfl, trivial⟩ ?_
    refine WO_split (d := 11) (b := decide ((if p0_2 < (if p0_1 < p0_0 then p0_1 else p0_0) then p0_2 else (if p0_1 < p0_0 then p0_1 else p0_0)) < 1)) rfl (fun hb8 => ?_) (fun hb8 => ?_)
    · have hx3 := ifT hb8 hx3
      refine WO_pure tbok 23 [(1, .pointer (some ⟨b2, 0, none⟩)), (2, .int .i64 0), (34, .bool true)] rfl ⟨rfl, rfl, rfl, trivial⟩ ?_
      refine WO_end ?_
      cases hx3
      refine WK.sub ?_ (WK.cls (fun _ h => h) hk4)
      exact ⟨rfl, rfl, rfl, trivial⟩
    · have hx3 := ifF hb8 hx3
      refine WO_pure tbok 1 [(1, .pointer (some ⟨b2, 0, none⟩)), (2, .int .i64 0), (11, .bool false), (12, .pointer (some ⟨b2, 0, none⟩))] rfl ⟨rfl, rfl, rfl, rfl, trivial⟩ ?_
      refine WO_loadB tbok 0 rfl rfl rfl rfl (fun _ h => h) rfl rfl ?_
      refine WO_pure tbok 1 [(1, .pointer (some ⟨b2, 0, none⟩)), (2, .int .i64 0), (11, .bool false), (13, .int .i64 p0_0), (14, .pointer (some ⟨b2, 1, none⟩))] rfl ⟨rfl, rfl, rfl, rfl, rfl, trivial⟩ ?_
      refine WO_loadB tbok 0 rfl rfl rfl rfl (fun _ h => h) rfl rfl ?_
      refine WO_pure tbok 4 [(1, .pointer (some ⟨b2, 0, none⟩)), (2, .int .i64 0), (19, .bool (decide (64 < (if p0_0 < p0_1 then p0_1 else p0_0))))] rfl ⟨rfl, rfl, rfl, trivial⟩ ?_
      refine WO_split (d := 19) (b := decide (64 < (if p0_0 < p0_1 then p0_1 else p0_0))) rfl (fun hb9 => ?_) (fun hb9 => ?_)
      · have hx3 := ifT hb9 hx3
        refine WO_pure tbok 15 [(1, .pointer (some ⟨b2, 0, none⟩)), (2, .int .i64 0), (34, .bool true)] rfl ⟨rfl, rfl, rfl, trivial⟩ ?_
        refine WO_end ?_
        cases hx3
        refine WK.sub ?_ (WK.cls (fun _ h => h) hk4)
        exact ⟨rfl, rfl, rfl, trivial⟩
      · have hx3 := ifF hb9 hx3
        refine WO_pure tbok 1 [(1, .pointer (some ⟨b2, 0, none⟩)), (2, .int .i64 0), (19, .bool false), (20, .pointer (some ⟨b2, 2, none⟩))] rfl ⟨rfl, rfl, rfl, rfl, trivial⟩ ?_
        refine WO_loadB tbok 0 rfl rfl rfl rfl (fun _ h => h) rfl rfl ?_
        refine WO_pure tbok 3 [(1, .pointer (some ⟨b2, 0, none⟩)), (2, .int .i64 0), (24, .bool (decide (65535 < p0_2)))] rfl ⟨rfl, rfl, rfl, trivial⟩ ?_
        refine WO_split (d := 24) (b := decide (65535 < p0_2)) rfl (fun hb10 => ?_) (fun hb10 => ?_)
        · have hx3 := ifT hb10 hx3
          refine WO_pure tbok 10 [(1, .pointer (some ⟨b2, 0, none⟩)), (2, .int .i64 0), (34, .bool true)] rfl ⟨rfl, rfl, rfl, trivial⟩ ?_
          refine WO_end ?_
          cases hx3
          refine WK.sub ?_ (WK.cls (fun _ h => h) hk4)
          exact ⟨rfl, rfl, rfl, trivial⟩
        · have hx3 := ifF hb10 hx3
          refine WO_pure tbok 1 [(1, .pointer (some ⟨b2, 0, none⟩)), (2, .int .i64 0), (24, .bool false), (25, .pointer (some ⟨b2, 3, none⟩))] rfl ⟨rfl, rfl, rfl, rfl, trivial⟩ ?_
          refine WO_loadB tbok 0 rfl rfl rfl rfl (fun _ h => h) rfl rfl ?_
          refine WO_pure tbok 2 [(1, .pointer (some ⟨b2, 0, none⟩)), (2, .int .i64 0), (24, .bool false), (27, .int .i64 (p0_3.length : Int)), (28, .pointer (some ⟨b2, 0, none⟩))] rfl ⟨rfl, rfl, rfl, rfl, rfl, trivial⟩ ?_
          refine WO_loadB tbok 0 rfl rfl rfl rfl (fun _ h => h) rfl rfl ?_
          refine WO_pure tbok 1 [(1, .pointer (some ⟨b2, 0, none⟩)), (2, .int .i64 0), (24, .bool false), (27, .int .i64 (p0_3.length : Int)), (29, .int .i64 p0_0), (30, .pointer (some ⟨b2, 1, none⟩))] rfl ⟨rfl, rfl, rfl, rfl, rfl, rfl, trivial⟩ ?_
          refine WO_loadB tbok 0 rfl rfl rfl rfl (fun _ h => h) rfl rfl ?_
          refine WO_pure tbok 3 [(1, .pointer (some ⟨b2, 0, none⟩)), (2, .int .i64 0), (34, .bool ((p0_3.length : Int) != (w64 (p0_0 * p0_1))))] rfl ⟨rfl, rfl, rfl, trivial⟩ ?_
          refine WO_end ?_
          cases hx3
          refine WK.sub ?_ (WK.cls (fun _ h => h) hk4)
          exact ⟨rfl, rfl, rfl, trivial⟩
theorem census_both_walk {m : Mu} {p0_0 : Int} {p0_1 : Int} {p0_2 : Int} {p0_3 : List Int} {p1_0 : Int} {p1_1 : Int} {p1_2 : Int} {p1_3 : List Int} {a_p0_3 : Option Addr} {q_p0_3 c_p0_3 : Nat} {a_p1_3 : Option Addr} {q_p1_3 c_p1_3 : Nat} (h_p0_3 : SlR (FE (I1 .i64)) 1 m (.slice a_p0_3 q_p0_3 c_p0_3) p0_3) (h_p1_3 : SlR (FE (I1 .i64)) 1 m (.slice a_p1_3 q_p1_3 c_p1_3) p1_3) {r : Int} (hm : census_both p0_0 p0_1 p0_2 p0_3 p1_0 p1_1 p1_2 p1_3 = some r) :
    Go.E.Spec Try.prog 27 [.agg #[.int .i64 p0_0, .int .i64 p0_1, .int .i64 p0_2, .slice a_p0_3 q_p0_3 c_p0_3], .agg #[.int .i64 p1_0, .int .i64 p1_1, .int .i64 p1_2, .slice a_p1_3 q_p1_3 c_p1_3]] m (fun v _ _ => v = .int .i64 r) := by
  refine Spec_enter Try.func27 rfl rfl rfl (fun w0 => ?_)
  refine WK.sub (e' := [(0, .agg #[.int .i64 p0_0, .int .i64 p0_1, .int .i64 p0_2, .slice a_p0_3 q_p0_3 c_p0_3]), (1, .agg #[.int .i64 p1_0, .int .i64 p1_1, .int .i64 p1_2, .slice a_p1_3 q_p1_3 c_p1_3])]) ⟨rfl, rfl, trivial⟩ ?_
  obtain rfl := SlR.qlen h_p0_3
  obtain rfl := SlR.qlen h_p1_3
  refine WK.sub (e' := [(0, .agg #[.int .i64 p0_0, .int .i64 p0_1, .int .i64 p0_2, .slice a_p0_3 p0_3.length c_p0_3]), (1, .agg #[.int .i64 p1_0, .int .i64 p1_1, .int .i64 p1_2, .slice a_p1_3 p1_3.length c_p1_3])]) ⟨rfl, rfl, trivial⟩ ?_
  unfold census_both at hm
  refine WK_seq ?_
  refine WK_region ?_
  refine WO_box [.int .i64 p0_0, .int .i64 p0_1, .int .i64 p0_2, .slice a_p0_3 p0_3.length c_p0_3] rfl rfl trivial rfl rfl rfl (fun b3 => ?_)
  refine WO.cls (C' := St w0 m m [[⟨b3, 24, [.int .i64 p0_0, .int .i64 p0_1, .int .i64 p0_2, .slice a_p0_3 p0_3.length c_p0_3]⟩]]) (fun _ h => h) ?_
  refine WO_box [.int .i64 p1_0, .int .i64 p1_1, .int .i64 p1_2, .slice a_p1_3 p1_3.length c_p1_3] rfl rfl trivial rfl rfl rfl (fun b4 => ?_)
  refine WO.cls (C' := St w0 m m [[⟨b3, 24, [.int .i64 p0_0, .int .i64 p0_1, .int .i64 p0_2, .slice a_p0_3 p0_3.length c_p0_3]⟩], [⟨b4, 24, [.int .i64 p1_0, .int .i64 p1_1, .int .i64 p1_2, .slice a_p1_3 p1_3.length c_p1_3]⟩]]) (fun _ h => h) ?_
  refine WO_pure tbok 1 [(2, .pointer (some ⟨b3, 0, none⟩)), (3, .pointer (some ⟨b4, 0, none⟩)), (4, .int .i64 0)] rfl ⟨rfl, rfl, rfl, trivial⟩ ?_
  refine WO_end ?_
  refine WK_seq ?_
  refine WK_seq ?_
  refine WK_region ?_
  refine WO_loadB tbok 0 rfl rfl rfl rfl (fun _ h => h) rfl rfl ?_
  refine WO_loadB tbok 1 rfl rfl rfl rfl (fun _ h => h) rfl rfl ?_
  refine WO_bsliceX (E := V4) (El := El24) tbok (fun _ => rfl) (by decide) [.agg #[.int .i64 p0_0, .int .i64 p0_1, .int .i64 p0_2, .slice a_p0_3 p0_3.length c_p0_3], .agg #[.int .i64 p1_0, .int .i64 p1_1, .int .i64 p1_2, .slice a_p1_3 p1_3.length c_p1_3]] [(.int .i64 p0_0, .int .i64 p0_1, .int .i64 p0_2, .slice a_p0_3 p0_3.length c_p0_3), (.int .i64 p1_0, .int .i64 p1_1, .int .i64 p1_2, .slice a_p1_3 p1_3.length c_p1_3)] ([(p0_0, p0_1, p0_2, p0_3), (p1_0, p1_1, p1_2, p1_3)] : List (Int × Int × Int × List Int)) rfl rfl trivial rfl rfl rfl rfl rfl rfl rfl rfl rfl rfl rfl rfl ⟨⟨_, _, _, rfl, h_p0_3⟩, ⟨_, _, _, rfl, h_p1_3⟩, trivial⟩ (fun b5 hb5 => ?_)
  refine WO.cls (C' := St w0 m m [[⟨b3, 24, [.int .i64 p0_0, .int .i64 p0_1, .int .i64 p0_2, .slice a_p0_3 p0_3.length c_p0_3]⟩], [⟨b4, 24, [.int .i64 p1_0, .int .i64 p1_1, .int .i64 p1_2, .slice a_p1_3 p1_3.length c_p1_3]⟩], [⟨b5, 24, [.int .i64 p0_0, .int .i64 p0_1, .int .i64 p0_2, .slice a_p0_3 p0_3.length c_p0_3, .int .i64 p1_0, .int .i64 p1_1, .int .i64 p1_2, .slice a_p1_3 p1_3.length c_p1_3]⟩]]) (fun _ h => h) ?_
  refine WO_pure tbok 2 [(2, .pointer (some ⟨b3, 0, none⟩)), (3, .pointer (some ⟨b4, 0, none⟩)), (4, .int .i64 0), (10, .slice (some ⟨b5, 0, none⟩) 2 2), (11, .int .i64 2), (12, .int .i64 0)] rfl ⟨rfl, rfl, rfl, rfl, rfl, rfl, trivial⟩ ?_
  refine WO_end ?_
  obtain ⟨x7, hx8, hm⟩ := bind_some hm
  refine WK_join (β := Unit × Unit) (fun p => Sum.inr p.1 = x7) (fun p => [(2, .pointer (some ⟨b3, 0, none⟩)), (3, .pointer (some ⟨b4, 0, none⟩)), (4, .int .i64 0)]) (fun p => St w0 m m [[⟨b3, 24, [.int .i64 p0_0, .int .i64 p0_1, .int .i64 p0_2, .slice a_p0_3 p0_3.length c_p0_3]⟩], [⟨b4, 24, [.int .i64 p1_0, .int .i64 p1_1, .int .i64 p1_2, .slice a_p1_3 p1_3.length c_p1_3]⟩], [⟨b5, 24, [.int .i64 p0_0, .int .i64 p0_1, .int .i64 p0_2, .slice a_p0_3 p0_3.length c_p0_3, .int .i64 p1_0, .int .i64 p1_1, .int .i64 p1_2, .slice a_p1_3 p1_3.length c_p1_3]⟩]]) ?_ (fun hk9 => ?_)
  · rintro ⟨⟨⟩, ⟨⟩⟩ hq15
    subst hq15
    refine WK.sub (e' := [(2, .pointer (some ⟨b3, 0, none⟩)), (3, .pointer (some ⟨b4, 0, none⟩)), (4, .int .i64 0)]) ⟨rfl, rfl, rfl, trivial⟩ (WK.cls (C' := St w0 m m [[⟨b3, 24, [.int .i64 p0_0, .int .i64 p0_1, .int .i64 p0_2, .slice a_p0_3 p0_3.length c_p0_3]⟩], [⟨b4, 24, [.int .i64 p1_0, .int .i64 p1_1, .int .i64 p1_2, .slice a_p1_3 p1_3.length c_p1_3]⟩], [⟨b5, 24, [.int .i64 p0_0, .int .i64 p0_1, .int .i64 p0_2, .slice a_p0_3 p0_3.length c_p0_3, .int .i64 p1_0, .int .i64 p1_1, .int .i64 p1_2, .slice a_p1_3 p1_3.length c_p1_3]⟩]]) (fun _ h => h) ?_)
    refine WK_seq ?_
    refine WK_seq ?_
    obtain ⟨s_2, hx16, hm⟩ := bind_some hm
    refine WK_meet [(4, .int .i64 0), (40, .bool s_2)] (St w0 m m [[⟨b3, 24, [.int .i64 p0_0, .int .i64 p0_1, .int .i64 p0_2, .slice a_p0_3 p0_3.length c_p0_3]⟩], [⟨b4, 24, [.int .i64 p1_0, .int .i64 p1_1, .int .i64 p1_2, .slice a_p1_3 p1_3.length c_p1_3]⟩], [⟨b5, 24, [.int .i64 p0_0, .int .i64 p0_1, .int .i64 p0_2, .slice a_p0_3 p0_3.length c_p0_3, .int .i64 p1_0, .int .i64 p1_1, .int .i64 p1_2, .slice a_p1_3 p1_3.length c_p1_3]⟩]]) ?_ (fun hk17 => ?_)
    · refine WK_cond (b := s_2) rfl (fun hb18 => ?_) (fun hb18 => ?_)
      · have hm := ifT hb18 hm
        refine WK_seq ?_
        refine WK_region ?_
        refine WO_pure tbok 1 [(4, .int .i64 4)] rfl ⟨rfl, trivial⟩ ?_
        refine WO_end ?_
        cases hm
        exact WK_ret (ret_out (L := []) (RLc_tmp rfl RLc_nil) (List.nil_sublist _) rfl)
      · have hm := ifF hb18 hm
        refine WK_skip ?_
        refine WK_seq ?_
        refine WK_region ?_
        refine WO_pure tbok 1 [(4, .int .i64 0)] rfl ⟨rfl, trivial⟩ ?_
        refine WO_end ?_
        cases hm
        exact WK_ret (ret_out (L := []) (RLc_tmp rfl RLc_nil) (List.nil_sublist _) rfl)
    · refine WK_region ?_
      refine WO_pure tbok 1 [(2, .pointer (some ⟨b3, 0, none⟩)), (3, .pointer (some ⟨b4, 0, none⟩)), (4, .int .i64 0), (22, .pointer (some ⟨b3, 0, none⟩))] rfl ⟨rfl, rfl, rfl, rfl, trivial⟩ ?_
      refine WO_loadB tbok 0 rfl rfl rfl rfl (fun _ h => h) rfl rfl ?_
      refine WO_pure tbok 1 [(2, .pointer (some ⟨b3, 0, none⟩)), (3, .pointer (some ⟨b4, 0, none⟩)), (4, .int .i64 0), (23, .int .i64 p0_0), (24, .pointer (some ⟨b4, 0, none⟩))] rfl ⟨rfl, rfl, rfl, rfl, rfl, trivial⟩ ?_
      refine WO_loadB tbok 1 rfl rfl rfl rfl (fun _ h => h) rfl rfl ?_
      refine WO_pure tbok 2 [(2, .pointer (some ⟨b3, 0, none⟩)), (3, .pointer (some ⟨b4, 0, none⟩)), (4, .int .i64 0), (27, .bool (p0_0 != p1_0))] rfl ⟨rfl, rfl, rfl, rfl, trivial⟩ ?_
      refine WO_split (d := 27) (b := p0_0 != p1_0) rfl (fun hb19 => ?_) (fun hb19 => ?_)
      · have hx16 := ifT hb19 hx16
        refine WO_pure tbok 13 [(4, .int .i64 0), (40, .bool true)] rfl ⟨rfl, rfl, trivial⟩ ?_
        refine WO_end ?_
        cases hx16
        refine WK.sub ?_ (WK.cls (fun _ h => h) hk17)
        exact ⟨rfl, rfl, trivial⟩
      · have hx16 := ifF hb19 hx16
        refine WO_pure tbok 1 [(2, .pointer (some ⟨b3, 0, none⟩)), (3, .pointer (some ⟨b4, 0, none⟩)), (4, .int .i64 0), (27, .bool false), (28, .pointer (some ⟨b3, 1, none⟩))] rfl ⟨rfl, rfl, rfl, rfl, rfl, trivial⟩ ?_
        refine WO_loadB tbok 0 rfl rfl rfl rfl (fun _ h => h) rfl rfl ?_
        refine WO_pure tbok 1 [(2, .pointer (some ⟨b3, 0, none⟩)), (3, .pointer (some ⟨b4, 0, none⟩)), (4, .int .i64 0), (27, .bool false), (29, .int .i64 p0_1), (30, .pointer (some ⟨b4, 1, none⟩))] rfl ⟨rfl, rfl, rfl, rfl, rfl, rfl, trivial⟩ ?_
        refine WO_loadB tbok 1 rfl rfl rfl rfl (fun _ h => h) rfl rfl ?_
        refine WO_pure tbok 3 [(2, .pointer (some ⟨b3, 0, none⟩)), (3, .pointer (some ⟨b4, 0, none⟩)), (4, .int .i64 0), (34, .bool (p0_1 != p1_1))] rfl ⟨rfl, rfl, rfl, rfl, trivial⟩ ?_
        refine WO_split (d := 34) (b := p0_1 != p1_1) rfl (fun hb20 => ?_) (fun hb20 => ?_)
        · have hx16 := ifT hb20 hx16
          refine WO_pure tbok 6 [(4, .int .i64 0), (40, .bool true)] rfl ⟨rfl, rfl, trivial⟩ ?_
          refine WO_end ?_
          cases hx16
          refine WK.sub ?_ (WK.cls (fun _ h => h) hk17)
          exact ⟨rfl, rfl, trivial⟩
        · have hx16 := ifF hb20 hx16
          refine WO_pure tbok 1 [(3, .pointer (some ⟨b4, 0, none⟩)), (4, .int .i64 0), (34, .bool false), (35, .pointer (some ⟨b3, 2, none⟩))] rfl ⟨rfl, rfl, rfl, rfl, trivial⟩ ?_
          refine WO_loadB tbok 0 rfl rfl rfl rfl (fun _ h => h) rfl rfl ?_
          refine WO_pure tbok 1 [(4, .int .i64 0), (34, .bool false), (36, .int .i64 p0_2), (37, .pointer (some ⟨b4, 2, none⟩))] rfl ⟨rfl, rfl, rfl, rfl, trivial⟩ ?_
          refine WO_loadB tbok 1 rfl rfl rfl rfl (fun _ h => h) rfl rfl ?_
          refine WO_pure tbok 2 [(4, .int .i64 0), (40, .bool (p0_2 != p1_2))] rfl ⟨rfl, rfl, trivial⟩ ?_
          refine WO_end ?_
          cases hx16
          refine WK.sub ?_ (WK.cls (fun _ h => h) hk17)
          exact ⟨rfl, rfl, trivial⟩
  · refine WK_block ?_
    refine WK_loop (S := Int) (G := Unit) (fun s => census_both_s1 p0_0 p0_1 p0_2 p0_3 p1_0 p1_1 p1_2 p1_3 s) (fun s g => [(2, .pointer (some ⟨b3, 0, none⟩)), (3, .pointer (some ⟨b4, 0, none⟩)), (4, .int .i64 0), (10, .slice (some ⟨b5, 0, none⟩) 2 2), (11, .int .i64 2), (12, .int .i64 s)]) (fun s g => St w0 m m [[⟨b3, 24, [.int .i64 p0_0, .int .i64 p0_1, .int .i64 p0_2, .slice a_p0_3 p0_3.length c_p0_3]⟩], [⟨b4, 24, [.int .i64 p1_0, .int .i64 p1_1, .int .i64 p1_2, .slice a_p1_3 p1_3.length c_p1_3]⟩], [⟨b5, 24, [.int .i64 p0_0, .int .i64 p0_1, .int .i64 p0_2, .slice a_p0_3 p0_3.length c_p0_3, .int .i64 p1_0, .int .i64 p1_1, .int .i64 p1_2, .slice a_p1_3 p1_3.length c_p1_3]⟩]]) (fun s g => True) FUEL 0 () x7 hx8 trivial ⟨rfl, rfl, rfl, rfl, rfl, rfl, trivial⟩ (fun _ h => h) ?_
    rintro s_1 ⟨⟩ o11 fl12 hm10 - hn13 hd14
    have hm10 : census_both_s1 p0_0 p0_1 p0_2 p0_3 p1_0 p1_1 p1_2 p1_3 s_1 = some o11 := hm10
    unfold census_both_s1 at hm10
    refine WK.sub (e' := [(2, .pointer (some ⟨b3, 0, none⟩)), (3, .pointer (some ⟨b4, 0, none⟩)), (4, .int .i64 0), (10, .slice (some ⟨b5, 0, none⟩) 2 2), (11, .int .i64 2), (12, .int .i64 s_1)]) ⟨rfl, rfl, rfl, rfl, rfl, rfl, trivial⟩ (WK.cls (C' := St w0 m m [[⟨b3, 24, [.int .i64 p0_0, .int .i64 p0_1, .int .i64 p0_2, .slice a_p0_3 p0_3.length c_p0_3]⟩], [⟨b4, 24, [.int .i64 p1_0, .int .i64 p1_1, .int .i64 p1_2, .slice a_p1_3 p1_3.length c_p1_3]⟩], [⟨b5, 24, [.int .i64 p0_0, .int .i64 p0_1, .int .i64 p0_2, .slice a_p0_3 p0_3.length c_p0_3, .int .i64 p1_0, .int .i64 p1_1, .int .i64 p1_2, .slice a_p1_3 p1_3.length c_p1_3]⟩]]) (fun _ h => h) ?_)
    refine WK_seq ?_
    refine WK_region ?_
    refine WO_pure tbok 1 [(2, .pointer (some ⟨b3, 0, none⟩)), (3, .pointer (some ⟨b4, 0, none⟩)), (4, .int .i64 0), (10, .slice (some ⟨b5, 0, none⟩) 2 2), (11, .int .i64 2), (12, .int .i64 s_1), (13, .bool (decide (s_1 < 2)))] rfl ⟨rfl, rfl, rfl, rfl, rfl, rfl, rfl, trivial⟩ ?_
    refine WO_end ?_
    refine WK_seq ?_
    refine WK_cond (b := decide (s_1 < 2)) rfl (fun hb21 => ?_) (fun hb21 => ?_)
    · have hm10 := ifT hb21 hm10
      refine WK_skip ?_
      refine WK_seq ?_
      refine WK_block ?_
      refine WK_seq ?_
      refine WK_region ?_
      obtain ⟨v_3, hy22, hm10⟩ := bind_some hm10
      obtain ⟨hc23, hy22⟩ := ix_some hy22
      refine WO_index tbok rfl rfl rfl rfl rfl rfl rfl rfl (OwnX.addr hb5) (by simpa using hc23) ?_
      refine WO_loadOX (E := V4) tbok (fun _ => rfl) 2 rfl rfl rfl rfl (fun _ h => h) hb5 rfl hy22 (fun cs hcs => ?_)
      obtain ⟨a24, qa24, c25, rfl, h26⟩ := hcs
      obtain rfl := SlR.qlen h26
      refine ⟨_, rfl, ?_⟩
      refine WO_alloc tbok [.int .i64 0, .int .i64 0, .int .i64 0, .slice none 0 0] rfl rfl trivial rfl rfl rfl rfl (fun b28 => ?_)
      refine WO.cls (C' := St w0 m m [[⟨b3, 24, [.int .i64 p0_0, .int .i64 p0_1, .int .i64 p0_2, .slice a_p0_3 p0_3.length c_p0_3]⟩], [⟨b4, 24, [.int .i64 p1_0, .int .i64 p1_1, .int .i64 p1_2, .slice a_p1_3 p1_3.length c_p1_3]⟩], [⟨b5, 24, [.int .i64 p0_0, .int .i64 p0_1, .int .i64 p0_2, .slice a_p0_3 p0_3.length c_p0_3, .int .i64 p1_0, .int .i64 p1_1, .int .i64 p1_2, .slice a_p1_3 p1_3.length c_p1_3]⟩], [⟨b28, 24, [.int .i64 0, .int .i64 0, .int .i64 0, .slice none 0 0]⟩]]) (fun _ h => h) ?_
      refine WO_storeB tbok 3 [.int .i64 v_3.1, .int .i64 v_3.2.1, .int .i64 v_3.2.2.1, .slice a24 ((v_3.2.2.2).length) c25] rfl rfl rfl rfl rfl rfl rfl ?_
      refine WO.cls (C' := St w0 m m [[⟨b3, 24, [.int .i64 p0_0, .int .i64 p0_1, .int .i64 p0_2, .slice a_p0_3 p0_3.length c_p0_3]⟩], [⟨b4, 24, [.int .i64 p1_0, .int .i64 p1_1, .int .i64 p1_2, .slice a_p1_3 p1_3.length c_p1_3]⟩], [⟨b5, 24, [.int .i64 p0_0, .int .i64 p0_1, .int .i64 p0_2, .slice a_p0_3 p0_3.length c_p0_3, .int .i64 p1_0, .int .i64 p1_1, .int .i64 p1_2, .slice a_p1_3 p1_3.length c_p1_3]⟩], [⟨b28, 24, [.int .i64 v_3.1, .int .i64 v_3.2.1, .int .i64 v_3.2.2.1, .slice a24 ((v_3.2.2.2).length) c25]⟩]]) (fun _ h => h) ?_
      refine WO_end ?_
      refine WK_seq ?_
      refine WK_region ?_
      refine WO_loadB tbok 3 rfl rfl rfl rfl (fun _ h => h) rfl rfl ?_
      obtain ⟨y_4, hc29, hm10⟩ := bind_some hm10
      refine WO_call0 (.int .i64 y_4) rfl rfl trivial rfl rfl rfl rfl St_closed ⟨43, #[], #[], rfl, callable_43, fun w hw => ⟨_, hw.sat, raster_Check_walk h26 hc29⟩⟩ ?_
      refine WO_pure tbok 1 [(2, .pointer (some ⟨b3, 0, none⟩)), (3, .pointer (some ⟨b4, 0, none⟩)), (4, .int .i64 0), (7, .int .i64 y_4), (10, .slice (some ⟨b5, 0, none⟩) 2 2), (11, .int .i64 2), (12, .int .i64 s_1)] rfl ⟨rfl, rfl, rfl, rfl, rfl, rfl, rfl, trivial⟩ ?_
      refine WO_end ?_
      refine WK_seq ?_
      refine WK_region ?_
      refine WO_pure tbok 2 [(2, .pointer (some ⟨b3, 0, none⟩)), (3, .pointer (some ⟨b4, 0, none⟩)), (4, .int .i64 0), (7, .int .i64 y_4), (10, .slice (some ⟨b5, 0, none⟩) 2 2), (11, .int .i64 2), (12, .int .i64 s_1), (19, .bool (y_4 != 0))] rfl ⟨rfl, rfl, rfl, rfl, rfl, rfl, rfl, rfl, trivial⟩ ?_
      refine WO_end ?_
      refine WK_cond (b := y_4 != 0) rfl (fun hb30 => ?_) (fun hb30 => ?_)
      · have hm10 := ifT hb30 hm10
        refine WK_seq ?_
        refine WK_region ?_
        refine WO_pure tbok 2 [(2, .pointer (some ⟨b3, 0, none⟩)), (3, .pointer (some ⟨b4, 0, none⟩)), (4, .int .i64 y_4), (10, .slice (some ⟨b5, 0, none⟩) 2 2), (11, .int .i64 2), (12, .int .i64 s_1)] rfl ⟨rfl, rfl, rfl, rfl, rfl, rfl, trivial⟩ ?_
        refine WO_end ?_
        cases hm10
        have hq := hd14 _ rfl
        subst hq
        have hm : some _ = some _ := hm
        cases hm
        exact WK_ret (ret_out (L := []) (RLc_tmp rfl RLc_nil) (List.nil_sublist _) rfl)
      · have hm10 := ifF hb30 hm10
        refine WK_skip ?_
        refine WK_blk ?_
        refine WK_region ?_
        refine WO_pure tbok 2 [(2, .pointer (some ⟨b3, 0, none⟩)), (3, .pointer (some ⟨b4, 0, none⟩)), (4, .int .i64 0), (10, .slice (some ⟨b5, 0, none⟩) 2 2), (11, .int .i64 2), (12, .int .i64 (w64 (s_1 + 1)))] rfl ⟨rfl, rfl, rfl, rfl, rfl, rfl, trivial⟩ ?_
        refine WO_end ?_
        cases hm10
        refine WK.sub ?_ (WK.cls (fun _ h => St.take 3 h) (hn13 _ () rfl trivial))
        exact ⟨rfl, rfl, rfl, rfl, rfl, rfl, trivial⟩
    · have hm10 := ifF hb21 hm10
      refine WK_exit rfl ?_
      cases hm10
      refine WK.sub ?_ (WK.cls (fun _ h => h) (hk9 ((), ()) (hd14 _ rfl)))
      exact ⟨rfl, rfl, rfl, trivial⟩
def census_costs_Q (r : Int × Int × Int × List Int) : Value → List Ent → Prop := fun v L => ∃ (a0 : Option Addr) (q0 c0 : Nat), v = .agg #[.int .i64 r.1, .int .i64 r.2.1, .int .i64 r.2.2.1, .slice a0 q0 c0] ∧ OwnE 3 1 (I1 .i64) (.slice a0 q0 c0) r.2.2.2 L
theorem census_costs_walk {m : Mu} {p0_0 : Int} {p0_1 : Int} {p0_2 : Int} {p0_3 : List Int} {p1 : List Int} {p2 : List Int} {p3 : Int} {p4 : Int} {p5 : Int → Int → Option Int} {a_p0_3 : Option Addr} {q_p0_3 c_p0_3 : Nat} {a_p1 : Option Addr} {q_p1 c_p1 : Nat} {a_p2 : Option Addr} {q_p2 c_p2 : Nat} {p5v : Value} (h_p0_3 : SlR (FE (I1 .i64)) 1 m (.slice a_p0_3 q_p0_3 c_p0_3) p0_3) (h_p1 : SlR (FE (I1 .i64)) 1 m (.slice a_p1 q_p1 c_p1) p1) (h_p2 : SlR (FE (I1 .i64)) 1 m (.slice a_p2 q_p2 c_p2) p2) (hp5 : ∀ (m1 : Mu), Le m m1 → ∀ (u1 : Int), ∀ (u2 : Int), ∀ (r : Int), p5 u1 u2 = some r → SpecV Try.prog p5v [.int .i64 u1, .int .i64 u2] m1 (fun v _ _ => v = .int .i64 r)) {r : Int × Int × Int × List Int} (hm : census_costs p0_0 p0_1 p0_2 p0_3 p1 p2 p3 p4 p5 = some r) :
    Go.E.Spec Try.prog 28 [.agg #[.int .i64 p0_0, .int .i64 p0_1, .int .i64 p0_2, .slice a_p0_3 q_p0_3 c_p0_3], .slice a_p1 q_p1 c_p1, .slice a_p2 q_p2 c_p2, .int .i64 p3, .int .i64 p4, p5v] m (fun v _ L => census_costs_Q r v L) := by
  refine Spec_enter Try.func28 rfl rfl rfl (fun w0 => ?_)
  refine WK.sub (e' := [(0, .agg #[.int .i64 p0_0, .int .i64 p0_1, .int .i64 p0_2, .slice a_p0_3 q_p0_3 c_p0_3]), (1, .slice a_p1 q_p1 c_p1), (2, .slice a_p2 q_p2 c_p2), (3, .int .i64 p3), (4, .int .i64 p4), (5, p5v)]) ⟨rfl, rfl, rfl, rfl, rfl, rfl, trivial⟩ ?_
  obtain rfl := SlR.qlen h_p0_3
  obtain rfl := SlR.qlen h_p1
  obtain rfl := SlR.qlen h_p2
  refine WK.sub (e' := [(0, .agg #[.int .i64 p0_0, .int .i64 p0_1, .int .i64 p0_2, .slice a_p0_3 p0_3.length c_p0_3]), (1, .slice a_p1 p1.length c_p1), (2, .slice a_p2 p2.length c_p2), (3, .int .i64 p3), (4, .int .i64 p4), (5, p5v)]) ⟨rfl, rfl, rfl, rfl, rfl, rfl, trivial⟩ ?_
  unfold census_costs at hm
  refine WK_seq ?_
  refine WK_region ?_
  refine WO_box [.int .i64 p0_0, .int .i64 p0_1, .int .i64 p0_2, .slice a_p0_3 p0_3.length c_p0_3] rfl rfl trivial rfl rfl rfl (fun b4 => ?_)
  refine WO.cls (C' := St w0 m m [[⟨b4, 24, [.int .i64 p0_0, .int .i64 p0_1, .int .i64 p0_2, .slice a_p0_3 p0_3.length c_p0_3]⟩]]) (fun _ h => h) ?_
  refine WO_alloc tbok [.int .i64 0, .int .i64 0, .int .i64 0, .slice none 0 0] rfl rfl trivial rfl rfl rfl rfl (fun b5 => ?_)
  refine WO.cls (C' := St w0 m m [[⟨b4, 24, [.int .i64 p0_0, .int .i64 p0_1, .int .i64 p0_2, .slice a_p0_3 p0_3.length c_p0_3]⟩], [⟨b5, 32, [.int .i64 0, .int .i64 0, .int .i64 0, .slice none 0 0]⟩]]) (fun _ h => h) ?_
  refine WO_end ?_
  refine WK_seq ?_
  refine WK_region ?_
  refine WO_pure tbok 1 [(1, .slice a_p1 p1.length c_p1), (2, .slice a_p2 p2.length c_p2), (3, .int .i64 p3), (4, .int .i64 p4), (5, p5v), (6, .pointer (some ⟨b4, 0, none⟩)), (12, .pointer (some ⟨b5, 0, none⟩)), (18, .pointer (some ⟨b4, 0, none⟩))] rfl ⟨rfl, rfl, rfl, rfl, rfl, rfl, rfl, rfl, trivial⟩ ?_
  refine WO_loadB tbok 0 rfl rfl rfl rfl (fun _ h => h) rfl rfl ?_
  refine WO_pure tbok 1 [(1, .slice a_p1 p1.length c_p1), (2, .slice a_p2 p2.length c_p2), (3, .int .i64 p3), (4, .int .i64 p4), (5, p5v), (6, .pointer (some ⟨b4, 0, none⟩)), (12, .pointer (some ⟨b5, 0, none⟩)), (19, .int .i64 p0_0), (20, .pointer (some ⟨b4, 1, none⟩))] rfl ⟨rfl, rfl, rfl, rfl, rfl, rfl, rfl, rfl, rfl, trivial⟩ ?_
  refine WO_loadB tbok 0 rfl rfl rfl rfl (fun _ h => h) rfl rfl ?_
  refine WO_pure tbok 2 [(1, .slice a_p1 p1.length c_p1), (2, .slice a_p2 p2.length c_p2), (3, .int .i64 p3), (4, .int .i64 p4), (5, p5v), (6, .pointer (some ⟨b4, 0, none⟩)), (12, .pointer (some ⟨b5, 0, none⟩)), (23, .agg #[.int .i64 p0_0, .int .i64 p0_1, .int .i64 p3, .slice none 0 0])] rfl ⟨rfl, rfl, rfl, rfl, rfl, rfl, rfl, rfl, trivial⟩ ?_
  refine WO_alloc tbok [.int .i64 0, .int .i64 0, .int .i64 0, .slice none 0 0] rfl rfl trivial rfl rfl rfl rfl (fun b6 => ?_)
  refine WO.cls (C' := St w0 m m [[⟨b4, 24, [.int .i64 p0_0, .int .i64 p0_1, .int .i64 p0_2, .slice a_p0_3 p0_3.length c_p0_3]⟩], [⟨b5, 32, [.int .i64 0, .int .i64 0, .int .i64 0, .slice none 0 0]⟩], [⟨b6, 32, [.int .i64 0, .int .i64 0, .int .i64 0, .slice none 0 0]⟩]]) (fun _ h => h) ?_
  refine WO_storeB tbok 2 [.int .i64 p0_0, .int .i64 p0_1, .int .i64 p3, .slice none 0 0] rfl rfl rfl rfl rfl rfl rfl ?_
  refine WO.cls (C' := St w0 m m [[⟨b4, 24, [.int .i64 p0_0, .int .i64 p0_1, .int .i64 p0_2, .slice a_p0_3 p0_3.length c_p0_3]⟩], [⟨b5, 32, [.int .i64 0, .int .i64 0, .int .i64 0, .slice none 0 0]⟩], [⟨b6, 32, [.int .i64 p0_0, .int .i64 p0_1, .int .i64 p3, .slice none 0 0]⟩]]) (fun _ h => h) ?_
  refine WO_end ?_
  refine WK_seq ?_
  refine WK_seq ?_
  refine WK_region ?_
  refine WO_pure tbok 3 [(2, .slice a_p2 p2.length c_p2), (3, .int .i64 p3), (4, .int .i64 p4), (5, p5v), (6, .pointer (some ⟨b4, 0, none⟩)), (12, .pointer (some ⟨b5, 0, none⟩)), (13, .pointer (some ⟨b6, 0, none⟩)), (24, .slice a_p1 p1.length c_p1), (25, .int .i64 (p1.length : Int)), (26, .int .i64 0)] rfl ⟨rfl, rfl, rfl, rfl, rfl, rfl, rfl, rfl, rfl, rfl, trivial⟩ ?_
  refine WO_end ?_
  refine WK_pad ?_
  obtain ⟨x18, hx19, hm⟩ := bind_some hm
  refine WK_join (β := (List Int) × (Option Addr × Nat × Nat × List Ent)) (fun p => p.1 = x18 ∧ OwnE 3 1 (I1 .i64) (.slice p.2.1 p.2.2.1 p.2.2.2.1) p.1 p.2.2.2.2) (fun p => [(12, .pointer (some ⟨b5, 0, none⟩)), (13, .pointer (some ⟨b6, 0, none⟩))]) (fun p => St w0 m m [[⟨b4, 24, [.int .i64 p0_0, .int .i64 p0_1, .int .i64 p0_2, .slice a_p0_3 p0_3.length c_p0_3]⟩], [⟨b5, 32, [.int .i64 0, .int .i64 0, .int .i64 0, .slice none 0 0]⟩], [⟨b6, 32, [.int .i64 p0_0, .int .i64 p0_1, .int .i64 p3, .slice p.2.1 p.2.2.1 p.2.2.2.1]⟩], p.2.2.2.2]) ?_ (fun hk20 => ?_)
  · rintro ⟨l_3, ⟨a15, q16, c17, L14⟩⟩ ⟨hq26, hL14⟩
    subst hq26
    have hqq : q16 = l_3.length := OwnE.qlen hL14
    subst hqq
    refine WK.sub (e' := [(12, .pointer (some ⟨b5, 0, none⟩)), (13, .pointer (some ⟨b6, 0, none⟩))]) ⟨rfl, rfl, trivial⟩ (WK.cls (C' := St w0 m m [[⟨b4, 24, [.int .i64 p0_0, .int .i64 p0_1, .int .i64 p0_2, .slice a_p0_3 p0_3.length c_p0_3]⟩], [⟨b5, 32, [.int .i64 0, .int .i64 0, .int .i64 0, .slice none 0 0]⟩], [⟨b6, 32, [.int .i64 p0_0, .int .i64 p0_1, .int .i64 p3, .slice a15 ((l_3).length) c17]⟩], L14]) (fun _ h => h) ?_)
    refine WK_seq ?_
    refine WK_region ?_
    refine WO_loadB tbok 2 rfl rfl rfl rfl (fun _ h => h) rfl rfl ?_
    refine WO_storeB tbok 1 [.int .i64 p0_0, .int .i64 p0_1, .int .i64 p3, .slice a15 ((l_3).length) c17] rfl rfl rfl rfl rfl rfl rfl ?_
    refine WO.cls (C' := St w0 m m [[⟨b4, 24, [.int .i64 p0_0, .int .i64 p0_1, .int .i64 p0_2, .slice a_p0_3 p0_3.length c_p0_3]⟩], [⟨b5, 32, [.int .i64 p0_0, .int .i64 p0_1, .int .i64 p3, .slice a15 ((l_3).length) c17]⟩], [⟨b6, 32, [.int .i64 p0_0, .int .i64 p0_1, .int .i64 p3, .slice a15 ((l_3).length) c17]⟩], L14]) (fun _ h => h) ?_
    refine WO_end ?_
    cases hm
    exact WK_ret (ret_out (L := L14) (RLc_cell tbok 1 rfl rfl rfl RLc_nil) (seg_sub 3 rfl) ⟨a15, _, c17, rfl, hL14⟩)
  · refine WK_block ?_
    refine WK_loop (S := List Int × Int) (G := Option Addr × Nat × Nat × List Ent) (fun s => census_costs_s1 p0_0 p1 p2 p3 p4 p5 s.1 s.2) (fun s g => [(2, .slice a_p2 p2.length c_p2), (3, .int .i64 p3), (4, .int .i64 p4), (5, p5v), (6, .pointer (some ⟨b4, 0, none⟩)), (12, .pointer (some ⟨b5, 0, none⟩)), (13, .pointer (some ⟨b6, 0, none⟩)), (24, .slice a_p1 p1.length c_p1), (25, .int .i64 (p1.length : Int)), (26, .int .i64 s.2)]) (fun s g => St w0 m m [[⟨b4, 24, [.int .i64 p0_0, .int .i64 p0_1, .int .i64 p0_2, .slice a_p0_3 p0_3.length c_p0_3]⟩], [⟨b5, 32, [.int .i64 0, .int .i64 0, .int .i64 0, .slice none 0 0]⟩], [⟨b6, 32, [.int .i64 p0_0, .int .i64 p0_1, .int .i64 p3, .slice g.1 g.2.1 g.2.2.1]⟩], g.2.2.2]) (fun s g => OwnE 3 1 (I1 .i64) (.slice g.1 g.2.1 g.2.2.1) s.1 g.2.2.2) FUEL (([] : List Int), 0) (none, 0, 0, []) x18 hx19 (OwnE.nil (T := 3) (k := 1) (E := (I1 .i64)) none) ⟨rfl, rfl, rfl, rfl, rfl, rfl, rfl, rfl, rfl, rfl, trivial⟩ (fun _ h => h) ?_
    rintro ⟨l_1, s_2⟩ ⟨a10, q11, c12, L9⟩ o22 fl23 hm21 hL9 hn24 hd25
    have hm21 : census_costs_s1 p0_0 p1 p2 p3 p4 p5 l_1 s_2 = some o22 := hm21
    unfold census_costs_s1 at hm21
    have hqq : q11 = l_1.length := OwnE.qlen hL9
    subst hqq
    refine WK.sub (e' := [(2, .slice a_p2 p2.length c_p2), (3, .int .i64 p3), (4, .int .i64 p4), (5, p5v), (6, .pointer (some ⟨b4, 0, none⟩)), (12, .pointer (some ⟨b5, 0, none⟩)), (13, .pointer (some ⟨b6, 0, none⟩)), (24, .slice a_p1 p1.length c_p1), (25, .int .i64 (p1.length : Int)), (26, .int .i64 s_2)]) ⟨rfl, rfl, rfl, rfl, rfl, rfl, rfl, rfl, rfl, rfl, trivial⟩ (WK.cls (C' := St w0 m m [[⟨b4, 24, [.int .i64 p0_0, .int .i64 p0_1, .int .i64 p0_2, .slice a_p0_3 p0_3.length c_p0_3]⟩], [⟨b5, 32, [.int .i64 0, .int .i64 0, .int .i64 0, .slice none 0 0]⟩], [⟨b6, 32, [.int .i64 p0_0, .int .i64 p0_1, .int .i64 p3, .slice a10 ((l_1).length) c12]⟩], L9]) (fun _ h => h) ?_)
    refine WK_seq ?_
    refine WK_region ?_
    refine WO_pure tbok 1 [(2, .slice a_p2 p2.length c_p2), (3, .int .i64 p3), (4, .int .i64 p4), (5, p5v), (6, .pointer (some ⟨b4, 0, none⟩)), (12, .pointer (some ⟨b5, 0, none⟩)), (13, .pointer (some ⟨b6, 0, none⟩)), (24, .slice a_p1 p1.length c_p1), (25, .int .i64 (p1.length : Int)), (26, .int .i64 s_2), (27, .bool (decide (s_2 < (p1.length : Int))))] rfl ⟨rfl, rfl, rfl, rfl, rfl, rfl, rfl, rfl, rfl, rfl, rfl, trivial⟩ ?_
    refine WO_end ?_
    refine WK_seq ?_
    refine WK_cond (b := decide (s_2 < (p1.length : Int))) rfl (fun hb27 => ?_) (fun hb27 => ?_)
    · have hm21 := ifT hb27 hm21
      refine WK_skip ?_
      refine WK_seq ?_
      refine WK_block ?_
      refine WK_seq ?_
      refine WK_region ?_
      refine WO_pure tbok 1 [(2, .slice a_p2 p2.length c_p2), (3, .int .i64 p3), (4, .int .i64 p4), (5, p5v), (6, .pointer (some ⟨b4, 0, none⟩)), (12, .pointer (some ⟨b5, 0, none⟩)), (13, .pointer (some ⟨b6, 0, none⟩)), (24, .slice a_p1 p1.length c_p1), (25, .int .i64 (p1.length : Int)), (26, .int .i64 s_2), (28, .int .i64 s_2)] rfl ⟨rfl, rfl, rfl, rfl, rfl, rfl, rfl, rfl, rfl, rfl, rfl, trivial⟩ ?_
      obtain ⟨v_4, hy28, hm21⟩ := bind_some hm21
      obtain ⟨hc29, hy28⟩ := ix_some hy28
      refine WO_index tbok rfl rfl rfl rfl rfl rfl rfl rfl (SlR.addr h_p1) hc29 ?_
      refine WO_loadE tbok rfl rfl rfl rfl (fun _ h => St.sat h) h_p1 hy28 rfl ?_
      refine WO_pure tbok 2 [(2, .slice a_p2 p2.length c_p2), (3, .int .i64 p3), (4, .int .i64 p4), (5, p5v), (6, .pointer (some ⟨b4, 0, none⟩)), (12, .pointer (some ⟨b5, 0, none⟩)), (13, .pointer (some ⟨b6, 0, none⟩)), (14, .int .i64 s_2), (15, .int .i64 v_4), (24, .slice a_p1 p1.length c_p1), (25, .int .i64 (p1.length : Int)), (26, .int .i64 s_2)] rfl ⟨rfl, rfl, rfl, rfl, rfl, rfl, rfl, rfl, rfl, rfl, rfl, rfl, trivial⟩ ?_
      refine WO_end ?_
      refine WK_seq ?_
      refine WK_region ?_
      refine WO_pure tbok 2 [(2, .slice a_p2 p2.length c_p2), (3, .int .i64 p3), (4, .int .i64 p4), (5, p5v), (6, .pointer (some ⟨b4, 0, none⟩)), (12, .pointer (some ⟨b5, 0, none⟩)), (13, .pointer (some ⟨b6, 0, none⟩)), (14, .int .i64 s_2), (15, .int .i64 v_4), (24, .slice a_p1 p1.length c_p1), (25, .int .i64 (p1.length : Int)), (26, .int .i64 s_2), (31, .int .i64 p3), (32, .int .i64 0)] rfl ⟨rfl, rfl, rfl, rfl, rfl, rfl, rfl, rfl, rfl, rfl, rfl, rfl, rfl, rfl, trivial⟩ ?_
      refine WO_end ?_
      obtain ⟨x40, hx41, hm21⟩ := bind_some hm21
      refine WK_join (β := (List Int) × (Option Addr × Nat × Nat × List Ent)) (fun p => p.1 = x40 ∧ OwnE 3 1 (I1 .i64) (.slice p.2.1 p.2.2.1 p.2.2.2.1) p.1 p.2.2.2.2) (fun p => [(2, .slice a_p2 p2.length c_p2), (3, .int .i64 p3), (4, .int .i64 p4), (5, p5v), (6, .pointer (some ⟨b4, 0, none⟩)), (12, .pointer (some ⟨b5, 0, none⟩)), (13, .pointer (some ⟨b6, 0, none⟩)), (24, .slice a_p1 p1.length c_p1), (25, .int .i64 (p1.length : Int)), (26, .int .i64 s_2)]) (fun p => St w0 m m [[⟨b4, 24, [.int .i64 p0_0, .int .i64 p0_1, .int .i64 p0_2, .slice a_p0_3 p0_3.length c_p0_3]⟩], [⟨b5, 32, [.int .i64 0, .int .i64 0, .int .i64 0, .slice none 0 0]⟩], [⟨b6, 32, [.int .i64 p0_0, .int .i64 p0_1, .int .i64 p3, .slice p.2.1 p.2.2.1 p.2.2.2.1]⟩], p.2.2.2.2]) ?_ (fun hk42 => ?_)
      · rintro ⟨l_7, ⟨a37, q38, c39, L36⟩⟩ ⟨hq48, hL36⟩
        subst hq48
        have hqq : q38 = l_7.length := OwnE.qlen hL36
        subst hqq
        refine WK.sub (e' := [(2, .slice a_p2 p2.length c_p2), (3, .int .i64 p3), (4, .int .i64 p4), (5, p5v), (6, .pointer (some ⟨b4, 0, none⟩)), (12, .pointer (some ⟨b5, 0, none⟩)), (13, .pointer (some ⟨b6, 0, none⟩)), (24, .slice a_p1 p1.length c_p1), (25, .int .i64 (p1.length : Int)), (26, .int .i64 s_2)]) ⟨rfl, rfl, rfl, rfl, rfl, rfl, rfl, rfl, rfl, rfl, trivial⟩ (WK.cls (C' := St w0 m m [[⟨b4, 24, [.int .i64 p0_0, .int .i64 p0_1, .int .i64 p0_2, .slice a_p0_3 p0_3.length c_p0_3]⟩], [⟨b5, 32, [.int .i64 0, .int .i64 0, .int .i64 0, .slice none 0 0]⟩], [⟨b6, 32, [.int .i64 p0_0, .int .i64 p0_1, .int .i64 p3, .slice a37 ((l_7).length) c39]⟩], L36]) (fun _ h => h) ?_)
        refine WK_blk ?_
        refine WK_region ?_
        refine WO_pure tbok 2 [(2, .slice a_p2 p2.length c_p2), (3, .int .i64 p3), (4, .int .i64 p4), (5, p5v), (6, .pointer (some ⟨b4, 0, none⟩)), (12, .pointer (some ⟨b5, 0, none⟩)), (13, .pointer (some ⟨b6, 0, none⟩)), (24, .slice a_p1 p1.length c_p1), (25, .int .i64 (p1.length : Int)), (26, .int .i64 (w64 (s_2 + 1)))] rfl ⟨rfl, rfl, rfl, rfl, rfl, rfl, rfl, rfl, rfl, rfl, trivial⟩ ?_
        refine WO_end ?_
        cases hm21
        refine WK.sub ?_ (WK.cls (fun _ h => h) (hn24 _ (a37, _, c39, L36) rfl hL36))
        exact ⟨rfl, rfl, rfl, rfl, rfl, rfl, rfl, rfl, rfl, rfl, trivial⟩
      · refine WK_block ?_
        refine WK_loop (S := List Int × Int) (G := Option Addr × Nat × Nat × List Ent) (fun s => census_costs_s2 p0_0 p2 p3 p4 p5 s_2 v_4 s.1 s.2) (fun s g => [(2, .slice a_p2 p2.length c_p2), (3, .int .i64 p3), (4, .int .i64 p4), (5, p5v), (6, .pointer (some ⟨b4, 0, none⟩)), (12, .pointer (some ⟨b5, 0, none⟩)), (13, .pointer (some ⟨b6, 0, none⟩)), (14, .int .i64 s_2), (15, .int .i64 v_4), (24, .slice a_p1 p1.length c_p1), (25, .int .i64 (p1.length : Int)), (26, .int .i64 s_2), (31, .int .i64 p3), (32, .int .i64 s.2)]) (fun s g => St w0 m m [[⟨b4, 24, [.int .i64 p0_0, .int .i64 p0_1, .int .i64 p0_2, .slice a_p0_3 p0_3.length c_p0_3]⟩], [⟨b5, 32, [.int .i64 0, .int .i64 0, .int .i64 0, .slice none 0 0]⟩], [⟨b6, 32, [.int .i64 p0_0, .int .i64 p0_1, .int .i64 p3, .slice g.1 g.2.1 g.2.2.1]⟩], g.2.2.2]) (fun s g => OwnE 3 1 (I1 .i64) (.slice g.1 g.2.1 g.2.2.1) s.1 g.2.2.2) FUEL (l_1, 0) (a10, _, c12, L9) x40 hx41 hL9 ⟨rfl, rfl, rfl, rfl, rfl, rfl, rfl, rfl, rfl, rfl, rfl, rfl, rfl, rfl, trivial⟩ (fun _ h => h) ?_
        rintro ⟨l_5, s_6⟩ ⟨a32, q33, c34, L31⟩ o44 fl45 hm43 hL31 hn46 hd47
        have hm43 : census_costs_s2 p0_0 p2 p3 p4 p5 s_2 v_4 l_5 s_6 = some o44 := hm43
        unfold census_costs_s2 at hm43
        have hqq : q33 = l_5.length := OwnE.qlen hL31
        subst hqq
        refine WK.sub (e' := [(2, .slice a_p2 p2.length c_p2), (3, .int .i64 p3), (4, .int .i64 p4), (5, p5v), (6, .pointer (some ⟨b4, 0, none⟩)), (12, .pointer (some ⟨b5, 0, none⟩)), (13, .pointer (some ⟨b6, 0, none⟩)), (14, .int .i64 s_2), (15, .int .i64 v_4), (24, .slice a_p1 p1.length c_p1), (25, .int .i64 (p1.length : Int)), (26, .int .i64 s_2), (31, .int .i64 p3), (32, .int .i64 s_6)]) ⟨rfl, rfl, rfl, rfl, rfl, rfl, rfl, rfl, rfl, rfl, rfl, rfl, rfl, rfl, trivial⟩ (WK.cls (C' := St w0 m m [[⟨b4, 24, [.int .i64 p0_0, .int .i64 p0_1, .int .i64 p0_2, .slice a_p0_3 p0_3.length c_p0_3]⟩], [⟨b5, 32, [.int .i64 0, .int .i64 0, .int .i64 0, .slice none 0 0]⟩], [⟨b6, 32, [.int .i64 p0_0, .int .i64 p0_1, .int .i64 p3, .slice a32 ((l_5).length) c34]⟩], L31]) (fun _ h => h) ?_)
        refine WK_seq ?_
        refine WK_region ?_
        refine WO_pure tbok 1 [(2, .slice a_p2 p2.length c_p2), (3, .int .i64 p3), (4, .int .i64 p4), (5, p5v), (6, .pointer (some ⟨b4, 0, none⟩)), (12, .pointer (some ⟨b5, 0, none⟩)), (13, .pointer (some ⟨b6, 0, none⟩)), (14, .int .i64 s_2), (15, .int .i64 v_4), (24, .slice a_p1 p1.length c_p1), (25, .int .i64 (p1.length : Int)), (26, .int .i64 s_2), (31, .int .i64 p3), (32, .int .i64 s_6), (33, .bool (decide (s_6 < p3)))] rfl ⟨rfl, rfl, rfl, rfl, rfl, rfl, rfl, rfl, rfl, rfl, rfl, rfl, rfl, rfl, rfl, trivial⟩ ?_
        refine WO_end ?_
        refine WK_seq ?_
        refine WK_cond (b := decide (s_6 < p3)) rfl (fun hb49 => ?_) (fun hb49 => ?_)
        · have hm43 := ifT hb49 hm43
          refine WK_skip ?_
          refine WK_seq ?_
          refine WK_block ?_
          refine WK_seq ?_
          refine WK_region ?_
          refine WO_pure tbok 2 [(2, .slice a_p2 p2.length c_p2), (3, .int .i64 p3), (4, .int .i64 p4), (5, p5v), (6, .pointer (some ⟨b4, 0, none⟩)), (12, .pointer (some ⟨b5, 0, none⟩)), (13, .pointer (some ⟨b6, 0, none⟩)), (14, .int .i64 s_2), (15, .int .i64 v_4), (16, .int .i64 s_6), (24, .slice a_p1 p1.length c_p1), (25, .int .i64 (p1.length : Int)), (26, .int .i64 s_2), (31, .int .i64 p3), (32, .int .i64 s_6)] rfl ⟨rfl, rfl, rfl, rfl, rfl, rfl, rfl, rfl, rfl, rfl, rfl, rfl, rfl, rfl, rfl, trivial⟩ ?_
          refine WO_end ?_
          refine WK_seq ?_
          refine WK_region ?_
          refine WO_pure tbok 2 [(2, .slice a_p2 p2.length c_p2), (3, .int .i64 p3), (4, .int .i64 p4), (5, p5v), (6, .pointer (some ⟨b4, 0, none⟩)), (12, .pointer (some ⟨b5, 0, none⟩)), (13, .pointer (some ⟨b6, 0, none⟩)), (14, .int .i64 s_2), (15, .int .i64 v_4), (16, .int .i64 s_6), (17, .int .i64 p4), (24, .slice a_p1 p1.length c_p1), (25, .int .i64 (p1.length : Int)), (26, .int .i64 s_2), (31, .int .i64 p3), (32, .int .i64 s_6)] rfl ⟨rfl, rfl, rfl, rfl, rfl, rfl, rfl, rfl, rfl, rfl, rfl, rfl, rfl, rfl, rfl, rfl, trivial⟩ ?_
          refine WO_end ?_
          refine WK_seq ?_
          refine WK_seq ?_
          refine WK_region ?_
          refine WO_pure tbok 2 [(2, .slice a_p2 p2.length c_p2), (3, .int .i64 p3), (4, .int .i64 p4), (5, p5v), (6, .pointer (some ⟨b4, 0, none⟩)), (12, .pointer (some ⟨b5, 0, none⟩)), (13, .pointer (some ⟨b6, 0, none⟩)), (14, .int .i64 s_2), (15, .int .i64 v_4), (16, .int .i64 s_6), (17, .int .i64 p4), (24, .slice a_p1 p1.length c_p1), (25, .int .i64 (p1.length : Int)), (26, .int .i64 s_2), (31, .int .i64 p3), (32, .int .i64 s_6), (36, .int .i64 s_2), (37, .pointer (some ⟨b4, 0, none⟩))] rfl ⟨rfl, rfl, rfl, rfl, rfl, rfl, rfl, rfl, rfl, rfl, rfl, rfl, rfl, rfl, rfl, rfl, rfl, rfl, trivial⟩ ?_
          refine WO_loadB tbok 0 rfl rfl rfl rfl (fun _ h => h) rfl rfl ?_
          obtain ⟨hc50, hm43⟩ := chk_some hm43
          refine WO_rem rfl rfl rfl rfl rfl hc50 ?_
          refine WO_pure tbok 2 [(2, .slice a_p2 p2.length c_p2), (3, .int .i64 p3), (4, .int .i64 p4), (5, p5v), (6, .pointer (some ⟨b4, 0, none⟩)), (12, .pointer (some ⟨b5, 0, none⟩)), (13, .pointer (some ⟨b6, 0, none⟩)), (14, .int .i64 s_2), (15, .int .i64 v_4), (16, .int .i64 s_6), (17, .int .i64 p4), (24, .slice a_p1 p1.length c_p1), (25, .int .i64 (p1.length : Int)), (26, .int .i64 s_2), (31, .int .i64 p3), (32, .int .i64 s_6), (41, .bool (decide (s_6 ≤ (Int.tmod s_2 p0_0))))] rfl ⟨rfl, rfl, rfl, rfl, rfl, rfl, rfl, rfl, rfl, rfl, rfl, rfl, rfl, rfl, rfl, rfl, rfl, trivial⟩ ?_
          refine WO_end ?_
          obtain ⟨s_8, hx51, hm43⟩ := bind_some hm43
          refine WK_meet [(2, .slice a_p2 p2.length c_p2), (3, .int .i64 p3), (4, .int .i64 p4), (5, p5v), (6, .pointer (some ⟨b4, 0, none⟩)), (12, .pointer (some ⟨b5, 0, none⟩)), (13, .pointer (some ⟨b6, 0, none⟩)), (14, .int .i64 s_2), (15, .int .i64 v_4), (17, .int .i64 s_8), (24, .slice a_p1 p1.length c_p1), (25, .int .i64 (p1.length : Int)), (26, .int .i64 s_2), (31, .int .i64 p3), (32, .int .i64 s_6)] (St w0 m m [[⟨b4, 24, [.int .i64 p0_0, .int .i64 p0_1, .int .i64 p0_2, .slice a_p0_3 p0_3.length c_p0_3]⟩], [⟨b5, 32, [.int .i64 0, .int .i64 0, .int .i64 0, .slice none 0 0]⟩], [⟨b6, 32, [.int .i64 p0_0, .int .i64 p0_1, .int .i64 p3, .slice a32 ((l_5).length) c34]⟩], L31]) ?_ (fun hk52 => ?_)
          · refine WK_region ?_
            refine WO_pure tbok 1 [(2, .slice a_p2 p2.length c_p2), (3, .int .i64 p3), (4, .int .i64 p4), (5, p5v), (6, .pointer (some ⟨b4, 0, none⟩)), (12, .pointer (some ⟨b5, 0, none⟩)), (13, .pointer (some ⟨b6, 0, none⟩)), (14, .int .i64 s_2), (15, .int .i64 v_4), (17, .int .i64 s_8), (24, .slice a_p1 p1.length c_p1), (25, .int .i64 (p1.length : Int)), (26, .int .i64 s_2), (31, .int .i64 p3), (32, .int .i64 s_6), (51, .pointer (some ⟨b6, 3, none⟩))] rfl ⟨rfl, rfl, rfl, rfl, rfl, rfl, rfl, rfl, rfl, rfl, rfl, rfl, rfl, rfl, rfl, rfl, trivial⟩ ?_
            refine WO_loadB tbok 2 rfl rfl rfl rfl (fun _ h => h) rfl rfl ?_
            refine WO_pure tbok 1 [(2, .slice a_p2 p2.length c_p2), (3, .int .i64 p3), (4, .int .i64 p4), (5, p5v), (6, .pointer (some ⟨b4, 0, none⟩)), (12, .pointer (some ⟨b5, 0, none⟩)), (13, .pointer (some ⟨b6, 0, none⟩)), (14, .int .i64 s_2), (15, .int .i64 v_4), (24, .slice a_p1 p1.length c_p1), (25, .int .i64 (p1.length : Int)), (26, .int .i64 s_2), (31, .int .i64 p3), (32, .int .i64 s_6), (52, .slice a32 ((l_5).length) c34), (53, .int .i64 s_8)] rfl ⟨rfl, rfl, rfl, rfl, rfl, rfl, rfl, rfl, rfl, rfl, rfl, rfl, rfl, rfl, rfl, rfl, trivial⟩ ?_
            refine WO_bslice (E := (I1 .i64)) tbok (fun _ => rfl) (by decide) [.int .i64 s_8] ([s_8] : List Int) rfl rfl trivial rfl rfl rfl rfl rfl rfl rfl rfl rfl rfl rfl rfl (fun b53 hb53 => ?_)
            refine WO.cls (C' := St w0 m m [[⟨b4, 24, [.int .i64 p0_0, .int .i64 p0_1, .int .i64 p0_2, .slice a_p0_3 p0_3.length c_p0_3]⟩], [⟨b5, 32, [.int .i64 0, .int .i64 0, .int .i64 0, .slice none 0 0]⟩], [⟨b6, 32, [.int .i64 p0_0, .int .i64 p0_1, .int .i64 p3, .slice a32 ((l_5).length) c34]⟩], L31, [⟨b53, 3, ([s_8] : List Int).flatMap (I1 .i64)⟩]]) (fun _ h => h) ?_
            obtain ⟨hc55, hm43⟩ := chk_some hm43
            refine WO_append (E := (I1 .i64)) tbok (fun _ => rfl) 3 ([s_8] : List Int) (fun _ _ => rfl) rfl rfl rfl rfl rfl rfl rfl rfl rfl rfl rfl rfl hL31 rfl (src_seg (j := 4) rfl) (ap_ok (by decide) hc55) (ap_max hc55) (fun a56 c57 L58 hL58 => ?_)
            refine WO.cls (C' := St w0 m m [[⟨b4, 24, [.int .i64 p0_0, .int .i64 p0_1, .int .i64 p0_2, .slice a_p0_3 p0_3.length c_p0_3]⟩], [⟨b5, 32, [.int .i64 0, .int .i64 0, .int .i64 0, .slice none 0 0]⟩], [⟨b6, 32, [.int .i64 p0_0, .int .i64 p0_1, .int .i64 p3, .slice a32 ((l_5).length) c34]⟩], L58, [⟨b53, 3, ([s_8] : List Int).flatMap (I1 .i64)⟩]]) (fun _ h => h) ?_
            refine WO_pure tbok 1 [(2, .slice a_p2 p2.length c_p2), (3, .int .i64 p3), (4, .int .i64 p4), (5, p5v), (6, .pointer (some ⟨b4, 0, none⟩)), (12, .pointer (some ⟨b5, 0, none⟩)), (13, .pointer (some ⟨b6, 0, none⟩)), (14, .int .i64 s_2), (15, .int .i64 v_4), (24, .slice a_p1 p1.length c_p1), (25, .int .i64 (p1.length : Int)), (26, .int .i64 s_2), (31, .int .i64 p3), (32, .int .i64 s_6), (55, .slice a56 ((l_5 ++ ([s_8] : List Int)).length) c57), (56, .pointer (some ⟨b6, 3, none⟩))] rfl ⟨rfl, rfl, rfl, rfl, rfl, rfl, rfl, rfl, rfl, rfl, rfl, rfl, rfl, rfl, rfl, rfl, trivial⟩ ?_
            refine WO_storeB tbok 2 [.int .i64 p0_0, .int .i64 p0_1, .int .i64 p3, .slice a56 ((l_5 ++ ([s_8] : List Int)).length) c57] rfl rfl rfl rfl rfl rfl rfl ?_
            refine WO.cls (C' := St w0 m m [[⟨b4, 24, [.int .i64 p0_0, .int .i64 p0_1, .int .i64 p0_2, .slice a_p0_3 p0_3.length c_p0_3]⟩], [⟨b5, 32, [.int .i64 0, .int .i64 0, .int .i64 0, .slice none 0 0]⟩], [⟨b6, 32, [.int .i64 p0_0, .int .i64 p0_1, .int .i64 p3, .slice a56 ((l_5 ++ ([s_8] : List Int)).length) c57]⟩], L58, [⟨b53, 3, ([s_8] : List Int).flatMap (I1 .i64)⟩]]) (fun _ h => h) ?_
            refine WO_end ?_
            refine WK_blk ?_
            refine WK_region ?_
            refine WO_pure tbok 2 [(2, .slice a_p2 p2.length c_p2), (3, .int .i64 p3), (4, .int .i64 p4), (5, p5v), (6, .pointer (some ⟨b4, 0, none⟩)), (12, .pointer (some ⟨b5, 0, none⟩)), (13, .pointer (some ⟨b6, 0, none⟩)), (14, .int .i64 s_2), (15, .int .i64 v_4), (24, .slice a_p1 p1.length c_p1), (25, .int .i64 (p1.length : Int)), (26, .int .i64 s_2), (31, .int .i64 p3), (32, .int .i64 (w64 (s_6 + 1)))] rfl ⟨rfl, rfl, rfl, rfl, rfl, rfl, rfl, rfl, rfl, rfl, rfl, rfl, rfl, rfl, trivial⟩ ?_
            refine WO_end ?_
            cases hm43
            refine WK.sub ?_ (WK.cls (fun _ h => St.take 4 h) (hn46 _ (a56, (l_5 ++ ([s_8] : List Int)).length, c57, L58) rfl hL58))
            exact ⟨rfl, rfl, rfl, rfl, rfl, rfl, rfl, rfl, rfl, rfl, rfl, rfl, rfl, rfl, trivial⟩
          · refine WK_cond (b := decide (s_6 ≤ (Int.tmod s_2 p0_0))) rfl (fun hb60 => ?_) (fun hb60 => ?_)
            · have hx51 := ifT hb60 hx51
              refine WK_region ?_
              refine WO_pure tbok 6 [(2, .slice a_p2 p2.length c_p2), (3, .int .i64 p3), (4, .int .i64 p4), (5, p5v), (6, .pointer (some ⟨b4, 0, none⟩)), (12, .pointer (some ⟨b5, 0, none⟩)), (13, .pointer (some ⟨b6, 0, none⟩)), (14, .int .i64 s_2), (15, .int .i64 v_4), (17, .int .i64 p4), (24, .slice a_p1 p1.length c_p1), (25, .int .i64 (p1.length : Int)), (26, .int .i64 s_2), (31, .int .i64 p3), (32, .int .i64 s_6), (42, p5v), (43, .int .i64 v_4), (44, .slice a_p2 p2.length c_p2), (47, .int .i64 (w64 (s_2 - s_6)))] rfl ⟨rfl, rfl, rfl, rfl, rfl, rfl, rfl, rfl, rfl, rfl, rfl, rfl, rfl, rfl, rfl, rfl, rfl, rfl, rfl, trivial⟩ ?_
              obtain ⟨v_9, hy61, hx51⟩ := bind_some hx51
              obtain ⟨hc62, hy61⟩ := ix_some hy61
              refine WO_index tbok rfl rfl rfl rfl rfl rfl rfl rfl (SlR.addr h_p2) hc62 ?_
              refine WO_loadE tbok rfl rfl rfl rfl (fun _ h => St.sat h) h_p2 hy61 rfl ?_
              obtain ⟨y_10, hc63, hx51⟩ := bind_some hx51
              obtain ⟨f0, first0, cap0, hf0, hcal0, hsp0⟩ := hp5 _ (Le.refl _) v_4 v_9 _ hc63
              refine WO_call0 (.int .i64 y_10) rfl rfl trivial rfl rfl rfl rfl St_closed ⟨f0, first0, cap0, hf0, hcal0, fun w hw => ⟨m, hw.sat, hsp0⟩⟩ ?_
              refine WO_pure tbok 1 [(2, .slice a_p2 p2.length c_p2), (3, .int .i64 p3), (4, .int .i64 p4), (5, p5v), (6, .pointer (some ⟨b4, 0, none⟩)), (12, .pointer (some ⟨b5, 0, none⟩)), (13, .pointer (some ⟨b6, 0, none⟩)), (14, .int .i64 s_2), (15, .int .i64 v_4), (17, .int .i64 y_10), (24, .slice a_p1 p1.length c_p1), (25, .int .i64 (p1.length : Int)), (26, .int .i64 s_2), (31, .int .i64 p3), (32, .int .i64 s_6)] rfl ⟨rfl, rfl, rfl, rfl, rfl, rfl, rfl, rfl, rfl, rfl, rfl, rfl, rfl, rfl, rfl, trivial⟩ ?_
              refine WO_end ?_
              cases hx51
              refine WK.sub ?_ (WK.cls (fun _ h => h) hk52)
              exact ⟨rfl, rfl, rfl, rfl, rfl, rfl, rfl, rfl, rfl, rfl, rfl, rfl, rfl, rfl, rfl, trivial⟩
            · have hx51 := ifF hb60 hx51
              refine WK_skip ?_
              cases hx51
              refine WK.sub ?_ (WK.cls (fun _ h => h) hk52)
              exact ⟨rfl, rfl, rfl, rfl, rfl, rfl, rfl, rfl, rfl, rfl, rfl, rfl, rfl, rfl, rfl, trivial⟩
        · have hm43 := ifF hb49 hm43
          refine WK_exit rfl ?_
          cases hm43
          refine WK.sub ?_ (WK.cls (fun _ h => h) (hk42 (l_5, (a32, _, c34, L31)) ⟨(hd47 _ rfl), hL31⟩))
          exact ⟨rfl, rfl, rfl, rfl, rfl, rfl, rfl, rfl, rfl, rfl, trivial⟩
    · have hm21 := ifF hb27 hm21
      refine WK_exit rfl ?_
      cases hm21
      refine WK.sub ?_ (WK.cls (fun _ h => h) (hk20 (l_1, (a10, _, c12, L9)) ⟨(hd25 _ rfl), hL9⟩))
      exact ⟨rfl, rfl, trivial⟩
theorem census_Plain_c1_walk {m : Mu} {p0 : Int} {p1 : Int}   {r : Int} (hm : census_Plain_c1 p0 p1 = some r) :
    Go.E.Spec Try.prog 29 [.int .i64 p0, .int .i64 p1] m (fun v _ _ => v = .int .i64 r) := by
  refine Spec_enter Try.func29 rfl rfl rfl (fun w0 => ?_)
  refine WK.sub (e' := [(0, .int .i64 p0), (1, .int .i64 p1)]) ⟨rfl, rfl, trivial⟩ ?_
  refine WK.sub (e' := [(0, .int .i64 p0), (1, .int .i64 p1)]) ⟨rfl, rfl, trivial⟩ ?_
  unfold census_Plain_c1 at hm
  refine WK_seq ?_
  refine WK_region ?_
  refine WO_pure tbok 1 [(0, .int .i64 p0), (1, .int .i64 p1), (4, .int .i64 0)] rfl ⟨rfl, rfl, rfl, trivial⟩ ?_
  refine WO_end ?_
  refine WK_seq ?_
  refine WK_region ?_
  refine WO_pure tbok 8 [(4, .int .i64 (if (w64 (p0 - p1)) < (w64 (p1 - p0)) then (w64 (p1 - p0)) else (w64 (p0 - p1))))] rfl ⟨rfl, trivial⟩ ?_
  refine WO_end ?_
  cases hm
  exact WK_ret (ret_out (L := []) (RLc_tmp rfl RLc_nil) (List.nil_sublist _) rfl)
def census_Plain_Q (r : Int × Int × Int × List Int × Int) : Value → List Ent → Prop := fun v L => ∃ (a0 : Option Addr) (q0 c0 : Nat), v = .tuple #[.agg #[.int .i64 r.1, .int .i64 r.2.1, .int .i64 r.2.2.1, .slice a0 q0 c0], .int .i64 r.2.2.2.2] ∧ OwnE 3 1 (I1 .i64) (.slice a0 q0 c0) r.2.2.2.1 L
theorem census_Plain_walk {m : Mu} {p0_0 : Int} {p0_1 : Int} {p0_2 : Int} {p0_3 : List Int} {p1_0 : Int} {p1_1 : Int} {p1_2 : Int} {p1_3 : List Int} {p2 : Int} {a_p0_3 : Option Addr} {q_p0_3 c_p0_3 : Nat} {a_p1_3 : Option Addr} {q_p1_3 c_p1_3 : Nat} (h_p0_3 : SlR (FE (I1 .i64)) 1 m (.slice a_p0_3 q_p0_3 c_p0_3) p0_3) (h_p1_3 : SlR (FE (I1 .i64)) 1 m (.slice a_p1_3 q_p1_3 c_p1_3) p1_3) {r : Int × Int × Int × List Int × Int} (hm : census_Plain p0_0 p0_1 p0_2 p0_3 p1_0 p1_1 p1_2 p1_3 p2 = some r) :
    Go.E.Spec Try.prog 9 [.agg #[.int .i64 p0_0, .int .i64 p0_1, .int .i64 p0_2, .slice a_p0_3 q_p0_3 c_p0_3], .agg #[.int .i64 p1_0, .int .i64 p1_1, .int .i64 p1_2, .slice a_p1_3 q_p1_3 c_p1_3], .int .i64 p2] m (fun v _ L => census_Plain_Q r v L) := by
  refine Spec_enter Try.func9 rfl rfl rfl (fun w0 => ?_)
  refine WK.sub (e' := [(0, .agg #[.int .i64 p0_0, .int .i64 p0_1, .int .i64 p0_2, .slice a_p0_3 q_p0_3 c_p0_3]), (1, .agg #[.int .i64 p1_0, .int .i64 p1_1, .int .i64 p1_2, .slice a_p1_3 q_p1_3 c_p1_3]), (2, .int .i64 p2)]) ⟨rfl, rfl, rfl, trivial⟩ ?_
  obtain rfl := SlR.qlen h_p0_3
  obtain rfl := SlR.qlen h_p1_3
  refine WK.sub (e' := [(0, .agg #[.int .i64 p0_0, .int .i64 p0_1, .int .i64 p0_2, .slice a_p0_3 p0_3.length c_p0_3]), (1, .agg #[.int .i64 p1_0, .int .i64 p1_1, .int .i64 p1_2, .slice a_p1_3 p1_3.length c_p1_3]), (2, .int .i64 p2)]) ⟨rfl, rfl, rfl, trivial⟩ ?_
  unfold census_Plain at hm
  refine WK_seq ?_
  refine WK_region ?_
  refine WO_box [.int .i64 p0_0, .int .i64 p0_1, .int .i64 p0_2, .slice a_p0_3 p0_3.length c_p0_3] rfl rfl trivial rfl rfl rfl (fun b3 => ?_)
  refine WO.cls (C' := St w0 m m [[⟨b3, 24, [.int .i64 p0_0, .int .i64 p0_1, .int .i64 p0_2, .slice a_p0_3 p0_3.length c_p0_3]⟩]]) (fun _ h => h) ?_
  refine WO_box [.int .i64 p1_0, .int .i64 p1_1, .int .i64 p1_2, .slice a_p1_3 p1_3.length c_p1_3] rfl rfl trivial rfl rfl rfl (fun b4 => ?_)
  refine WO.cls (C' := St w0 m m [[⟨b3, 24, [.int .i64 p0_0, .int .i64 p0_1, .int .i64 p0_2, .slice a_p0_3 p0_3.length c_p0_3]⟩], [⟨b4, 24, [.int .i64 p1_0, .int .i64 p1_1, .int .i64 p1_2, .slice a_p1_3 p1_3.length c_p1_3]⟩]]) (fun _ h => h) ?_
  refine WO_alloc tbok [.int .i64 0, .int .i64 0, .int .i64 0, .slice none 0 0] rfl rfl trivial rfl rfl rfl rfl (fun b5 => ?_)
  refine WO.cls (C' := St w0 m m [[⟨b3, 24, [.int .i64 p0_0, .int .i64 p0_1, .int .i64 p0_2, .slice a_p0_3 p0_3.length c_p0_3]⟩], [⟨b4, 24, [.int .i64 p1_0, .int .i64 p1_1, .int .i64 p1_2, .slice a_p1_3 p1_3.length c_p1_3]⟩], [⟨b5, 32, [.int .i64 0, .int .i64 0, .int .i64 0, .slice none 0 0]⟩]]) (fun _ h => h) ?_
  refine WO_pure tbok 1 [(2, .int .i64 p2), (3, .pointer (some ⟨b3, 0, none⟩)), (4, .pointer (some ⟨b4, 0, none⟩)), (6, .pointer (some ⟨b5, 0, none⟩)), (7, .int .i64 0)] rfl ⟨rfl, rfl, rfl, rfl, rfl, trivial⟩ ?_
  refine WO_end ?_
  refine WK_seq ?_
  refine WK_seq ?_
  refine WK_region ?_
  refine WO_loadB tbok 0 rfl rfl rfl rfl (fun _ h => h) rfl rfl ?_
  refine WO_loadB tbok 1 rfl rfl rfl rfl (fun _ h => h) rfl rfl ?_
  obtain ⟨y_1, hc6, hm⟩ := bind_some hm
  refine WO_call0 (.int .i64 y_1) rfl rfl trivial rfl rfl rfl rfl St_closed ⟨27, #[], #[], rfl, callable_27, fun w hw => ⟨_, hw.sat, census_both_walk h_p0_3 h_p1_3 hc6⟩⟩ ?_
  refine WO_pure tbok 1 [(2, .int .i64 p2), (3, .pointer (some ⟨b3, 0, none⟩)), (4, .pointer (some ⟨b4, 0, none⟩)), (6, .pointer (some ⟨b5, 0, none⟩)), (7, .int .i64 0), (8, .int .i64 y_1)] rfl ⟨rfl, rfl, rfl, rfl, rfl, rfl, trivial⟩ ?_
  refine WO_end ?_
  refine WK_seq ?_
  refine WK_region ?_
  refine WO_pure tbok 2 [(2, .int .i64 p2), (3, .pointer (some ⟨b3, 0, none⟩)), (4, .pointer (some ⟨b4, 0, none⟩)), (6, .pointer (some ⟨b5, 0, none⟩)), (7, .int .i64 0), (8, .int .i64 y_1), (13, .bool (y_1 != 0))] rfl ⟨rfl, rfl, rfl, rfl, rfl, rfl, rfl, trivial⟩ ?_
  refine WO_end ?_
  refine WK_cond (b := y_1 != 0) rfl (fun hb7 => ?_) (fun hb7 => ?_)
  · have hm := ifT hb7 hm
    refine WK_seq ?_
    refine WK_region ?_
    refine WO_pure tbok 2 [(2, .int .i64 p2), (3, .pointer (some ⟨b3, 0, none⟩)), (4, .pointer (some ⟨b4, 0, none⟩)), (6, .pointer (some ⟨b5, 0, none⟩)), (7, .int .i64 0), (14, .agg #[.int .i64 0, .int .i64 0, .int .i64 0, .slice none 0 0]), (15, .int .i64 y_1)] rfl ⟨rfl, rfl, rfl, rfl, rfl, rfl, rfl, trivial⟩ ?_
    refine WO_storeB tbok 2 [.int .i64 0, .int .i64 0, .int .i64 0, .slice none 0 0] rfl rfl rfl rfl rfl rfl rfl ?_
    refine WO.cls (C' := St w0 m m [[⟨b3, 24, [.int .i64 p0_0, .int .i64 p0_1, .int .i64 p0_2, .slice a_p0_3 p0_3.length c_p0_3]⟩], [⟨b4, 24, [.int .i64 p1_0, .int .i64 p1_1, .int .i64 p1_2, .slice a_p1_3 p1_3.length c_p1_3]⟩], [⟨b5, 32, [.int .i64 0, .int .i64 0, .int .i64 0, .slice none 0 0]⟩]]) (fun _ h => h) ?_
    refine WO_pure tbok 1 [(2, .int .i64 p2), (3, .pointer (some ⟨b3, 0, none⟩)), (4, .pointer (some ⟨b4, 0, none⟩)), (6, .pointer (some ⟨b5, 0, none⟩)), (7, .int .i64 y_1)] rfl ⟨rfl, rfl, rfl, rfl, rfl, trivial⟩ ?_
    refine WO_end ?_
    cases hm
    exact WK_ret (ret_out (L := []) (RLc_cell tbok 2 rfl rfl rfl (RLc_tmp rfl RLc_nil)) (List.nil_sublist _) ⟨none, 0, 0, rfl, (OwnE.nil none)⟩)
  · have hm := ifF hb7 hm
    refine WK_skip ?_
    refine WK_seq ?_
    refine WK_seq ?_
    obtain ⟨s_2, hx8, hm⟩ := bind_some hm
    refine WK_meet [(2, .int .i64 p2), (3, .pointer (some ⟨b3, 0, none⟩)), (4, .pointer (some ⟨b4, 0, none⟩)), (6, .pointer (some ⟨b5, 0, none⟩)), (7, .int .i64 0), (21, .bool s_2)] (St w0 m m [[⟨b3, 24, [.int .i64 p0_0, .int .i64 p0_1, .int .i64 p0_2, .slice a_p0_3 p0_3.length c_p0_3]⟩], [⟨b4, 24, [.int .i64 p1_0, .int .i64 p1_1, .int .i64 p1_2, .slice a_p1_3 p1_3.length c_p1_3]⟩], [⟨b5, 32, [.int .i64 0, .int .i64 0, .int .i64 0, .slice none 0 0]⟩]]) ?_ (fun hk9 => ?_)
    · refine WK_cond (b := s_2) rfl (fun hb10 => ?_) (fun hb10 => ?_)
      · have hm := ifT hb10 hm
        refine WK_seq ?_
        refine WK_region ?_
        refine WO_pure tbok 1 [(2, .int .i64 p2), (3, .pointer (some ⟨b3, 0, none⟩)), (4, .pointer (some ⟨b4, 0, none⟩)), (6, .pointer (some ⟨b5, 0, none⟩)), (7, .int .i64 0), (22, .agg #[.int .i64 0, .int .i64 0, .int .i64 0, .slice none 0 0])] rfl ⟨rfl, rfl, rfl, rfl, rfl, rfl, trivial⟩ ?_
        refine WO_storeB tbok 2 [.int .i64 0, .int .i64 0, .int .i64 0, .slice none 0 0] rfl rfl rfl rfl rfl rfl rfl ?_
        refine WO.cls (C' := St w0 m m [[⟨b3, 24, [.int .i64 p0_0, .int .i64 p0_1, .int .i64 p0_2, .slice a_p0_3 p0_3.length c_p0_3]⟩], [⟨b4, 24, [.int .i64 p1_0, .int .i64 p1_1, .int .i64 p1_2, .slice a_p1_3 p1_3.length c_p1_3]⟩], [⟨b5, 32, [.int .i64 0, .int .i64 0, .int .i64 0, .slice none 0 0]⟩]]) (fun _ h => h) ?_
        refine WO_pure tbok 1 [(2, .int .i64 p2), (3, .pointer (some ⟨b3, 0, none⟩)), (4, .pointer (some ⟨b4, 0, none⟩)), (6, .pointer (some ⟨b5, 0, none⟩)), (7, .int .i64 2)] rfl ⟨rfl, rfl, rfl, rfl, rfl, trivial⟩ ?_
        refine WO_end ?_
        cases hm
        exact WK_ret (ret_out (L := []) (RLc_cell tbok 2 rfl rfl rfl (RLc_tmp rfl RLc_nil)) (List.nil_sublist _) ⟨none, 0, 0, rfl, (OwnE.nil none)⟩)
      · have hm := ifF hb10 hm
        refine WK_skip ?_
        refine WK_seq ?_
        refine WK_region ?_
        refine WO_loadB tbok 0 rfl rfl rfl rfl (fun _ h => h) rfl rfl ?_
        refine WO_pure tbok 1 [(2, .int .i64 p2), (3, .pointer (some ⟨b3, 0, none⟩)), (4, .pointer (some ⟨b4, 0, none⟩)), (6, .pointer (some ⟨b5, 0, none⟩)), (7, .int .i64 0), (23, .agg #[.int .i64 p0_0, .int .i64 p0_1, .int .i64 p0_2, .slice a_p0_3 p0_3.length c_p0_3]), (24, .pointer (some ⟨b3, 3, none⟩))] rfl ⟨rfl, rfl, rfl, rfl, rfl, rfl, rfl, trivial⟩ ?_
        refine WO_loadB tbok 0 rfl rfl rfl rfl (fun _ h => h) rfl rfl ?_
        refine WO_pure tbok 1 [(2, .int .i64 p2), (3, .pointer (some ⟨b3, 0, none⟩)), (6, .pointer (some ⟨b5, 0, none⟩)), (7, .int .i64 0), (23, .agg #[.int .i64 p0_0, .int .i64 p0_1, .int .i64 p0_2, .slice a_p0_3 p0_3.length c_p0_3]), (25, .slice a_p0_3 p0_3.length c_p0_3), (26, .pointer (some ⟨b4, 3, none⟩))] rfl ⟨rfl, rfl, rfl, rfl, rfl, rfl, rfl, trivial⟩ ?_
        refine WO_loadB tbok 1 rfl rfl rfl rfl (fun _ h => h) rfl rfl ?_
        refine WO_pure tbok 2 [(6, .pointer (some ⟨b5, 0, none⟩)), (7, .int .i64 0), (23, .agg #[.int .i64 p0_0, .int .i64 p0_1, .int .i64 p0_2, .slice a_p0_3 p0_3.length c_p0_3]), (25, .slice a_p0_3 p0_3.length c_p0_3), (27, .slice a_p1_3 p1_3.length c_p1_3), (28, .int .i64 p2), (29, .pointer (some ⟨b3, 2, none⟩))] rfl ⟨rfl, rfl, rfl, rfl, rfl, rfl, rfl, trivial⟩ ?_
        refine WO_loadB tbok 0 rfl rfl rfl rfl (fun _ h => h) rfl rfl ?_
        refine WO_pure tbok 1 [(6, .pointer (some ⟨b5, 0, none⟩)), (7, .int .i64 0), (23, .agg #[.int .i64 p0_0, .int .i64 p0_1, .int .i64 p0_2, .slice a_p0_3 p0_3.length c_p0_3]), (25, .slice a_p0_3 p0_3.length c_p0_3), (27, .slice a_p1_3 p1_3.length c_p1_3), (28, .int .i64 p2), (31, .int .i64 (w64 (p0_2 + 1)))] rfl ⟨rfl, rfl, rfl, rfl, rfl, rfl, rfl, trivial⟩ ?_
        obtain ⟨⟨y_5, y_6, y_7, y_8⟩, hc11, hm⟩ := bind_some hm
        refine WO_call1 (census_costs_Q (y_5, y_6, y_7, y_8)) rfl rfl trivial rfl rfl rfl rfl ⟨28, #[], #[], rfl, callable_28, fun w hw => ⟨_, hw.sat, census_costs_walk h_p0_3 h_p0_3 h_p1_3 (fun m1 hm1 z_3 z_4 _ h => specV_cap callable_29 (census_Plain_c1_walk h)) hc11⟩⟩ (fun v16 L15 hq => ?_)
        obtain ⟨a12, qa12, c13, rfl, hL15⟩ := hq
        obtain rfl := OwnE.qlen hL15
        refine WO.cls (C' := St w0 m m [[⟨b3, 24, [.int .i64 p0_0, .int .i64 p0_1, .int .i64 p0_2, .slice a_p0_3 p0_3.length c_p0_3]⟩], [⟨b4, 24, [.int .i64 p1_0, .int .i64 p1_1, .int .i64 p1_2, .slice a_p1_3 p1_3.length c_p1_3]⟩], [⟨b5, 32, [.int .i64 0, .int .i64 0, .int .i64 0, .slice none 0 0]⟩], L15]) (fun _ h => h) ?_
        refine WO_storeB tbok 2 [.int .i64 y_5, .int .i64 y_6, .int .i64 y_7, .slice a12 ((y_8).length) c13] rfl rfl rfl rfl rfl rfl rfl ?_
        refine WO.cls (C' := St w0 m m [[⟨b3, 24, [.int .i64 p0_0, .int .i64 p0_1, .int .i64 p0_2, .slice a_p0_3 p0_3.length c_p0_3]⟩], [⟨b4, 24, [.int .i64 p1_0, .int .i64 p1_1, .int .i64 p1_2, .slice a_p1_3 p1_3.length c_p1_3]⟩], [⟨b5, 32, [.int .i64 y_5, .int .i64 y_6, .int .i64 y_7, .slice a12 ((y_8).length) c13]⟩], L15]) (fun _ h => h) ?_
        refine WO_pure tbok 1 [(6, .pointer (some ⟨b5, 0, none⟩)), (7, .int .i64 0)] rfl ⟨rfl, rfl, trivial⟩ ?_
        refine WO_end ?_
        cases hm
        exact WK_ret (ret_out (L := L15) (RLc_cell tbok 2 rfl rfl rfl (RLc_tmp rfl RLc_nil)) (seg_sub 3 rfl) ⟨a12, _, c13, rfl, hL15⟩)
    · refine WK_region ?_
      refine WO_pure tbok 3 [(2, .int .i64 p2), (3, .pointer (some ⟨b3, 0, none⟩)), (4, .pointer (some ⟨b4, 0, none⟩)), (6, .pointer (some ⟨b5, 0, none⟩)), (7, .int .i64 0), (18, .bool (decide (p2 < 1)))] rfl ⟨rfl, rfl, rfl, rfl, rfl, rfl, trivial⟩ ?_
      refine WO_split (d := 18) (b := decide (p2 < 1)) rfl (fun hb17 => ?_) (fun hb17 => ?_)
      · have hx8 := ifT hb17 hx8
        refine WO_pure tbok 3 [(2, .int .i64 p2), (3, .pointer (some ⟨b3, 0, none⟩)), (4, .pointer (some ⟨b4, 0, none⟩)), (6, .pointer (some ⟨b5, 0, none⟩)), (7, .int .i64 0), (21, .bool true)] rfl ⟨rfl, rfl, rfl, rfl, rfl, rfl, trivial⟩ ?_
        refine WO_end ?_
        cases hx8
        refine WK.sub ?_ (WK.cls (fun _ h => h) hk9)
        exact ⟨rfl, rfl, rfl, rfl, rfl, rfl, trivial⟩
      · have hx8 := ifF hb17 hx8
        refine WO_pure tbok 3 [(2, .int .i64 p2), (3, .pointer (some ⟨b3, 0, none⟩)), (4, .pointer (some ⟨b4, 0, none⟩)), (6, .pointer (some ⟨b5, 0, none⟩)), (7, .int .i64 0), (21, .bool (decide (64 < p2)))] rfl ⟨rfl, rfl, rfl, rfl, rfl, rfl, trivial⟩ ?_
        refine WO_end ?_
        cases hx8
        refine WK.sub ?_ (WK.cls (fun _ h => h) hk9)
        exact ⟨rfl, rfl, rfl, rfl, rfl, rfl, trivial⟩
theorem seam_matched_walk {m : Mu} {p0_0 : Int} {p0_1 : Int} {p0_2 : Int} {p0_3 : List Int} {p1_0 : Int} {p1_1 : Int} {p1_2 : Int} {p1_3 : List Int} {a_p0_3 : Option Addr} {q_p0_3 c_p0_3 : Nat} {a_p1_3 : Option Addr} {q_p1_3 c_p1_3 : Nat} (h_p0_3 : SlR (FE (I1 .i64)) 1 m (.slice a_p0_3 q_p0_3 c_p0_3) p0_3) (h_p1_3 : SlR (FE (I1 .i64)) 1 m (.slice a_p1_3 q_p1_3 c_p1_3) p1_3) {r : Int} (hm : seam_matched p0_0 p0_1 p0_2 p0_3 p1_0 p1_1 p1_2 p1_3 = some r) :
    Go.E.Spec Try.prog 35 [.agg #[.int .i64 p0_0, .int .i64 p0_1, .int .i64 p0_2, .slice a_p0_3 q_p0_3 c_p0_3], .agg #[.int .i64 p1_0, .int .i64 p1_1, .int .i64 p1_2, .slice a_p1_3 q_p1_3 c_p1_3]] m (fun v _ _ => v = .int .i64 r) := by
  refine Spec_enter Try.func35 rfl rfl rfl (fun w0 => ?_)
  refine WK.sub (e' := [(0, .agg #[.int .i64 p0_0, .int .i64 p0_1, .int .i64 p0_2, .slice a_p0_3 q_p0_3 c_p0_3]), (1, .agg #[.int .i64 p1_0, .int .i64 p1_1, .int .i64 p1_2, .slice a_p1_3 q_p1_3 c_p1_3])]) ⟨rfl, rfl, trivial⟩ ?_
  obtain rfl := SlR.qlen h_p0_3
  obtain rfl := SlR.qlen h_p1_3
  refine WK.sub (e' := [(0, .agg #[.int .i64 p0_0, .int .i64 p0_1, .int .i64 p0_2, .slice a_p0_3 p0_3.length c_p0_3]), (1, .agg #[.int .i64 p1_0, .int .i64 p1_1, .int .i64 p1_2, .slice a_p1_3 p1_3.length c_p1_3])]) ⟨rfl, rfl, trivial⟩ ?_
  unfold seam_matched at hm
  refine WK_seq ?_
  refine WK_region ?_
  refine WO_box [.int .i64 p0_0, .int .i64 p0_1, .int .i64 p0_2, .slice a_p0_3 p0_3.length c_p0_3] rfl rfl trivial rfl rfl rfl (fun b3 => ?_)
  refine WO.cls (C' := St w0 m m [[⟨b3, 24, [.int .i64 p0_0, .int .i64 p0_1, .int .i64 p0_2, .slice a_p0_3 p0_3.length c_p0_3]⟩]]) (fun _ h => h) ?_
  refine WO_box [.int .i64 p1_0, .int .i64 p1_1, .int .i64 p1_2, .slice a_p1_3 p1_3.length c_p1_3] rfl rfl trivial rfl rfl rfl (fun b4 => ?_)
  refine WO.cls (C' := St w0 m m [[⟨b3, 24, [.int .i64 p0_0, .int .i64 p0_1, .int .i64 p0_2, .slice a_p0_3 p0_3.length c_p0_3]⟩], [⟨b4, 24, [.int .i64 p1_0, .int .i64 p1_1, .int .i64 p1_2, .slice a_p1_3 p1_3.length c_p1_3]⟩]]) (fun _ h => h) ?_
  refine WO_pure tbok 1 [(2, .pointer (some ⟨b3, 0, none⟩)), (3, .pointer (some ⟨b4, 0, none⟩)), (4, .int .i64 0)] rfl ⟨rfl, rfl, rfl, trivial⟩ ?_
  refine WO_end ?_
  refine WK_seq ?_
  refine WK_seq ?_
  refine WK_region ?_
  refine WO_loadB tbok 0 rfl rfl rfl rfl (fun _ h => h) rfl rfl ?_
  refine WO_loadB tbok 1 rfl rfl rfl rfl (fun _ h => h) rfl rfl ?_
  refine WO_bsliceX (E := V4) (El := El24) tbok (fun _ => rfl) (by decide) [.agg #[.int .i64 p0_0, .int .i64 p0_1, .int .i64 p0_2, .slice a_p0_3 p0_3.length c_p0_3], .agg #[.int .i64 p1_0, .int .i64 p1_1, .int .i64 p1_2, .slice a_p1_3 p1_3.length c_p1_3]] [(.int .i64 p0_0, .int .i64 p0_1, .int .i64 p0_2, .slice a_p0_3 p0_3.length c_p0_3), (.int .i64 p1_0, .int .i64 p1_1, .int .i64 p1_2, .slice a_p1_3 p1_3.length c_p1_3)] ([(p0_0, p0_1, p0_2, p0_3), (p1_0, p1_1, p1_2, p1_3)] : List (Int × Int × Int × List Int)) rfl rfl trivial rfl rfl rfl rfl rfl rfl rfl rfl rfl rfl rfl rfl ⟨⟨_, _, _, rfl, h_p0_3⟩, ⟨_, _, _, rfl, h_p1_3⟩, trivial⟩ (fun b5 hb5 => ?_)
  refine WO.cls (C' := St w0 m m [[⟨b3, 24, [.int .i64 p0_0, .int .i64 p0_1, .int .i64 p0_2, .slice a_p0_3 p0_3.length c_p0_3]⟩], [⟨b4, 24, [.int .i64 p1_0, .int .i64 p1_1, .int .i64 p1_2, .slice a_p1_3 p1_3.length c_p1_3]⟩], [⟨b5, 24, [.int .i64 p0_0, .int .i64 p0_1, .int .i64 p0_2, .slice a_p0_3 p0_3.length c_p0_3, .int .i64 p1_0, .int .i64 p1_1, .int .i64 p1_2, .slice a_p1_3 p1_3.length c_p1_3]⟩]]) (fun _ h => h) ?_
  refine WO_pure tbok 2 [(2, .pointer (some ⟨b3, 0, none⟩)), (3, .pointer (some ⟨b4, 0, none⟩)), (4, .int .i64 0), (10, .slice (some ⟨b5, 0, none⟩) 2 2), (11, .int .i64 2), (12, .int .i64 0)] rfl ⟨rfl, rfl, rfl, rfl, rfl, rfl, trivial⟩ ?_
  refine WO_end ?_
  obtain ⟨x7, hx8, hm⟩ := bind_some hm
  refine WK_join (β := Unit × Unit) (fun p => Sum.inr p.1 = x7) (fun p => [(2, .pointer (some ⟨b3, 0, none⟩)), (3, .pointer (some ⟨b4, 0, none⟩)), (4, .int .i64 0)]) (fun p => St w0 m m [[⟨b3, 24, [.int .i64 p0_0, .int .i64 p0_1, .int .i64 p0_2, .slice a_p0_3 p0_3.length c_p0_3]⟩], [⟨b4, 24, [.int .i64 p1_0, .int .i64 p1_1, .int .i64 p1_2, .slice a_p1_3 p1_3.length c_p1_3]⟩], [⟨b5, 24, [.int .i64 p0_0, .int .i64 p0_1, .int .i64 p0_2, .slice a_p0_3 p0_3.length c_p0_3, .int .i64 p1_0, .int .i64 p1_1, .int .i64 p1_2, .slice a_p1_3 p1_3.length c_p1_3]⟩]]) ?_ (fun hk9 => ?_)
  · rintro ⟨⟨⟩, ⟨⟩⟩ hq15
    subst hq15
    refine WK.sub (e' := [(2, .pointer (some ⟨b3, 0, none⟩)), (3, .pointer (some ⟨b4, 0, none⟩)), (4, .int .i64 0)]) ⟨rfl, rfl, rfl, trivial⟩ (WK.cls (C' := St w0 m m [[⟨b3, 24, [.int .i64 p0_0, .int .i64 p0_1, .int .i64 p0_2, .slice a_p0_3 p0_3.length c_p0_3]⟩], [⟨b4, 24, [.int .i64 p1_0, .int .i64 p1_1, .int .i64 p1_2, .slice a_p1_3 p1_3.length c_p1_3]⟩], [⟨b5, 24, [.int .i64 p0_0, .int .i64 p0_1, .int .i64 p0_2, .slice a_p0_3 p0_3.length c_p0_3, .int .i64 p1_0, .int .i64 p1_1, .int .i64 p1_2, .slice a_p1_3 p1_3.length c_p1_3]⟩]]) (fun _ h => h) ?_)
    refine WK_seq ?_
    refine WK_seq ?_
    obtain ⟨s_2, hx16, hm⟩ := bind_some hm
    refine WK_meet [(4, .int .i64 0), (40, .bool s_2)] (St w0 m m [[⟨b3, 24, [.int .i64 p0_0, .int .i64 p0_1, .int .i64 p0_2, .slice a_p0_3 p0_3.length c_p0_3]⟩], [⟨b4, 24, [.int .i64 p1_0, .int .i64 p1_1, .int .i64 p1_2, .slice a_p1_3 p1_3.length c_p1_3]⟩], [⟨b5, 24, [.int .i64 p0_0, .int .i64 p0_1, .int .i64 p0_2, .slice a_p0_3 p0_3.length c_p0_3, .int .i64 p1_0, .int .i64 p1_1, .int .i64 p1_2, .slice a_p1_3 p1_3.length c_p1_3]⟩]]) ?_ (fun hk17 => ?_)
    · refine WK_cond (b := s_2) rfl (fun hb18 => ?_) (fun hb18 => ?_)
      · have hm := ifT hb18 hm
        refine WK_seq ?_
        refine WK_region ?_
        refine WO_pure tbok 1 [(4, .int .i64 4)] rfl ⟨rfl, trivial⟩ ?_
        refine WO_end ?_
        cases hm
        exact WK_ret (ret_out (L := []) (RLc_tmp rfl RLc_nil) (List.nil_sublist _) rfl)
      · have hm := ifF hb18 hm
        refine WK_skip ?_
        refine WK_seq ?_
        refine WK_region ?_
        refine WO_pure tbok 1 [(4, .int .i64 0)] rfl ⟨rfl, trivial⟩ ?_
        refine WO_end ?_
        cases hm
        exact WK_ret (ret_out (L := []) (RLc_tmp rfl RLc_nil) (List.nil_sublist _) rfl)
    · refine WK_region ?_
      refine WO_pure tbok 1 [(2, .pointer (some ⟨b3, 0, none⟩)), (3, .pointer (some ⟨b4, 0, none⟩)), (4, .int .i64 0), (22, .pointer (some ⟨b3, 0, none⟩))] rfl ⟨rfl, rfl, rfl, rfl, trivial⟩ ?_
      refine WO_loadB tbok 0 rfl rfl rfl rfl (fun _ h => h) rfl rfl ?_
      refine WO_pure tbok 1 [(2, .pointer (some ⟨b3, 0, none⟩)), (3, .pointer (some ⟨b4, 0, none⟩)), (4, .int .i64 0), (23, .int .i64 p0_0), (24, .pointer (some ⟨b4, 0, none⟩))] rfl ⟨rfl, rfl, rfl, rfl, rfl, trivial⟩ ?_
      refine WO_loadB tbok 1 rfl rfl rfl rfl (fun _ h => h) rfl rfl ?_
      refine WO_pure tbok 2 [(2, .pointer (some ⟨b3, 0, none⟩)), (3, .pointer (some ⟨b4, 0, none⟩)), (4, .int .i64 0), (27, .bool (p0_0 != p1_0))] rfl ⟨rfl, rfl, rfl, rfl, trivial⟩ ?_
      refine WO_split (d := 27) (b := p0_0 != p1_0) rfl (fun hb19 => ?_) (fun hb19 => ?_)
      · have hx16 := ifT hb19 hx16
        refine WO_pure tbok 13 [(4, .int .i64 0), (40, .bool true)] rfl ⟨rfl, rfl, trivial⟩ ?_
        refine WO_end ?_
        cases hx16
        refine WK.sub ?_ (WK.cls (fun _ h => h) hk17)
        exact ⟨rfl, rfl, trivial⟩
      · have hx16 := ifF hb19 hx16
        refine WO_pure tbok 1 [(2, .pointer (some ⟨b3, 0, none⟩)), (3, .pointer (some ⟨b4, 0, none⟩)), (4, .int .i64 0), (27, .bool false), (28, .pointer (some ⟨b3, 1, none⟩))] rfl ⟨rfl, rfl, rfl, rfl, rfl, trivial⟩ ?_
        refine WO_loadB tbok 0 rfl rfl rfl rfl (fun _ h => h) rfl rfl ?_
        refine WO_pure tbok 1 [(2, .pointer (some ⟨b3, 0, none⟩)), (3, .pointer (some ⟨b4, 0, none⟩)), (4, .int .i64 0), (27, .bool false), (29, .int .i64 p0_1), (30, .pointer (some ⟨b4, 1, none⟩))] rfl ⟨rfl, rfl, rfl, rfl, rfl, rfl, trivial⟩ ?_
        refine WO_loadB tbok 1 rfl rfl rfl rfl (fun _ h => h) rfl rfl ?_
        refine WO_pure tbok 3 [(2, .pointer (some ⟨b3, 0, none⟩)), (3, .pointer (some ⟨b4, 0, none⟩)), (4, .int .i64 0), (34, .bool (p0_1 != p1_1))] rfl ⟨rfl, rfl, rfl, rfl, trivial⟩ ?_
        refine WO_split (d := 34) (b := p0_1 != p1_1) rfl (fun hb20 => ?_) (fun hb20 => ?_)
        · have hx16 := ifT hb20 hx16
          refine WO_pure tbok 6 [(4, .int .i64 0), (40, .bool true)] rfl ⟨rfl, rfl, trivial⟩ ?_
          refine WO_end ?_
          cases hx16
          refine WK.sub ?_ (WK.cls (fun _ h => h) hk17)
          exact ⟨rfl, rfl, trivial⟩
        · have hx16 := ifF hb20 hx16
          refine WO_pure tbok 1 [(3, .pointer (some ⟨b4, 0, none⟩)), (4, .int .i64 0), (34, .bool false), (35, .pointer (some ⟨b3, 2, none⟩))] rfl ⟨rfl, rfl, rfl, rfl, trivial⟩ ?_
          refine WO_loadB tbok 0 rfl rfl rfl rfl (fun _ h => h) rfl rfl ?_
          refine WO_pure tbok 1 [(4, .int .i64 0), (34, .bool false), (36, .int .i64 p0_2), (37, .pointer (some ⟨b4, 2, none⟩))] rfl ⟨rfl, rfl, rfl, rfl, trivial⟩ ?_
          refine WO_loadB tbok 1 rfl rfl rfl rfl (fun _ h => h) rfl rfl ?_
          refine WO_pure tbok 2 [(4, .int .i64 0), (40, .bool (p0_2 != p1_2))] rfl ⟨rfl, rfl, trivial⟩ ?_
          refine WO_end ?_
          cases hx16
          refine WK.sub ?_ (WK.cls (fun _ h => h) hk17)
          exact ⟨rfl, rfl, trivial⟩
  · refine WK_block ?_
    refine WK_loop (S := Int) (G := Unit) (fun s => seam_matched_s1 p0_0 p0_1 p0_2 p0_3 p1_0 p1_1 p1_2 p1_3 s) (fun s g => [(2, .pointer (some ⟨b3, 0, none⟩)), (3, .pointer (some ⟨b4, 0, none⟩)), (4, .int .i64 0), (10, .slice (some ⟨b5, 0, none⟩) 2 2), (11, .int .i64 2), (12, .int .i64 s)]) (fun s g => St w0 m m [[⟨b3, 24, [.int .i64 p0_0, .int .i64 p0_1, .int .i64 p0_2, .slice a_p0_3 p0_3.length c_p0_3]⟩], [⟨b4, 24, [.int .i64 p1_0, .int .i64 p1_1, .int .i64 p1_2, .slice a_p1_3 p1_3.length c_p1_3]⟩], [⟨b5, 24, [.int .i64 p0_0, .int .i64 p0_1, .int .i64 p0_2, .slice a_p0_3 p0_3.length c_p0_3, .int .i64 p1_0, .int .i64 p1_1, .int .i64 p1_2, .slice a_p1_3 p1_3.length c_p1_3]⟩]]) (fun s g => True) FUEL 0 () x7 hx8 trivial ⟨rfl, rfl, rfl, rfl, rfl, rfl, trivial⟩ (fun _ h => h) ?_
    rintro s_1 ⟨⟩ o11 fl12 hm10 - hn13 hd14
    have hm10 : seam_matched_s1 p0_0 p0_1 p0_2 p0_3 p1_0 p1_1 p1_2 p1_3 s_1 = some o11 := hm10
    unfold seam_matched_s1 at hm10
    refine WK.sub (e' := [(2, .pointer (some ⟨b3, 0, none⟩)), (3, .pointer (some ⟨b4, 0, none⟩)), (4, .int .i64 0), (10, .slice (some ⟨b5, 0, none⟩) 2 2), (11, .int .i64 2), (12, .int .i64 s_1)]) ⟨rfl, rfl, rfl, rfl, rfl, rfl, trivial⟩ (WK.cls (C' := St w0 m m [[⟨b3, 24, [.int .i64 p0_0, .int .i64 p0_1, .int .i64 p0_2, .slice a_p0_3 p0_3.length c_p0_3]⟩], [⟨b4, 24, [.int .i64 p1_0, .int .i64 p1_1, .int .i64 p1_2, .slice a_p1_3 p1_3.length c_p1_3]⟩], [⟨b5, 24, [.int .i64 p0_0, .int .i64 p0_1, .int .i64 p0_2, .slice a_p0_3 p0_3.length c_p0_3, .int .i64 p1_0, .int .i64 p1_1, .int .i64 p1_2, .slice a_p1_3 p1_3.length c_p1_3]⟩]]) (fun _ h => h) ?_)
    refine WK_seq ?_
    refine WK_region ?_
    refine WO_pure tbok 1 [(2, .pointer (some ⟨b3, 0, none⟩)), (3, .pointer (some ⟨b4, 0, none⟩)), (4, .int .i64 0), (10, .slice (some ⟨b5, 0, none⟩) 2 2), (11, .int .i64 2), (12, .int .i64 s_1), (13, .bool (decide (s_1 < 2)))] rfl ⟨rfl, rfl, rfl, rfl, rfl, rfl, rfl, trivial⟩ ?_
    refine WO_end ?_
    refine WK_seq ?_
    refine WK_cond (b := decide (s_1 < 2)) rfl (fun hb21 => ?_) (fun hb21 => ?_)
    · have hm10 := ifT hb21 hm10
      refine WK_skip ?_
      refine WK_seq ?_
      refine WK_block ?_
      refine WK_seq ?_
      refine WK_region ?_
      obtain ⟨v_3, hy22, hm10⟩ := bind_some hm10
      obtain ⟨hc23, hy22⟩ := ix_some hy22
      refine WO_index tbok rfl rfl rfl rfl rfl rfl rfl rfl (OwnX.addr hb5) (by simpa using hc23) ?_
      refine WO_loadOX (E := V4) tbok (fun _ => rfl) 2 rfl rfl rfl rfl (fun _ h => h) hb5 rfl hy22 (fun cs hcs => ?_)
      obtain ⟨a24, qa24, c25, rfl, h26⟩ := hcs
      obtain rfl := SlR.qlen h26
      refine ⟨_, rfl, ?_⟩
      refine WO_alloc tbok [.int .i64 0, .int .i64 0, .int .i64 0, .slice none 0 0] rfl rfl trivial rfl rfl rfl rfl (fun b28 => ?_)
      refine WO.cls (C' := St w0 m m [[⟨b3, 24, [.int .i64 p0_0, .int .i64 p0_1, .int .i64 p0_2, .slice a_p0_3 p0_3.length c_p0_3]⟩], [⟨b4, 24, [.int .i64 p1_0, .int .i64 p1_1, .int .i64 p1_2, .slice a_p1_3 p1_3.length c_p1_3]⟩], [⟨b5, 24, [.int .i64 p0_0, .int .i64 p0_1, .int .i64 p0_2, .slice a_p0_3 p0_3.length c_p0_3, .int .i64 p1_0, .int .i64 p1_1, .int .i64 p1_2, .slice a_p1_3 p1_3.length c_p1_3]⟩], [⟨b28, 24, [.int .i64 0, .int .i64 0, .int .i64 0, .slice none 0 0]⟩]]) (fun _ h => h) ?_
      refine WO_storeB tbok 3 [.int .i64 v_3.1, .int .i64 v_3.2.1, .int .i64 v_3.2.2.1, .slice a24 ((v_3.2.2.2).length) c25] rfl rfl rfl rfl rfl rfl rfl ?_
      refine WO.cls (C' := St w0 m m [[⟨b3, 24, [.int .i64 p0_0, .int .i64 p0_1, .int .i64 p0_2, .slice a_p0_3 p0_3.length c_p0_3]⟩], [⟨b4, 24, [.int .i64 p1_0, .int .i64 p1_1, .int .i64 p1_2, .slice a_p1_3 p1_3.length c_p1_3]⟩], [⟨b5, 24, [.int .i64 p0_0, .int .i64 p0_1, .int .i64 p0_2, .slice a_p0_3 p0_3.length c_p0_3, .int .i64 p1_0, .int .i64 p1_1, .int .i64 p1_2, .slice a_p1_3 p1_3.length c_p1_3]⟩], [⟨b28, 24, [.int .i64 v_3.1, .int .i64 v_3.2.1, .int .i64 v_3.2.2.1, .slice a24 ((v_3.2.2.2).length) c25]⟩]]) (fun _ h => h) ?_
      refine WO_end ?_
      refine WK_seq ?_
      refine WK_region ?_
      refine WO_loadB tbok 3 rfl rfl rfl rfl (fun _ h => h) rfl rfl ?_
      obtain ⟨y_4, hc29, hm10⟩ := bind_some hm10
      refine WO_call0 (.int .i64 y_4) rfl rfl trivial rfl rfl rfl rfl St_closed ⟨43, #[], #[], rfl, callable_43, fun w hw => ⟨_, hw.sat, raster_Check_walk h26 hc29⟩⟩ ?_
      refine WO_pure tbok 1 [(2, .pointer (some ⟨b3, 0, none⟩)), (3, .pointer (some ⟨b4, 0, none⟩)), (4, .int .i64 0), (7, .int .i64 y_4), (10, .slice (some ⟨b5, 0, none⟩) 2 2), (11, .int .i64 2), (12, .int .i64 s_1)] rfl ⟨rfl, rfl, rfl, rfl, rfl, rfl, rfl, trivial⟩ ?_
      refine WO_end ?_
      refine WK_seq ?_
      refine WK_region ?_
      refine WO_pure tbok 2 [(2, .pointer (some ⟨b3, 0, none⟩)), (3, .pointer (some ⟨b4, 0, none⟩)), (4, .int .i64 0), (7, .int .i64 y_4), (10, .slice (some ⟨b5, 0, none⟩) 2 2), (11, .int .i64 2), (12, .int .i64 s_1), (19, .bool (y_4 != 0))] rfl ⟨rfl, rfl, rfl, rfl, rfl, rfl, rfl, rfl, trivial⟩ ?_
      refine WO_end ?_
      refine WK_cond (b := y_4 != 0) rfl (fun hb30 => ?_) (fun hb30 => ?_)
      · have hm10 := ifT hb30 hm10
        refine WK_seq ?_
        refine WK_region ?_
        refine WO_pure tbok 2 [(2, .pointer (some ⟨b3, 0, none⟩)), (3, .pointer (some ⟨b4, 0, none⟩)), (4, .int .i64 y_4), (10, .slice (some ⟨b5, 0, none⟩) 2 2), (11, .int .i64 2), (12, .int .i64 s_1)] rfl ⟨rfl, rfl, rfl, rfl, rfl, rfl, trivial⟩ ?_
        refine WO_end ?_
        cases hm10
        have hq := hd14 _ rfl
        subst hq
        have hm : some _ = some _ := hm
        cases hm
        exact WK_ret (ret_out (L := []) (RLc_tmp rfl RLc_nil) (List.nil_sublist _) rfl)
      · have hm10 := ifF hb30 hm10
        refine WK_skip ?_
        refine WK_blk ?_
        refine WK_region ?_
        refine WO_pure tbok 2 [(2, .pointer (some ⟨b3, 0, none⟩)), (3, .pointer (some ⟨b4, 0, none⟩)), (4, .int .i64 0), (10, .slice (some ⟨b5, 0, none⟩) 2 2), (11, .int .i64 2), (12, .int .i64 (w64 (s_1 + 1)))] rfl ⟨rfl, rfl, rfl, rfl, rfl, rfl, trivial⟩ ?_
        refine WO_end ?_
        cases hm10
        refine WK.sub ?_ (WK.cls (fun _ h => St.take 3 h) (hn13 _ () rfl trivial))
        exact ⟨rfl, rfl, rfl, rfl, rfl, rfl, trivial⟩
    · have hm10 := ifF hb21 hm10
      refine WK_exit rfl ?_
      cases hm10
      refine WK.sub ?_ (WK.cls (fun _ h => h) (hk9 ((), ()) (hd14 _ rfl)))
      exact ⟨rfl, rfl, rfl, trivial⟩
theorem seam_Mosaic_c1_walk {m : Mu} {p0 : Int} {q0_0 : Int} {q0_1 : Int} {q0_2 : Int} {q0_3 : List Int} {a_q0_3 : Option Addr} {q_q0_3 c_q0_3 : Nat} {b_q0 : Nat} (hb_q0 : m b_q0 = some (Ent.obj ⟨b_q0, 24, [.int .i64 q0_0, .int .i64 q0_1, .int .i64 q0_2, .slice a_q0_3 q_q0_3 c_q0_3]⟩)) (h_q0_3 : SlR (FE (I1 .i64)) 1 m (.slice a_q0_3 q_q0_3 c_q0_3) q0_3) {r : Bool} (hm : seam_Mosaic_c1 p0 q0_0 q0_1 q0_2 q0_3 = some r) :
    Go.E.Spec Try.prog 41 [.int .i64 p0, .pointer (some ⟨b_q0, 0, none⟩)] m (fun v _ _ => v = .bool r) := by
  refine Spec_enter Try.func41 rfl rfl rfl (fun w0 => ?_)
  refine WK.sub (e' := [(0, .int .i64 p0), (1, .pointer (some ⟨b_q0, 0, none⟩))]) ⟨rfl, rfl, trivial⟩ ?_
  obtain rfl := SlR.qlen h_q0_3
  refine WK.sub (e' := [(0, .int .i64 p0), (1, .pointer (some ⟨b_q0, 0, none⟩))]) ⟨rfl, rfl, trivial⟩ ?_
  unfold seam_Mosaic_c1 at hm
  refine WK_seq ?_
  refine WK_region ?_
  refine WO_pure tbok 1 [(0, .int .i64 p0), (1, .pointer (some ⟨b_q0, 0, none⟩)), (3, .bool false)] rfl ⟨rfl, rfl, rfl, trivial⟩ ?_
  refine WO_end ?_
  refine WK_seq ?_
  refine WK_region ?_
  refine WO_pure tbok 3 [(0, .int .i64 p0), (1, .pointer (some ⟨b_q0, 0, none⟩)), (3, .bool false), (6, .bool (decide (p0 < 0)))] rfl ⟨rfl, rfl, rfl, rfl, trivial⟩ ?_
  refine WO_split (d := 6) (b := decide (p0 < 0)) rfl (fun hb2 => ?_) (fun hb2 => ?_)
  · have hm := ifT hb2 hm
    refine WO_pure tbok 6 [(3, .bool true)] rfl ⟨rfl, trivial⟩ ?_
    refine WO_end ?_
    cases hm
    exact WK_ret (ret_out (L := []) (RLc_tmp rfl RLc_nil) (List.nil_sublist _) rfl)
  · have hm := ifF hb2 hm
    refine WO_pure tbok 2 [(3, .bool false), (6, .bool false), (7, .int .i64 p0), (8, .pointer (some ⟨b_q0, 0, none⟩))] rfl ⟨rfl, rfl, rfl, rfl, trivial⟩ ?_
    refine WO_loadM tbok rfl rfl rfl rfl (fun _ h => St.sat h) hb_q0 rfl ?_
    refine WO_pure tbok 3 [(3, .bool (decide (q0_0 < p0)))] rfl ⟨rfl, trivial⟩ ?_
    refine WO_end ?_
    cases hm
    exact WK_ret (ret_out (L := []) (RLc_tmp rfl RLc_nil) (List.nil_sublist _) rfl)
def slices_Clone_sint_Q (r : List Int) : Value → List Ent → Prop := fun v L => ∃ (a0 : Option Addr) (q0 c0 : Nat), v = .slice a0 q0 c0 ∧ OwnE 3 1 (I1 .i64) (.slice a0 q0 c0) r L
theorem slices_Clone_sint_walk {m : Mu} {p0 : List Int} {a_p0 : Option Addr} {q_p0 c_p0 : Nat} (h_p0 : SlR (FE (I1 .i64)) 1 m (.slice a_p0 q_p0 c_p0) p0) {r : List Int} (hm : slices_Clone_sint p0 = some r) :
    Go.E.Spec Try.prog 42 [.slice a_p0 q_p0 c_p0] m (fun v _ L => slices_Clone_sint_Q r v L) := by
  refine Spec_enter Try.func42 rfl rfl rfl (fun w0 => ?_)
  refine WK.sub (e' := [(0, .slice a_p0 q_p0 c_p0)]) ⟨rfl, trivial⟩ ?_
  obtain rfl := SlR.qlen h_p0
  refine WK.sub (e' := [(0, .slice a_p0 p0.length c_p0)]) ⟨rfl, trivial⟩ ?_
  cases a_p0 with
  | none =>
    obtain ⟨hx, _, hc⟩ := SlR.none_nil h_p0
    subst hx
    subst hc
    unfold slices_Clone_sint at hm
    obtain ⟨_, hm⟩ := chk_some hm
    refine WK_seq ?_
    refine WK_region ?_
    refine WO_pure tbok 1 [(0, .slice none 0 0), (2, .slice none 0 0)] rfl ⟨rfl, rfl, trivial⟩ ?_
    refine WO_end ?_
    refine WK_seq ?_
    refine WK_seq ?_
    refine WK_region ?_
    refine WO_pure tbok 1 [(0, .slice none 0 0), (2, .slice none 0 0), (3, .slice none 0 0)] rfl ⟨rfl, rfl, rfl, trivial⟩ ?_
    refine WO_eqnil tbok rfl rfl rfl rfl rfl rfl rfl ?_
    refine WO_end ?_
    refine WK_condT rfl ?_
    refine WK_seq ?_
    refine WK_region ?_
    refine WO_pure tbok 1 [(0, .slice none 0 0), (2, .slice none 0 0)] rfl ⟨rfl, rfl, trivial⟩ ?_
    refine WO_end ?_
    cases hm
    exact WK_ret (ret_out (L := []) (RLc_tmp rfl RLc_nil) (List.nil_sublist _) ⟨none, 0, 0, rfl, (OwnE.nil none)⟩)
  | some ad =>
    unfold slices_Clone_sint at hm
    refine WK_seq ?_
    refine WK_region ?_
    refine WO_pure tbok 1 [(0, .slice (some ad) p0.length c_p0), (2, .slice none 0 0)] rfl ⟨rfl, rfl, trivial⟩ ?_
    refine WO_end ?_
    refine WK_seq ?_
    refine WK_seq ?_
    refine WK_region ?_
    refine WO_pure tbok 1 [(0, .slice (some ad) p0.length c_p0), (2, .slice none 0 0), (3, .slice (some ad) p0.length c_p0)] rfl ⟨rfl, rfl, rfl, trivial⟩ ?_
    refine WO_eqnil tbok rfl rfl rfl rfl rfl rfl rfl ?_
    refine WO_end ?_
    refine WK_condF rfl ?_
    refine WK_skip ?_
    refine WK_seq ?_
    refine WK_region ?_
    refine WO_bslice (E := (I1 .i64)) tbok (fun _ => rfl) (by decide) [] ([] : List Int) rfl rfl trivial rfl rfl rfl rfl rfl rfl rfl rfl rfl rfl rfl rfl (fun b2 hb2 => ?_)
    refine WO.cls (C' := St w0 m m [[⟨b2, 3, ([] : List Int).flatMap (I1 .i64)⟩]]) (fun _ h => h) ?_
    refine WO_pure tbok 1 [(2, .slice none 0 0), (5, .slice (some ⟨b2, 0, none⟩) 0 0), (6, .slice (some ad) p0.length c_p0)] rfl ⟨rfl, rfl, rfl, trivial⟩ ?_
    obtain ⟨hc4, hm⟩ := chk_some hm
    refine WO_appendS (E := (I1 .i64)) tbok (fun _ => rfl) (by decide) (fun _ => rfl) 0 p0 rfl rfl rfl rfl rfl rfl rfl rfl rfl rfl rfl rfl hb2 rfl (fun w hw => ⟨_, hw.sat, h_p0⟩) (ap_ok (by decide) hc4) (ap_max hc4) (fun a5 c6 L7 hL7 => ?_)
    refine WO.cls (C' := St w0 m m [L7]) (fun _ h => h) ?_
    refine WO_pure tbok 1 [(2, .slice a5 ((([] : List Int) ++ p0).length) c6)] rfl ⟨rfl, trivial⟩ ?_
    refine WO_end ?_
    cases hm
    exact WK_ret (ret_out (L := L7) (RLc_tmp rfl RLc_nil) (seg_sub 0 rfl) ⟨a5, ((([] : List Int) ++ p0).length), c6, rfl, hL7⟩)
def seam_Mosaic_Q (r : Int × Int × Int × List Int × Int) : Value → List Ent → Prop := fun v L => ∃ (a0 : Option Addr) (q0 c0 : Nat), v = .tuple #[.agg #[.int .i64 r.1, .int .i64 r.2.1, .int .i64 r.2.2.1, .slice a0 q0 c0], .int .i64 r.2.2.2.2] ∧ OwnE 3 1 (I1 .i64) (.slice a0 q0 c0) r.2.2.2.1 L
theorem seam_Mosaic_walk {m : Mu} {p0_0 : Int} {p0_1 : Int} {p0_2 : Int} {p0_3 : List Int} {p1_0 : Int} {p1_1 : Int} {p1_2 : Int} {p1_3 : List Int} {p2 : List Int} {a_p0_3 : Option Addr} {q_p0_3 c_p0_3 : Nat} {a_p1_3 : Option Addr} {q_p1_3 c_p1_3 : Nat} {a_p2 : Option Addr} {q_p2 c_p2 : Nat} (h_p0_3 : SlR (FE (I1 .i64)) 1 m (.slice a_p0_3 q_p0_3 c_p0_3) p0_3) (h_p1_3 : SlR (FE (I1 .i64)) 1 m (.slice a_p1_3 q_p1_3 c_p1_3) p1_3) (h_p2 : SlR (FE (I1 .i64)) 1 m (.slice a_p2 q_p2 c_p2) p2) {r : Int × Int × Int × List Int × Int} (hm : seam_Mosaic p0_0 p0_1 p0_2 p0_3 p1_0 p1_1 p1_2 p1_3 p2 = some r) :
    Go.E.Spec Try.prog 14 [.agg #[.int .i64 p0_0, .int .i64 p0_1, .int .i64 p0_2, .slice a_p0_3 q_p0_3 c_p0_3], .agg #[.int .i64 p1_0, .int .i64 p1_1, .int .i64 p1_2, .slice a_p1_3 q_p1_3 c_p1_3], .slice a_p2 q_p2 c_p2] m (fun v _ L => seam_Mosaic_Q r v L) := by
  refine Spec_enter Try.func14 rfl rfl rfl (fun w0 => ?_)
  refine WK.sub (e' := [(0, .agg #[.int .i64 p0_0, .int .i64 p0_1, .int .i64 p0_2, .slice a_p0_3 q_p0_3 c_p0_3]), (1, .agg #[.int .i64 p1_0, .int .i64 p1_1, .int .i64 p1_2, .slice a_p1_3 q_p1_3 c_p1_3]), (2, .slice a_p2 q_p2 c_p2)]) ⟨rfl, rfl, rfl, trivial⟩ ?_
  obtain rfl := SlR.qlen h_p0_3
  obtain rfl := SlR.qlen h_p1_3
  obtain rfl := SlR.qlen h_p2
  refine WK.sub (e' := [(0, .agg #[.int .i64 p0_0, .int .i64 p0_1, .int .i64 p0_2, .slice a_p0_3 p0_3.length c_p0_3]), (1, .agg #[.int .i64 p1_0, .int .i64 p1_1, .int .i64 p1_2, .slice a_p1_3 p1_3.length c_p1_3]), (2, .slice a_p2 p2.length c_p2)]) ⟨rfl, rfl, rfl, trivial⟩ ?_
  unfold seam_Mosaic at hm
  refine WK_seq ?_
  refine WK_region ?_
  refine WO_box [.int .i64 p0_0, .int .i64 p0_1, .int .i64 p0_2, .slice a_p0_3 p0_3.length c_p0_3] rfl rfl trivial rfl rfl rfl (fun b4 => ?_)
  refine WO.cls (C' := St w0 m m [[⟨b4, 24, [.int .i64 p0_0, .int .i64 p0_1, .int .i64 p0_2, .slice a_p0_3 p0_3.length c_p0_3]⟩]]) (fun _ h => h) ?_
  refine WO_box [.int .i64 p1_0, .int .i64 p1_1, .int .i64 p1_2, .slice a_p1_3 p1_3.length c_p1_3] rfl rfl trivial rfl rfl rfl (fun b5 => ?_)
  refine WO.cls (C' := St w0 m m [[⟨b4, 24, [.int .i64 p0_0, .int .i64 p0_1, .int .i64 p0_2, .slice a_p0_3 p0_3.length c_p0_3]⟩], [⟨b5, 24, [.int .i64 p1_0, .int .i64 p1_1, .int .i64 p1_2, .slice a_p1_3 p1_3.length c_p1_3]⟩]]) (fun _ h => h) ?_
  refine WO_alloc tbok [.int .i64 0, .int .i64 0, .int .i64 0, .slice none 0 0] rfl rfl trivial rfl rfl rfl rfl (fun b6 => ?_)
  refine WO.cls (C' := St w0 m m [[⟨b4, 24, [.int .i64 p0_0, .int .i64 p0_1, .int .i64 p0_2, .slice a_p0_3 p0_3.length c_p0_3]⟩], [⟨b5, 24, [.int .i64 p1_0, .int .i64 p1_1, .int .i64 p1_2, .slice a_p1_3 p1_3.length c_p1_3]⟩], [⟨b6, 24, [.int .i64 0, .int .i64 0, .int .i64 0, .slice none 0 0]⟩]]) (fun _ h => h) ?_
  refine WO_pure tbok 1 [(2, .slice a_p2 p2.length c_p2), (3, .pointer (some ⟨b4, 0, none⟩)), (4, .pointer (some ⟨b5, 0, none⟩)), (6, .pointer (some ⟨b6, 0, none⟩)), (7, .int .i64 0)] rfl ⟨rfl, rfl, rfl, rfl, rfl, trivial⟩ ?_
  refine WO_end ?_
  refine WK_seq ?_
  refine WK_seq ?_
  refine WK_region ?_
  refine WO_loadB tbok 0 rfl rfl rfl rfl (fun _ h => h) rfl rfl ?_
  refine WO_loadB tbok 1 rfl rfl rfl rfl (fun _ h => h) rfl rfl ?_
  obtain ⟨y_1, hc7, hm⟩ := bind_some hm
  refine WO_call0 (.int .i64 y_1) rfl rfl trivial rfl rfl rfl rfl St_closed ⟨35, #[], #[], rfl, callable_35, fun w hw => ⟨_, hw.sat, seam_matched_walk h_p0_3 h_p1_3 hc7⟩⟩ ?_
  refine WO_pure tbok 1 [(2, .slice a_p2 p2.length c_p2), (3, .pointer (some ⟨b4, 0, none⟩)), (4, .pointer (some ⟨b5, 0, none⟩)), (6, .pointer (some ⟨b6, 0, none⟩)), (7, .int .i64 0), (8, .int .i64 y_1)] rfl ⟨rfl, rfl, rfl, rfl, rfl, rfl, trivial⟩ ?_
  refine WO_end ?_
  refine WK_seq ?_
  refine WK_region ?_
  refine WO_pure tbok 2 [(2, .slice a_p2 p2.length c_p2), (3, .pointer (some ⟨b4, 0, none⟩)), (4, .pointer (some ⟨b5, 0, none⟩)), (6, .pointer (some ⟨b6, 0, none⟩)), (7, .int .i64 0), (8, .int .i64 y_1), (16, .bool (y_1 != 0))] rfl ⟨rfl, rfl, rfl, rfl, rfl, rfl, rfl, trivial⟩ ?_
  refine WO_end ?_
  refine WK_cond (b := y_1 != 0) rfl (fun hb8 => ?_) (fun hb8 => ?_)
  · have hm := ifT hb8 hm
    refine WK_seq ?_
    refine WK_region ?_
    refine WO_pure tbok 2 [(2, .slice a_p2 p2.length c_p2), (3, .pointer (some ⟨b4, 0, none⟩)), (4, .pointer (some ⟨b5, 0, none⟩)), (6, .pointer (some ⟨b6, 0, none⟩)), (7, .int .i64 0), (17, .agg #[.int .i64 0, .int .i64 0, .int .i64 0, .slice none 0 0]), (18, .int .i64 y_1)] rfl ⟨rfl, rfl, rfl, rfl, rfl, rfl, rfl, trivial⟩ ?_
    refine WO_storeB tbok 2 [.int .i64 0, .int .i64 0, .int .i64 0, .slice none 0 0] rfl rfl rfl rfl rfl rfl rfl ?_
    refine WO.cls (C' := St w0 m m [[⟨b4, 24, [.int .i64 p0_0, .int .i64 p0_1, .int .i64 p0_2, .slice a_p0_3 p0_3.length c_p0_3]⟩], [⟨b5, 24, [.int .i64 p1_0, .int .i64 p1_1, .int .i64 p1_2, .slice a_p1_3 p1_3.length c_p1_3]⟩], [⟨b6, 24, [.int .i64 0, .int .i64 0, .int .i64 0, .slice none 0 0]⟩]]) (fun _ h => h) ?_
    refine WO_pure tbok 1 [(2, .slice a_p2 p2.length c_p2), (3, .pointer (some ⟨b4, 0, none⟩)), (4, .pointer (some ⟨b5, 0, none⟩)), (6, .pointer (some ⟨b6, 0, none⟩)), (7, .int .i64 y_1)] rfl ⟨rfl, rfl, rfl, rfl, rfl, trivial⟩ ?_
    refine WO_end ?_
    cases hm
    exact WK_ret (ret_out (L := []) (RLc_cell tbok 2 rfl rfl rfl (RLc_tmp rfl RLc_nil)) (List.nil_sublist _) ⟨none, 0, 0, rfl, (OwnE.nil none)⟩)
  · have hm := ifF hb8 hm
    refine WK_skip ?_
    refine WK_seq ?_
    refine WK_seq ?_
    obtain ⟨s_2, hx9, hm⟩ := bind_some hm
    refine WK_meet [(2, .slice a_p2 p2.length c_p2), (3, .pointer (some ⟨b4, 0, none⟩)), (4, .pointer (some ⟨b5, 0, none⟩)), (6, .pointer (some ⟨b6, 0, none⟩)), (7, .int .i64 0), (28, .bool s_2)] (St w0 m m [[⟨b4, 24, [.int .i64 p0_0, .int .i64 p0_1, .int .i64 p0_2, .slice a_p0_3 p0_3.length c_p0_3]⟩], [⟨b5, 24, [.int .i64 p1_0, .int .i64 p1_1, .int .i64 p1_2, .slice a_p1_3 p1_3.length c_p1_3]⟩], [⟨b6, 24, [.int .i64 0, .int .i64 0, .int .i64 0, .slice none 0 0]⟩]]) ?_ (fun hk10 => ?_)
    · refine WK_cond (b := s_2) rfl (fun hb11 => ?_) (fun hb11 => ?_)
      · have hm := ifT hb11 hm
        refine WK_seq ?_
        refine WK_region ?_
        refine WO_pure tbok 1 [(2, .slice a_p2 p2.length c_p2), (3, .pointer (some ⟨b4, 0, none⟩)), (4, .pointer (some ⟨b5, 0, none⟩)), (6, .pointer (some ⟨b6, 0, none⟩)), (7, .int .i64 0), (29, .agg #[.int .i64 0, .int .i64 0, .int .i64 0, .slice none 0 0])] rfl ⟨rfl, rfl, rfl, rfl, rfl, rfl, trivial⟩ ?_
        refine WO_storeB tbok 2 [.int .i64 0, .int .i64 0, .int .i64 0, .slice none 0 0] rfl rfl rfl rfl rfl rfl rfl ?_
        refine WO.cls (C' := St w0 m m [[⟨b4, 24, [.int .i64 p0_0, .int .i64 p0_1, .int .i64 p0_2, .slice a_p0_3 p0_3.length c_p0_3]⟩], [⟨b5, 24, [.int .i64 p1_0, .int .i64 p1_1, .int .i64 p1_2, .slice a_p1_3 p1_3.length c_p1_3]⟩], [⟨b6, 24, [.int .i64 0, .int .i64 0, .int .i64 0, .slice none 0 0]⟩]]) (fun _ h => h) ?_
        refine WO_pure tbok 1 [(2, .slice a_p2 p2.length c_p2), (3, .pointer (some ⟨b4, 0, none⟩)), (4, .pointer (some ⟨b5, 0, none⟩)), (6, .pointer (some ⟨b6, 0, none⟩)), (7, .int .i64 11)] rfl ⟨rfl, rfl, rfl, rfl, rfl, trivial⟩ ?_
        refine WO_end ?_
        cases hm
        exact WK_ret (ret_out (L := []) (RLc_cell tbok 2 rfl rfl rfl (RLc_tmp rfl RLc_nil)) (List.nil_sublist _) ⟨none, 0, 0, rfl, (OwnE.nil none)⟩)
      · have hm := ifF hb11 hm
        refine WK_skip ?_
        refine WK_seq ?_
        obtain ⟨⟨l_3, s_4, s_5, s_6⟩, hx16, hm⟩ := bind_some hm
        refine WK_join (β := Option Addr × Nat × List Ent × Nat) (fun p => OwnE 3 1 (I1 .i64) (.slice p.1 ((l_3).length) p.2.1) l_3 p.2.2.1) (fun p => [(2, .slice a_p2 p2.length c_p2), (3, .pointer (some ⟨b4, 0, none⟩)), (6, .pointer (some ⟨b6, 0, none⟩)), (7, .int .i64 0), (9, .pointer (some ⟨p.2.2.2, 0, none⟩))]) (fun p => St w0 m m [[⟨b4, 24, [.int .i64 p0_0, .int .i64 p0_1, .int .i64 p0_2, .slice a_p0_3 p0_3.length c_p0_3]⟩], [⟨b5, 24, [.int .i64 p1_0, .int .i64 p1_1, .int .i64 p1_2, .slice a_p1_3 p1_3.length c_p1_3]⟩], [⟨b6, 24, [.int .i64 0, .int .i64 0, .int .i64 0, .slice none 0 0]⟩], [⟨p.2.2.2, 24, [.int .i64 s_4, .int .i64 s_5, .int .i64 s_6, .slice p.1 ((l_3).length) p.2.1]⟩], p.2.2.1]) ?_ (fun hk17 => ?_)
        · rintro ⟨a12, c13, L14, b15⟩ hL14
          refine WK.sub (e' := [(2, .slice a_p2 p2.length c_p2), (3, .pointer (some ⟨b4, 0, none⟩)), (6, .pointer (some ⟨b6, 0, none⟩)), (7, .int .i64 0), (9, .pointer (some ⟨b15, 0, none⟩))]) ⟨rfl, rfl, rfl, rfl, rfl, trivial⟩ (WK.cls (C' := St w0 m m [[⟨b4, 24, [.int .i64 p0_0, .int .i64 p0_1, .int .i64 p0_2, .slice a_p0_3 p0_3.length c_p0_3]⟩], [⟨b5, 24, [.int .i64 p1_0, .int .i64 p1_1, .int .i64 p1_2, .slice a_p1_3 p1_3.length c_p1_3]⟩], [⟨b6, 24, [.int .i64 0, .int .i64 0, .int .i64 0, .slice none 0 0]⟩], [⟨b15, 24, [.int .i64 s_4, .int .i64 s_5, .int .i64 s_6, .slice a12 ((l_3).length) c13]⟩], L14]) (fun _ h => h) ?_)
          refine WK_seq ?_
          refine WK_seq ?_
          refine WK_region ?_
          refine WO_pure tbok 3 [(3, .pointer (some ⟨b4, 0, none⟩)), (6, .pointer (some ⟨b6, 0, none⟩)), (7, .int .i64 0), (9, .pointer (some ⟨b15, 0, none⟩)), (40, .slice a_p2 p2.length c_p2), (41, .int .i64 (p2.length : Int)), (42, .int .i64 0)] rfl ⟨rfl, rfl, rfl, rfl, rfl, rfl, rfl, trivial⟩ ?_
          refine WO_end ?_
          obtain ⟨x22, hx23, hm⟩ := bind_some hm
          refine WK_join (β := (List Int) × (List Ent)) (fun p => p.1 = x22 ∧ OwnE 3 1 (I1 .i64) (.slice a12 ((l_3).length) c13) p.1 p.2) (fun p => [(6, .pointer (some ⟨b6, 0, none⟩)), (7, .int .i64 0), (9, .pointer (some ⟨b15, 0, none⟩))]) (fun p => St w0 m m [[⟨b4, 24, [.int .i64 p0_0, .int .i64 p0_1, .int .i64 p0_2, .slice a_p0_3 p0_3.length c_p0_3]⟩], [⟨b5, 24, [.int .i64 p1_0, .int .i64 p1_1, .int .i64 p1_2, .slice a_p1_3 p1_3.length c_p1_3]⟩], [⟨b6, 24, [.int .i64 0, .int .i64 0, .int .i64 0, .slice none 0 0]⟩], [⟨b15, 24, [.int .i64 s_4, .int .i64 s_5, .int .i64 s_6, .slice a12 ((l_3).length) c13]⟩], p.2]) ?_ (fun hk24 => ?_)
          · rintro ⟨l_9, L21⟩ ⟨hq30, hL21⟩
            subst hq30
            refine WK.sub (e' := [(6, .pointer (some ⟨b6, 0, none⟩)), (7, .int .i64 0), (9, .pointer (some ⟨b15, 0, none⟩))]) ⟨rfl, rfl, rfl, trivial⟩ (WK.cls (C' := St w0 m m [[⟨b4, 24, [.int .i64 p0_0, .int .i64 p0_1, .int .i64 p0_2, .slice a_p0_3 p0_3.length c_p0_3]⟩], [⟨b5, 24, [.int .i64 p1_0, .int .i64 p1_1, .int .i64 p1_2, .slice a_p1_3 p1_3.length c_p1_3]⟩], [⟨b6, 24, [.int .i64 0, .int .i64 0, .int .i64 0, .slice none 0 0]⟩], [⟨b15, 24, [.int .i64 s_4, .int .i64 s_5, .int .i64 s_6, .slice a12 ((l_3).length) c13]⟩], L21]) (fun _ h => h) ?_)
            refine WK_seq ?_
            refine WK_region ?_
            refine WO_loadB tbok 3 rfl rfl rfl rfl (fun _ h => h) rfl rfl ?_
            refine WO_storeB tbok 2 [.int .i64 s_4, .int .i64 s_5, .int .i64 s_6, .slice a12 ((l_3).length) c13] rfl rfl rfl rfl rfl rfl rfl ?_
            refine WO.cls (C' := St w0 m m [[⟨b4, 24, [.int .i64 p0_0, .int .i64 p0_1, .int .i64 p0_2, .slice a_p0_3 p0_3.length c_p0_3]⟩], [⟨b5, 24, [.int .i64 p1_0, .int .i64 p1_1, .int .i64 p1_2, .slice a_p1_3 p1_3.length c_p1_3]⟩], [⟨b6, 24, [.int .i64 s_4, .int .i64 s_5, .int .i64 s_6, .slice a12 ((l_3).length) c13]⟩], [⟨b15, 24, [.int .i64 s_4, .int .i64 s_5, .int .i64 s_6, .slice a12 ((l_3).length) c13]⟩], L21]) (fun _ h => h) ?_
            refine WO_pure tbok 1 [(6, .pointer (some ⟨b6, 0, none⟩)), (7, .int .i64 0)] rfl ⟨rfl, rfl, trivial⟩ ?_
            refine WO_end ?_
            cases hm
            exact WK_ret (ret_out (L := L21) (RLc_cell tbok 2 rfl rfl rfl (RLc_tmp rfl RLc_nil)) (seg_sub 4 rfl) ⟨a12, _, c13, rfl, hL21⟩)
          · refine WK_block ?_
            refine WK_loop (S := List Int × Int) (G := List Ent) (fun s => seam_Mosaic_s1 p0_0 p0_3 p2 s.1 s.2) (fun s g => [(3, .pointer (some ⟨b4, 0, none⟩)), (6, .pointer (some ⟨b6, 0, none⟩)), (7, .int .i64 0), (9, .pointer (some ⟨b15, 0, none⟩)), (40, .slice a_p2 p2.length c_p2), (41, .int .i64 (p2.length : Int)), (42, .int .i64 s.2)]) (fun s g => St w0 m m [[⟨b4, 24, [.int .i64 p0_0, .int .i64 p0_1, .int .i64 p0_2, .slice a_p0_3 p0_3.length c_p0_3]⟩], [⟨b5, 24, [.int .i64 p1_0, .int .i64 p1_1, .int .i64 p1_2, .slice a_p1_3 p1_3.length c_p1_3]⟩], [⟨b6, 24, [.int .i64 0, .int .i64 0, .int .i64 0, .slice none 0 0]⟩], [⟨b15, 24, [.int .i64 s_4, .int .i64 s_5, .int .i64 s_6, .slice a12 ((l_3).length) c13]⟩], g]) (fun s g => OwnE 3 1 (I1 .i64) (.slice a12 ((l_3).length) c13) s.1 g) FUEL (l_3, 0) L14 x22 hx23 hL14 ⟨rfl, rfl, rfl, rfl, rfl, rfl, rfl, trivial⟩ (fun _ h => h) ?_
            rintro ⟨l_7, s_8⟩ L19 o26 fl27 hm25 hL19 hn28 hd29
            have hm25 : seam_Mosaic_s1 p0_0 p0_3 p2 l_7 s_8 = some o26 := hm25
            unfold seam_Mosaic_s1 at hm25
            refine WK.sub (e' := [(3, .pointer (some ⟨b4, 0, none⟩)), (6, .pointer (some ⟨b6, 0, none⟩)), (7, .int .i64 0), (9, .pointer (some ⟨b15, 0, none⟩)), (40, .slice a_p2 p2.length c_p2), (41, .int .i64 (p2.length : Int)), (42, .int .i64 s_8)]) ⟨rfl, rfl, rfl, rfl, rfl, rfl, rfl, trivial⟩ (WK.cls (C' := St w0 m m [[⟨b4, 24, [.int .i64 p0_0, .int .i64 p0_1, .int .i64 p0_2, .slice a_p0_3 p0_3.length c_p0_3]⟩], [⟨b5, 24, [.int .i64 p1_0, .int .i64 p1_1, .int .i64 p1_2, .slice a_p1_3 p1_3.length c_p1_3]⟩], [⟨b6, 24, [.int .i64 0, .int .i64 0, .int .i64 0, .slice none 0 0]⟩], [⟨b15, 24, [.int .i64 s_4, .int .i64 s_5, .int .i64 s_6, .slice a12 ((l_3).length) c13]⟩], L19]) (fun _ h => h) ?_)
            refine WK_seq ?_
            refine WK_region ?_
            refine WO_pure tbok 1 [(3, .pointer (some ⟨b4, 0, none⟩)), (6, .pointer (some ⟨b6, 0, none⟩)), (7, .int .i64 0), (9, .pointer (some ⟨b15, 0, none⟩)), (40, .slice a_p2 p2.length c_p2), (41, .int .i64 (p2.length : Int)), (42, .int .i64 s_8), (43, .bool (decide (s_8 < (p2.length : Int))))] rfl ⟨rfl, rfl, rfl, rfl, rfl, rfl, rfl, rfl, trivial⟩ ?_
            refine WO_end ?_
            refine WK_seq ?_
            refine WK_cond (b := decide (s_8 < (p2.length : Int))) rfl (fun hb31 => ?_) (fun hb31 => ?_)
            · have hm25 := ifT hb31 hm25
              refine WK_skip ?_
              refine WK_seq ?_
              refine WK_block ?_
              refine WK_seq ?_
              refine WK_region ?_
              refine WO_pure tbok 1 [(3, .pointer (some ⟨b4, 0, none⟩)), (6, .pointer (some ⟨b6, 0, none⟩)), (7, .int .i64 0), (9, .pointer (some ⟨b15, 0, none⟩)), (40, .slice a_p2 p2.length c_p2), (41, .int .i64 (p2.length : Int)), (42, .int .i64 s_8), (44, .int .i64 s_8)] rfl ⟨rfl, rfl, rfl, rfl, rfl, rfl, rfl, rfl, trivial⟩ ?_
              obtain ⟨v_10, hy32, hm25⟩ := bind_some hm25
              obtain ⟨hc33, hy32⟩ := ix_some hy32
              refine WO_index tbok rfl rfl rfl rfl rfl rfl rfl rfl (SlR.addr h_p2) hc33 ?_
              refine WO_loadE tbok rfl rfl rfl rfl (fun _ h => St.sat h) h_p2 hy32 rfl ?_
              refine WO_pure tbok 2 [(3, .pointer (some ⟨b4, 0, none⟩)), (6, .pointer (some ⟨b6, 0, none⟩)), (7, .int .i64 0), (9, .pointer (some ⟨b15, 0, none⟩)), (10, .int .i64 s_8), (11, .int .i64 v_10), (40, .slice a_p2 p2.length c_p2), (41, .int .i64 (p2.length : Int)), (42, .int .i64 s_8)] rfl ⟨rfl, rfl, rfl, rfl, rfl, rfl, rfl, rfl, rfl, trivial⟩ ?_
              refine WO_end ?_
              refine WK_draw 20 [0, 1, 2, 3, 4, 5, 6, 7, 8, 9, 10, 11, 12, 13, 14, 15, 16, 17, 18, 19] follows_ok (by kernel_rfl) St_closed ?_
              refine WO_pure tbok 1 [(3, .pointer (some ⟨b4, 0, none⟩)), (6, .pointer (some ⟨b6, 0, none⟩)), (7, .int .i64 0), (9, .pointer (some ⟨b15, 0, none⟩)), (10, .int .i64 s_8), (11, .int .i64 v_10), (40, .slice a_p2 p2.length c_p2), (41, .int .i64 (p2.length : Int)), (42, .int .i64 s_8), (47, .pointer (some ⟨b15, 3, none⟩))] rfl ⟨rfl, rfl, rfl, rfl, rfl, rfl, rfl, rfl, rfl, rfl, trivial⟩ ?_
              refine WO_loadB tbok 3 rfl rfl rfl rfl (fun _ h => h) rfl rfl ?_
              refine WO_pure tbok 2 [(3, .pointer (some ⟨b4, 0, none⟩)), (6, .pointer (some ⟨b6, 0, none⟩)), (7, .int .i64 0), (9, .pointer (some ⟨b15, 0, none⟩)), (10, .int .i64 s_8), (11, .int .i64 v_10), (40, .slice a_p2 p2.length c_p2), (41, .int .i64 (p2.length : Int)), (42, .int .i64 s_8), (48, .slice a12 ((l_3).length) c13), (49, .int .i64 s_8), (50, .pointer (some ⟨b4, 0, none⟩))] rfl ⟨rfl, rfl, rfl, rfl, rfl, rfl, rfl, rfl, rfl, rfl, rfl, rfl, trivial⟩ ?_
              refine WO_loadB tbok 0 rfl rfl rfl rfl (fun _ h => h) rfl rfl ?_
              refine WO_pure tbok 1 [(3, .pointer (some ⟨b4, 0, none⟩)), (6, .pointer (some ⟨b6, 0, none⟩)), (7, .int .i64 0), (9, .pointer (some ⟨b15, 0, none⟩)), (10, .int .i64 s_8), (11, .int .i64 v_10), (40, .slice a_p2 p2.length c_p2), (41, .int .i64 (p2.length : Int)), (42, .int .i64 s_8), (48, .slice a12 ((l_3).length) c13), (52, .int .i64 (w64 (s_8 * p0_0)))] rfl ⟨rfl, rfl, rfl, rfl, rfl, rfl, rfl, rfl, rfl, rfl, rfl, trivial⟩ ?_
              obtain ⟨hc34, hm25⟩ := chk_some hm25
              have hc34 : 0 ≤ (w64 (s_8 * p0_0) : Int) ∧ (w64 (s_8 * p0_0) : Int) ≤ (l_7.length : Int) ∧ (l_7.length : Int) ≤ (l_7.length : Int) := hc34
              have hz38 : OwnE 3 1 (I1 .i64) (.slice a12 ((l_3).length) c13) l_7 L19 := hL19
              refine WO_sliceV (E := (I1 .i64)) tbok (fun _ => rfl) (some (w64 (s_8 * p0_0) : Int)) none (w64 (s_8 * p0_0) : Int).toNat l_7.length rfl rfl rfl rfl rfl rfl rfl rfl rfl rfl hz38 (by simp only [Option.getD_some] <;> omega) (by have := OwnE.qlen hz38; simp only [Option.getD_none] <;> omega) (by omega) (by omega) (fun a35 c36 h37 h37d => ?_)
              refine WO_pure tbok 1 [(3, .pointer (some ⟨b4, 0, none⟩)), (6, .pointer (some ⟨b6, 0, none⟩)), (7, .int .i64 0), (9, .pointer (some ⟨b15, 0, none⟩)), (10, .int .i64 s_8), (11, .int .i64 v_10), (40, .slice a_p2 p2.length c_p2), (41, .int .i64 (p2.length : Int)), (42, .int .i64 s_8), (53, .slice a35 (((l_7.take l_7.length).drop (w64 (s_8 * p0_0) : Int).toNat).length) c36), (54, .pointer (some ⟨b4, 3, none⟩))] rfl ⟨rfl, rfl, rfl, rfl, rfl, rfl, rfl, rfl, rfl, rfl, rfl, trivial⟩ ?_
              refine WO_loadB tbok 0 rfl rfl rfl rfl (fun _ h => h) rfl rfl ?_
              refine WO_pure tbok 2 [(3, .pointer (some ⟨b4, 0, none⟩)), (6, .pointer (some ⟨b6, 0, none⟩)), (7, .int .i64 0), (9, .pointer (some ⟨b15, 0, none⟩)), (10, .int .i64 s_8), (11, .int .i64 v_10), (40, .slice a_p2 p2.length c_p2), (41, .int .i64 (p2.length : Int)), (42, .int .i64 s_8), (53, .slice a35 (((l_7.take l_7.length).drop (w64 (s_8 * p0_0) : Int).toNat).length) c36), (55, .slice a_p0_3 p0_3.length c_p0_3), (56, .int .i64 s_8), (57, .pointer (some ⟨b4, 0, none⟩))] rfl ⟨rfl, rfl, rfl, rfl, rfl, rfl, rfl, rfl, rfl, rfl, rfl, rfl, rfl, trivial⟩ ?_
              refine WO_loadB tbok 0 rfl rfl rfl rfl (fun _ h => h) rfl rfl ?_
              refine WO_pure tbok 3 [(3, .pointer (some ⟨b4, 0, none⟩)), (6, .pointer (some ⟨b6, 0, none⟩)), (7, .int .i64 0), (9, .pointer (some ⟨b15, 0, none⟩)), (11, .int .i64 v_10), (40, .slice a_p2 p2.length c_p2), (41, .int .i64 (p2.length : Int)), (42, .int .i64 s_8), (53, .slice a35 (((l_7.take l_7.length).drop (w64 (s_8 * p0_0) : Int).toNat).length) c36), (55, .slice a_p0_3 p0_3.length c_p0_3), (59, .int .i64 (w64 (s_8 * p0_0))), (60, .int .i64 s_8), (61, .pointer (some ⟨b4, 0, none⟩))] rfl ⟨rfl, rfl, rfl, rfl, rfl, rfl, rfl, rfl, rfl, rfl, rfl, rfl, rfl, trivial⟩ ?_
              refine WO_loadB tbok 0 rfl rfl rfl rfl (fun _ h => h) rfl rfl ?_
              refine WO_pure tbok 3 [(3, .pointer (some ⟨b4, 0, none⟩)), (6, .pointer (some ⟨b6, 0, none⟩)), (7, .int .i64 0), (9, .pointer (some ⟨b15, 0, none⟩)), (40, .slice a_p2 p2.length c_p2), (41, .int .i64 (p2.length : Int)), (42, .int .i64 s_8), (53, .slice a35 (((l_7.take l_7.length).drop (w64 (s_8 * p0_0) : Int).toNat).length) c36), (55, .slice a_p0_3 p0_3.length c_p0_3), (59, .int .i64 (w64 (s_8 * p0_0))), (65, .int .i64 (w64 ((w64 (s_8 * p0_0)) + v_10)))] rfl ⟨rfl, rfl, rfl, rfl, rfl, rfl, rfl, rfl, rfl, rfl, rfl, trivial⟩ ?_
              obtain ⟨hc40, hm25⟩ := chk_some hm25
              have hc40 : 0 ≤ (w64 (s_8 * p0_0) : Int) ∧ (w64 (s_8 * p0_0) : Int) ≤ (w64 ((w64 (s_8 * p0_0)) + v_10) : Int) ∧ (w64 ((w64 (s_8 * p0_0)) + v_10) : Int) ≤ (p0_3.length : Int) := hc40
              have hz44 : SlR (FE (I1 .i64)) 1 m (.slice a_p0_3 p0_3.length c_p0_3) p0_3 := h_p0_3
              refine WO_slice tbok (some (w64 (s_8 * p0_0) : Int)) (some (w64 ((w64 (s_8 * p0_0)) + v_10) : Int)) none (w64 (s_8 * p0_0) : Int).toNat (w64 ((w64 (s_8 * p0_0)) + v_10) : Int).toNat rfl rfl rfl rfl rfl rfl rfl rfl rfl rfl rfl hz44 (by simp only [Option.getD_some] <;> omega) (by simp only [Option.getD_some] <;> omega) (fun q hq => by cases hq) (by omega) (by omega) (fun hh => by cases hh) (fun a41 c42 h43 => ?_)
              refine WO_tail ?_
              have hz47 : OwnE 3 1 (I1 .i64) (.slice a12 ((l_3).length) c13) l_7 L19 := hL19
              refine WO_copy (E := (I1 .i64)) tbok (fun _ => rfl) (fun _ => rfl) 4 ((w64 (s_8 * p0_0) : Int).toNat) ((p0_3.take (w64 ((w64 (s_8 * p0_0)) + v_10) : Int).toNat).drop (w64 (s_8 * p0_0) : Int).toNat) (((l_7.take l_7.length).drop (w64 (s_8 * p0_0) : Int).toNat).length) rfl rfl rfl rfl rfl rfl rfl rfl rfl rfl hz47 rfl rfl (by rw [List.length_drop, List.length_take]; omega) h37d (fun w hw => ⟨_, hw.sat, h43⟩) (fun L46 hL46 => ?_)
              refine WO.cls (C' := St w0 m m [[⟨b4, 24, [.int .i64 p0_0, .int .i64 p0_1, .int .i64 p0_2, .slice a_p0_3 p0_3.length c_p0_3]⟩], [⟨b5, 24, [.int .i64 p1_0, .int .i64 p1_1, .int .i64 p1_2, .slice a_p1_3 p1_3.length c_p1_3]⟩], [⟨b6, 24, [.int .i64 0, .int .i64 0, .int .i64 0, .slice none 0 0]⟩], [⟨b15, 24, [.int .i64 s_4, .int .i64 s_5, .int .i64 s_6, .slice a12 ((l_3).length) c13]⟩], L46]) (fun _ h => h) ?_
              refine WO_end ?_
              refine WK_blk ?_
              refine WK_region ?_
              refine WO_pure tbok 2 [(3, .pointer (some ⟨b4, 0, none⟩)), (6, .pointer (some ⟨b6, 0, none⟩)), (7, .int .i64 0), (9, .pointer (some ⟨b15, 0, none⟩)), (40, .slice a_p2 p2.length c_p2), (41, .int .i64 (p2.length : Int)), (42, .int .i64 (w64 (s_8 + 1)))] rfl ⟨rfl, rfl, rfl, rfl, rfl, rfl, rfl, trivial⟩ ?_
              refine WO_end ?_
              cases hm25
              refine WK.sub ?_ (WK.cls (fun _ h => h) (hn28 _ L46 rfl hL46))
              exact ⟨rfl, rfl, rfl, rfl, rfl, rfl, rfl, trivial⟩
            · have hm25 := ifF hb31 hm25
              refine WK_exit rfl ?_
              cases hm25
              refine WK.sub ?_ (WK.cls (fun _ h => h) (hk24 (l_7, L19) ⟨(hd29 _ rfl), hL19⟩))
              exact ⟨rfl, rfl, rfl, trivial⟩
        · refine WK_plan 11 [0, 2, 4, 6] (.run [1, 3, 5, 7] (.alt 8 (.run [9, 10] .fin) (.alt 10 (.run [8, 9] .fin) .none))) follows_ok (by kernel_rfl) St_closed ?_
          refine WO_pure tbok 4 [(2, .slice a_p2 p2.length c_p2), (3, .pointer (some ⟨b4, 0, none⟩)), (6, .pointer (some ⟨b6, 0, none⟩)), (7, .int .i64 0), (30, .pointer (some ⟨b4, 0, none⟩)), (32, .pointer (some ⟨b4, 1, none⟩)), (34, .pointer (some ⟨b4, 2, none⟩)), (36, .pointer (some ⟨b5, 3, none⟩))] rfl ⟨rfl, rfl, rfl, rfl, rfl, rfl, rfl, rfl, trivial⟩ ?_
          refine WO_plan ?_
          refine WT_run ?_
          refine WO_loadB tbok 0 rfl rfl rfl rfl (fun _ h => h) rfl rfl ?_
          refine WO_loadB tbok 0 rfl rfl rfl rfl (fun _ h => h) rfl rfl ?_
          refine WO_loadB tbok 0 rfl rfl rfl rfl (fun _ h => h) rfl rfl ?_
          refine WO_loadB tbok 1 rfl rfl rfl rfl (fun _ h => h) rfl rfl ?_
          refine WO_tree rfl ?_
          refine WT_alt rfl ?_ ?_
          · obtain ⟨y_11, hc49, hx16⟩ := bind_some hx16
            refine WO_call1 (slices_Clone_sint_Q y_11) rfl rfl St_closed rfl rfl rfl rfl ⟨42, #[], #[], rfl, callable_42, fun w hw => ⟨_, hw.sat, slices_Clone_sint_walk h_p1_3 hc49⟩⟩ (fun v54 L53 hq => ?_)
            obtain ⟨a50, qa50, c51, rfl, hL53⟩ := hq
            obtain rfl := OwnE.qlen hL53
            refine WO.cls (C' := St w0 m m [[⟨b4, 24, [.int .i64 p0_0, .int .i64 p0_1, .int .i64 p0_2, .slice a_p0_3 p0_3.length c_p0_3]⟩], [⟨b5, 24, [.int .i64 p1_0, .int .i64 p1_1, .int .i64 p1_2, .slice a_p1_3 p1_3.length c_p1_3]⟩], [⟨b6, 24, [.int .i64 0, .int .i64 0, .int .i64 0, .slice none 0 0]⟩], L53]) (fun _ h => h) ?_
            refine WO_tree rfl ?_
            refine WT_run ?_
            refine WO_pure tbok 1 [(2, .slice a_p2 p2.length c_p2), (3, .pointer (some ⟨b4, 0, none⟩)), (6, .pointer (some ⟨b6, 0, none⟩)), (7, .int .i64 0), (39, .agg #[.int .i64 p0_0, .int .i64 p0_1, .int .i64 p0_2, .slice a50 ((y_11).length) c51])] rfl ⟨rfl, rfl, rfl, rfl, rfl, trivial⟩ ?_
            refine WO_alloc tbok [.int .i64 0, .int .i64 0, .int .i64 0, .slice none 0 0] rfl rfl St_closed rfl rfl rfl rfl (fun b55 => ?_)
            refine WO.cls (C' := St w0 m m [[⟨b4, 24, [.int .i64 p0_0, .int .i64 p0_1, .int .i64 p0_2, .slice a_p0_3 p0_3.length c_p0_3]⟩], [⟨b5, 24, [.int .i64 p1_0, .int .i64 p1_1, .int .i64 p1_2, .slice a_p1_3 p1_3.length c_p1_3]⟩], [⟨b6, 24, [.int .i64 0, .int .i64 0, .int .i64 0, .slice none 0 0]⟩], L53, [⟨b55, 24, [.int .i64 0, .int .i64 0, .int .i64 0, .slice none 0 0]⟩]]) (fun _ h => h) ?_
            refine WO_tree rfl ?_
            refine WT_fin ?_
            refine WO_storeB tbok 4 [.int .i64 p0_0, .int .i64 p0_1, .int .i64 p0_2, .slice a50 ((y_11).length) c51] rfl rfl rfl rfl rfl rfl rfl ?_
            refine WO.cls (C' := St w0 m m [[⟨b4, 24, [.int .i64 p0_0, .int .i64 p0_1, .int .i64 p0_2, .slice a_p0_3 p0_3.length c_p0_3]⟩], [⟨b5, 24, [.int .i64 p1_0, .int .i64 p1_1, .int .i64 p1_2, .slice a_p1_3 p1_3.length c_p1_3]⟩], [⟨b6, 24, [.int .i64 0, .int .i64 0, .int .i64 0, .slice none 0 0]⟩], L53, [⟨b55, 24, [.int .i64 p0_0, .int .i64 p0_1, .int .i64 p0_2, .slice a50 ((y_11).length) c51]⟩]]) (fun _ h => h) ?_
            refine WO_end ?_
            refine WK.cls (fun _ h => h.perm (Ls' := [[⟨b4, 24, [.int .i64 p0_0, .int .i64 p0_1, .int .i64 p0_2, .slice a_p0_3 p0_3.length c_p0_3]⟩], [⟨b5, 24, [.int .i64 p1_0, .int .i64 p1_1, .int .i64 p1_2, .slice a_p1_3 p1_3.length c_p1_3]⟩], [⟨b6, 24, [.int .i64 0, .int .i64 0, .int .i64 0, .slice none 0 0]⟩], [⟨b55, 24, [.int .i64 p0_0, .int .i64 p0_1, .int .i64 p0_2, .slice a50 ((y_11).length) c51]⟩], L53]) (List.Perm.flatten (List.Perm.cons _ (List.Perm.cons _ (List.Perm.cons _ (List.Perm.swap _ _ _)))))) ?_
            cases hx16
            refine WK.sub ?_ (hk17 ⟨a50, c51, L53, b55⟩ hL53)
            exact ⟨rfl, rfl, rfl, rfl, rfl, trivial⟩
          · refine WT_alt rfl ?_ ?_
            · refine WO_alloc tbok [.int .i64 0, .int .i64 0, .int .i64 0, .slice none 0 0] rfl rfl St_closed rfl rfl rfl rfl (fun b56 => ?_)
              refine WO.cls (C' := St w0 m m [[⟨b4, 24, [.int .i64 p0_0, .int .i64 p0_1, .int .i64 p0_2, .slice a_p0_3 p0_3.length c_p0_3]⟩], [⟨b5, 24, [.int .i64 p1_0, .int .i64 p1_1, .int .i64 p1_2, .slice a_p1_3 p1_3.length c_p1_3]⟩], [⟨b6, 24, [.int .i64 0, .int .i64 0, .int .i64 0, .slice none 0 0]⟩], [⟨b56, 24, [.int .i64 0, .int .i64 0, .int .i64 0, .slice none 0 0]⟩]]) (fun _ h => h) ?_
              refine WO_tree rfl ?_
              refine WT_run ?_
              obtain ⟨y_11, hc57, hx16⟩ := bind_some hx16
              refine WO_call1 (slices_Clone_sint_Q y_11) rfl rfl St_closed rfl rfl rfl rfl ⟨42, #[], #[], rfl, callable_42, fun w hw => ⟨_, hw.sat, slices_Clone_sint_walk h_p1_3 hc57⟩⟩ (fun v62 L61 hq => ?_)
              obtain ⟨a58, qa58, c59, rfl, hL61⟩ := hq
              obtain rfl := OwnE.qlen hL61
              refine WO.cls (C' := St w0 m m [[⟨b4, 24, [.int .i64 p0_0, .int .i64 p0_1, .int .i64 p0_2, .slice a_p0_3 p0_3.length c_p0_3]⟩], [⟨b5, 24, [.int .i64 p1_0, .int .i64 p1_1, .int .i64 p1_2, .slice a_p1_3 p1_3.length c_p1_3]⟩], [⟨b6, 24, [.int .i64 0, .int .i64 0, .int .i64 0, .slice none 0 0]⟩], [⟨b56, 24, [.int .i64 0, .int .i64 0, .int .i64 0, .slice none 0 0]⟩], L61]) (fun _ h => h) ?_
              refine WO_pure tbok 1 [(2, .slice a_p2 p2.length c_p2), (3, .pointer (some ⟨b4, 0, none⟩)), (6, .pointer (some ⟨b6, 0, none⟩)), (7, .int .i64 0), (9, .pointer (some ⟨b56, 0, none⟩)), (39, .agg #[.int .i64 p0_0, .int .i64 p0_1, .int .i64 p0_2, .slice a58 ((y_11).length) c59])] rfl ⟨rfl, rfl, rfl, rfl, rfl, rfl, trivial⟩ ?_
              refine WO_tree rfl ?_
              refine WT_fin ?_
              refine WO_storeB tbok 3 [.int .i64 p0_0, .int .i64 p0_1, .int .i64 p0_2, .slice a58 ((y_11).length) c59] rfl rfl rfl rfl rfl rfl rfl ?_
              refine WO.cls (C' := St w0 m m [[⟨b4, 24, [.int .i64 p0_0, .int .i64 p0_1, .int .i64 p0_2, .slice a_p0_3 p0_3.length c_p0_3]⟩], [⟨b5, 24, [.int .i64 p1_0, .int .i64 p1_1, .int .i64 p1_2, .slice a_p1_3 p1_3.length c_p1_3]⟩], [⟨b6, 24, [.int .i64 0, .int .i64 0, .int .i64 0, .slice none 0 0]⟩], [⟨b56, 24, [.int .i64 p0_0, .int .i64 p0_1, .int .i64 p0_2, .slice a58 ((y_11).length) c59]⟩], L61]) (fun _ h => h) ?_
              refine WO_end ?_
              cases hx16
              refine WK.sub ?_ (hk17 ⟨a58, c59, L61, b56⟩ hL61)
              exact ⟨rfl, rfl, rfl, rfl, rfl, trivial⟩
            · exact WT_none
    · refine WK_region ?_
      refine WO_pure tbok 3 [(2, .slice a_p2 p2.length c_p2), (3, .pointer (some ⟨b4, 0, none⟩)), (4, .pointer (some ⟨b5, 0, none⟩)), (6, .pointer (some ⟨b6, 0, none⟩)), (7, .int .i64 0), (20, .int .i64 (p2.length : Int)), (21, .pointer (some ⟨b4, 1, none⟩))] rfl ⟨rfl, rfl, rfl, rfl, rfl, rfl, rfl, trivial⟩ ?_
      refine WO_loadB tbok 0 rfl rfl rfl rfl (fun _ h => h) rfl rfl ?_
      refine WO_pure tbok 2 [(2, .slice a_p2 p2.length c_p2), (3, .pointer (some ⟨b4, 0, none⟩)), (4, .pointer (some ⟨b5, 0, none⟩)), (6, .pointer (some ⟨b6, 0, none⟩)), (7, .int .i64 0), (24, .bool ((p2.length : Int) != p0_1))] rfl ⟨rfl, rfl, rfl, rfl, rfl, rfl, trivial⟩ ?_
      refine WO_split (d := 24) (b := (p2.length : Int) != p0_1) rfl (fun hb63 => ?_) (fun hb63 => ?_)
      · have hx9 := ifT hb63 hx9
        refine WO_pure tbok 2 [(2, .slice a_p2 p2.length c_p2), (3, .pointer (some ⟨b4, 0, none⟩)), (4, .pointer (some ⟨b5, 0, none⟩)), (6, .pointer (some ⟨b6, 0, none⟩)), (7, .int .i64 0), (24, .bool true)] rfl ⟨rfl, rfl, rfl, rfl, rfl, rfl, trivial⟩ ?_
        refine WO_skip rfl rfl ?_
        refine WO_pure tbok 1 [(2, .slice a_p2 p2.length c_p2), (3, .pointer (some ⟨b4, 0, none⟩)), (4, .pointer (some ⟨b5, 0, none⟩)), (6, .pointer (some ⟨b6, 0, none⟩)), (7, .int .i64 0), (28, .bool true)] rfl ⟨rfl, rfl, rfl, rfl, rfl, rfl, trivial⟩ ?_
        refine WO_end ?_
        cases hx9
        refine WK.sub ?_ (WK.cls (fun _ h => h) hk10)
        exact ⟨rfl, rfl, rfl, rfl, rfl, rfl, trivial⟩
      · have hx9 := ifF hb63 hx9
        refine WO_pure tbok 2 [(2, .slice a_p2 p2.length c_p2), (3, .pointer (some ⟨b4, 0, none⟩)), (4, .pointer (some ⟨b5, 0, none⟩)), (6, .pointer (some ⟨b6, 0, none⟩)), (7, .int .i64 0), (24, .bool false), (25, .slice a_p2 p2.length c_p2), (26, .func (.func 41) #[] #[.pointer (some ⟨b4, 0, none⟩)])] rfl ⟨rfl, rfl, rfl, rfl, rfl, rfl, rfl, rfl, trivial⟩ ?_
        obtain ⟨y_13, hc64, hx9⟩ := bind_some hx9
        refine WO_call0 (.bool y_13) rfl rfl trivial rfl rfl rfl rfl St_closed ⟨40, #[], #[], rfl, callable_40, fun w hw => ⟨_, hw.satV, slices_ContainsFunc_sint_walk (h_p2.mono (mono_FE _) hw.leV) (fun m1 hm1 z_12 _ h => specV_cap callable_41 (seam_Mosaic_c1_walk (hm1 _ _ (hw.memV (i := 0) rfl (List.mem_singleton.2 rfl))) ((h_p0_3.mono (mono_FE _) hw.leV).mono (mono_FE _) hm1) h)) hc64⟩⟩ ?_
        refine WO_pure tbok 1 [(2, .slice a_p2 p2.length c_p2), (3, .pointer (some ⟨b4, 0, none⟩)), (4, .pointer (some ⟨b5, 0, none⟩)), (6, .pointer (some ⟨b6, 0, none⟩)), (7, .int .i64 0), (28, .bool y_13)] rfl ⟨rfl, rfl, rfl, rfl, rfl, rfl, trivial⟩ ?_
        refine WO_end ?_
        cases hx9
        refine WK.sub ?_ (WK.cls (fun _ h => h) hk10)
        exact ⟨rfl, rfl, rfl, rfl, rfl, rfl, trivial⟩
def raster_made_Q (r : Int × Int × Int × List Int) : Value → List Ent → Prop := fun v L => ∃ (a0 : Option Addr) (q0 c0 : Nat), v = .agg #[.int .i64 r.1, .int .i64 r.2.1, .int .i64 r.2.2.1, .slice a0 q0 c0] ∧ OwnE 3 1 (I1 .i64) (.slice a0 q0 c0) r.2.2.2 L
theorem raster_made_walk {m : Mu} {p0 : Int} {p1 : Int} {p2 : Int} {p3 : Int → Int → Option Int} {p3v : Value} (hp3 : ∀ (m1 : Mu), Le m m1 → ∀ (u1 : Int), ∀ (u2 : Int), ∀ (r : Int), p3 u1 u2 = some r → SpecV Try.prog p3v [.int .i64 u1, .int .i64 u2] m1 (fun v _ _ => v = .int .i64 r)) {r : Int × Int × Int × List Int} (hm : raster_made p0 p1 p2 p3 = some r) :
    Go.E.Spec Try.prog 44 [.int .i64 p0, .int .i64 p1, .int .i64 p2, p3v] m (fun v _ L => raster_made_Q r v L) := by
  refine Spec_enter Try.func44 rfl rfl rfl (fun w0 => ?_)
  refine WK.sub (e' := [(0, .int .i64 p0), (1, .int .i64 p1), (2, .int .i64 p2), (3, p3v)]) ⟨rfl, rfl, rfl, rfl, trivial⟩ ?_
  refine WK.sub (e' := [(0, .int .i64 p0), (1, .int .i64 p1), (2, .int .i64 p2), (3, p3v)]) ⟨rfl, rfl, rfl, rfl, trivial⟩ ?_
  unfold raster_made at hm
  refine WK_seq ?_
  refine WK_region ?_
  refine WO_alloc tbok [.int .i64 0, .int .i64 0, .int .i64 0, .slice none 0 0] rfl rfl trivial rfl rfl rfl rfl (fun b1 => ?_)
  refine WO.cls (C' := St w0 m m [[⟨b1, 24, [.int .i64 0, .int .i64 0, .int .i64 0, .slice none 0 0]⟩]]) (fun _ h => h) ?_
  refine WO_end ?_
  refine WK_seq ?_
  refine WK_region ?_
  refine WO_pure tbok 6 [(0, .int .i64 p0), (1, .int .i64 p1), (3, p3v), (8, .pointer (some ⟨b1, 0, none⟩)), (12, .int .i64 p0), (13, .int .i64 p1), (14, .int .i64 p2), (17, .int .i64 (w64 (p0 * p1)))] rfl ⟨rfl, rfl, rfl, rfl, rfl, rfl, rfl, rfl, trivial⟩ ?_
  obtain ⟨hc2, hm⟩ := chk_some hm
  refine WO_make (E := (I1 .i64)) tbok (fun _ => rfl) (by decide) (0 : Int) rfl rfl trivial rfl rfl rfl rfl rfl rfl rfl rfl rfl (mk_ok (by decide) hc2) (fun b3 c4 L5 hL5 => ?_)
  refine WO.cls (C' := St w0 m m [[⟨b1, 24, [.int .i64 0, .int .i64 0, .int .i64 0, .slice none 0 0]⟩], L5]) (fun _ h => h) ?_
  refine WO_pure tbok 1 [(0, .int .i64 p0), (1, .int .i64 p1), (3, p3v), (8, .pointer (some ⟨b1, 0, none⟩)), (19, .agg #[.int .i64 p0, .int .i64 p1, .int .i64 p2, .slice (some ⟨b3, 0, none⟩) (([] : List Int).length) c4])] rfl ⟨rfl, rfl, rfl, rfl, rfl, trivial⟩ ?_
  refine WO_alloc tbok [.int .i64 0, .int .i64 0, .int .i64 0, .slice none 0 0] rfl rfl trivial rfl rfl rfl rfl (fun b7 => ?_)
  refine WO.cls (C' := St w0 m m [[⟨b1, 24, [.int .i64 0, .int .i64 0, .int .i64 0, .slice none 0 0]⟩], L5, [⟨b7, 24, [.int .i64 0, .int .i64 0, .int .i64 0, .slice none 0 0]⟩]]) (fun _ h => h) ?_
  refine WO_storeB tbok 2 [.int .i64 p0, .int .i64 p1, .int .i64 p2, .slice (some ⟨b3, 0, none⟩) (([] : List Int).length) c4] rfl rfl rfl rfl rfl rfl rfl ?_
  refine WO.cls (C' := St w0 m m [[⟨b1, 24, [.int .i64 0, .int .i64 0, .int .i64 0, .slice none 0 0]⟩], L5, [⟨b7, 24, [.int .i64 p0, .int .i64 p1, .int .i64 p2, .slice (some ⟨b3, 0, none⟩) (([] : List Int).length) c4]⟩]]) (fun _ h => h) ?_
  refine WO_end ?_
  refine WK_seq ?_
  refine WK_seq ?_
  refine WK_region ?_
  refine WO_pure tbok 2 [(0, .int .i64 p0), (3, p3v), (8, .pointer (some ⟨b1, 0, none⟩)), (9, .pointer (some ⟨b7, 0, none⟩)), (20, .int .i64 p1), (21, .int .i64 0)] rfl ⟨rfl, rfl, rfl, rfl, rfl, rfl, trivial⟩ ?_
  refine WO_end ?_
  obtain ⟨x18, hx19, hm⟩ := bind_some hm
  refine WK_join (β := (List Int) × (Option Addr × Nat × Nat × List Ent)) (fun p => p.1 = x18 ∧ OwnE 3 1 (I1 .i64) (.slice p.2.1 p.2.2.1 p.2.2.2.1) p.1 p.2.2.2.2) (fun p => [(8, .pointer (some ⟨b1, 0, none⟩)), (9, .pointer (some ⟨b7, 0, none⟩))]) (fun p => St w0 m m [[⟨b1, 24, [.int .i64 0, .int .i64 0, .int .i64 0, .slice none 0 0]⟩], p.2.2.2.2, [⟨b7, 24, [.int .i64 p0, .int .i64 p1, .int .i64 p2, .slice p.2.1 p.2.2.1 p.2.2.2.1]⟩]]) ?_ (fun hk20 => ?_)
  · rintro ⟨l_3, ⟨a15, q16, c17, L14⟩⟩ ⟨hq26, hL14⟩
    subst hq26
    have hqq : q16 = l_3.length := OwnE.qlen hL14
    subst hqq
    refine WK.sub (e' := [(8, .pointer (some ⟨b1, 0, none⟩)), (9, .pointer (some ⟨b7, 0, none⟩))]) ⟨rfl, rfl, trivial⟩ (WK.cls (C' := St w0 m m [[⟨b1, 24, [.int .i64 0, .int .i64 0, .int .i64 0, .slice none 0 0]⟩], L14, [⟨b7, 24, [.int .i64 p0, .int .i64 p1, .int .i64 p2, .slice a15 ((l_3).length) c17]⟩]]) (fun _ h => h) ?_)
    refine WK_seq ?_
    refine WK_region ?_
    refine WO_loadB tbok 2 rfl rfl rfl rfl (fun _ h => h) rfl rfl ?_
    refine WO_storeB tbok 0 [.int .i64 p0, .int .i64 p1, .int .i64 p2, .slice a15 ((l_3).length) c17] rfl rfl rfl rfl rfl rfl rfl ?_
    refine WO.cls (C' := St w0 m m [[⟨b1, 24, [.int .i64 p0, .int .i64 p1, .int .i64 p2, .slice a15 ((l_3).length) c17]⟩], L14, [⟨b7, 24, [.int .i64 p0, .int .i64 p1, .int .i64 p2, .slice a15 ((l_3).length) c17]⟩]]) (fun _ h => h) ?_
    refine WO_end ?_
    cases hm
    exact WK_ret (ret_out (L := L14) (RLc_cell tbok 0 rfl rfl rfl RLc_nil) (seg_sub 1 rfl) ⟨a15, _, c17, rfl, hL14⟩)
  · refine WK_block ?_
    refine WK_loop (S := List Int × Int) (G := Option Addr × Nat × Nat × List Ent) (fun s => raster_made_s1 p0 p1 p3 s.1 s.2) (fun s g => [(0, .int .i64 p0), (3, p3v), (8, .pointer (some ⟨b1, 0, none⟩)), (9, .pointer (some ⟨b7, 0, none⟩)), (20, .int .i64 p1), (21, .int .i64 s.2)]) (fun s g => St w0 m m [[⟨b1, 24, [.int .i64 0, .int .i64 0, .int .i64 0, .slice none 0 0]⟩], g.2.2.2, [⟨b7, 24, [.int .i64 p0, .int .i64 p1, .int .i64 p2, .slice g.1 g.2.1 g.2.2.1]⟩]]) (fun s g => OwnE 3 1 (I1 .i64) (.slice g.1 g.2.1 g.2.2.1) s.1 g.2.2.2) FUEL (([] : List Int), 0) (some ⟨b3, 0, none⟩, ([] : List Int).length, c4, L5) x18 hx19 hL5 ⟨rfl, rfl, rfl, rfl, rfl, rfl, trivial⟩ (fun _ h => h) ?_
    rintro ⟨l_1, s_2⟩ ⟨a10, q11, c12, L9⟩ o22 fl23 hm21 hL9 hn24 hd25
    have hm21 : raster_made_s1 p0 p1 p3 l_1 s_2 = some o22 := hm21
    unfold raster_made_s1 at hm21
    have hqq : q11 = l_1.length := OwnE.qlen hL9
    subst hqq
    refine WK.sub (e' := [(0, .int .i64 p0), (3, p3v), (8, .pointer (some ⟨b1, 0, none⟩)), (9, .pointer (some ⟨b7, 0, none⟩)), (20, .int .i64 p1), (21, .int .i64 s_2)]) ⟨rfl, rfl, rfl, rfl, rfl, rfl, trivial⟩ (WK.cls (C' := St w0 m m [[⟨b1, 24, [.int .i64 0, .int .i64 0, .int .i64 0, .slice none 0 0]⟩], L9, [⟨b7, 24, [.int .i64 p0, .int .i64 p1, .int .i64 p2, .slice a10 ((l_1).length) c12]⟩]]) (fun _ h => h) ?_)
    refine WK_seq ?_
    refine WK_region ?_
    refine WO_pure tbok 1 [(0, .int .i64 p0), (3, p3v), (8, .pointer (some ⟨b1, 0, none⟩)), (9, .pointer (some ⟨b7, 0, none⟩)), (20, .int .i64 p1), (21, .int .i64 s_2), (22, .bool (decide (s_2 < p1)))] rfl ⟨rfl, rfl, rfl, rfl, rfl, rfl, rfl, trivial⟩ ?_
    refine WO_end ?_
    refine WK_seq ?_
    refine WK_cond (b := decide (s_2 < p1)) rfl (fun hb27 => ?_) (fun hb27 => ?_)
    · have hm21 := ifT hb27 hm21
      refine WK_skip ?_
      refine WK_seq ?_
      refine WK_block ?_
      refine WK_seq ?_
      refine WK_region ?_
      refine WO_pure tbok 2 [(0, .int .i64 p0), (3, p3v), (8, .pointer (some ⟨b1, 0, none⟩)), (9, .pointer (some ⟨b7, 0, none⟩)), (10, .int .i64 s_2), (20, .int .i64 p1), (21, .int .i64 s_2)] rfl ⟨rfl, rfl, rfl, rfl, rfl, rfl, rfl, trivial⟩ ?_
      refine WO_end ?_
      refine WK_seq ?_
      refine WK_region ?_
      refine WO_pure tbok 2 [(0, .int .i64 p0), (3, p3v), (8, .pointer (some ⟨b1, 0, none⟩)), (9, .pointer (some ⟨b7, 0, none⟩)), (10, .int .i64 s_2), (20, .int .i64 p1), (21, .int .i64 s_2), (24, .int .i64 p0), (25, .int .i64 0)] rfl ⟨rfl, rfl, rfl, rfl, rfl, rfl, rfl, rfl, rfl, trivial⟩ ?_
      refine WO_end ?_
      obtain ⟨x38, hx39, hm21⟩ := bind_some hm21
      refine WK_join (β := (List Int) × (Option Addr × Nat × Nat × List Ent)) (fun p => p.1 = x38 ∧ OwnE 3 1 (I1 .i64) (.slice p.2.1 p.2.2.1 p.2.2.2.1) p.1 p.2.2.2.2) (fun p => [(0, .int .i64 p0), (3, p3v), (8, .pointer (some ⟨b1, 0, none⟩)), (9, .pointer (some ⟨b7, 0, none⟩)), (20, .int .i64 p1), (21, .int .i64 s_2)]) (fun p => St w0 m m [[⟨b1, 24, [.int .i64 0, .int .i64 0, .int .i64 0, .slice none 0 0]⟩], p.2.2.2.2, [⟨b7, 24, [.int .i64 p0, .int .i64 p1, .int .i64 p2, .slice p.2.1 p.2.2.1 p.2.2.2.1]⟩]]) ?_ (fun hk40 => ?_)
      · rintro ⟨l_6, ⟨a35, q36, c37, L34⟩⟩ ⟨hq46, hL34⟩
        subst hq46
        have hqq : q36 = l_6.length := OwnE.qlen hL34
        subst hqq
        refine WK.sub (e' := [(0, .int .i64 p0), (3, p3v), (8, .pointer (some ⟨b1, 0, none⟩)), (9, .pointer (some ⟨b7, 0, none⟩)), (20, .int .i64 p1), (21, .int .i64 s_2)]) ⟨rfl, rfl, rfl, rfl, rfl, rfl, trivial⟩ (WK.cls (C' := St w0 m m [[⟨b1, 24, [.int .i64 0, .int .i64 0, .int .i64 0, .slice none 0 0]⟩], L34, [⟨b7, 24, [.int .i64 p0, .int .i64 p1, .int .i64 p2, .slice a35 ((l_6).length) c37]⟩]]) (fun _ h => h) ?_)
        refine WK_blk ?_
        refine WK_region ?_
        refine WO_pure tbok 2 [(0, .int .i64 p0), (3, p3v), (8, .pointer (some ⟨b1, 0, none⟩)), (9, .pointer (some ⟨b7, 0, none⟩)), (20, .int .i64 p1), (21, .int .i64 (w64 (s_2 + 1)))] rfl ⟨rfl, rfl, rfl, rfl, rfl, rfl, trivial⟩ ?_
        refine WO_end ?_
        cases hm21
        refine WK.sub ?_ (WK.cls (fun _ h => h) (hn24 _ (a35, _, c37, L34) rfl hL34))
        exact ⟨rfl, rfl, rfl, rfl, rfl, rfl, trivial⟩
      · refine WK_block ?_
        refine WK_loop (S := List Int × Int) (G := Option Addr × Nat × Nat × List Ent) (fun s => raster_made_s2 p0 p3 s_2 s.1 s.2) (fun s g => [(0, .int .i64 p0), (3, p3v), (8, .pointer (some ⟨b1, 0, none⟩)), (9, .pointer (some ⟨b7, 0, none⟩)), (10, .int .i64 s_2), (20, .int .i64 p1), (21, .int .i64 s_2), (24, .int .i64 p0), (25, .int .i64 s.2)]) (fun s g => St w0 m m [[⟨b1, 24, [.int .i64 0, .int .i64 0, .int .i64 0, .slice none 0 0]⟩], g.2.2.2, [⟨b7, 24, [.int .i64 p0, .int .i64 p1, .int .i64 p2, .slice g.1 g.2.1 g.2.2.1]⟩]]) (fun s g => OwnE 3 1 (I1 .i64) (.slice g.1 g.2.1 g.2.2.1) s.1 g.2.2.2) FUEL (l_1, 0) (a10, _, c12, L9) x38 hx39 hL9 ⟨rfl, rfl, rfl, rfl, rfl, rfl, rfl, rfl, rfl, trivial⟩ (fun _ h => h) ?_
        rintro ⟨l_4, s_5⟩ ⟨a30, q31, c32, L29⟩ o42 fl43 hm41 hL29 hn44 hd45
        have hm41 : raster_made_s2 p0 p3 s_2 l_4 s_5 = some o42 := hm41
        unfold raster_made_s2 at hm41
        have hqq : q31 = l_4.length := OwnE.qlen hL29
        subst hqq
        refine WK.sub (e' := [(0, .int .i64 p0), (3, p3v), (8, .pointer (some ⟨b1, 0, none⟩)), (9, .pointer (some ⟨b7, 0, none⟩)), (10, .int .i64 s_2), (20, .int .i64 p1), (21, .int .i64 s_2), (24, .int .i64 p0), (25, .int .i64 s_5)]) ⟨rfl, rfl, rfl, rfl, rfl, rfl, rfl, rfl, rfl, trivial⟩ (WK.cls (C' := St w0 m m [[⟨b1, 24, [.int .i64 0, .int .i64 0, .int .i64 0, .slice none 0 0]⟩], L29, [⟨b7, 24, [.int .i64 p0, .int .i64 p1, .int .i64 p2, .slice a30 ((l_4).length) c32]⟩]]) (fun _ h => h) ?_)
        refine WK_seq ?_
        refine WK_region ?_
        refine WO_pure tbok 1 [(0, .int .i64 p0), (3, p3v), (8, .pointer (some ⟨b1, 0, none⟩)), (9, .pointer (some ⟨b7, 0, none⟩)), (10, .int .i64 s_2), (20, .int .i64 p1), (21, .int .i64 s_2), (24, .int .i64 p0), (25, .int .i64 s_5), (26, .bool (decide (s_5 < p0)))] rfl ⟨rfl, rfl, rfl, rfl, rfl, rfl, rfl, rfl, rfl, rfl, trivial⟩ ?_
        refine WO_end ?_
        refine WK_seq ?_
        refine WK_cond (b := decide (s_5 < p0)) rfl (fun hb47 => ?_) (fun hb47 => ?_)
        · have hm41 := ifT hb47 hm41
          refine WK_skip ?_
          refine WK_seq ?_
          refine WK_block ?_
          refine WK_seq ?_
          refine WK_region ?_
          refine WO_pure tbok 2 [(0, .int .i64 p0), (3, p3v), (8, .pointer (some ⟨b1, 0, none⟩)), (9, .pointer (some ⟨b7, 0, none⟩)), (10, .int .i64 s_2), (11, .int .i64 s_5), (20, .int .i64 p1), (21, .int .i64 s_2), (24, .int .i64 p0), (25, .int .i64 s_5)] rfl ⟨rfl, rfl, rfl, rfl, rfl, rfl, rfl, rfl, rfl, rfl, trivial⟩ ?_
          refine WO_end ?_
          refine WK_draw 7 [0, 1, 2, 3, 4, 5, 6] follows_ok (by kernel_rfl) St_closed ?_
          refine WO_pure tbok 1 [(0, .int .i64 p0), (3, p3v), (8, .pointer (some ⟨b1, 0, none⟩)), (9, .pointer (some ⟨b7, 0, none⟩)), (10, .int .i64 s_2), (11, .int .i64 s_5), (20, .int .i64 p1), (21, .int .i64 s_2), (24, .int .i64 p0), (25, .int .i64 s_5), (28, .pointer (some ⟨b7, 3, none⟩))] rfl ⟨rfl, rfl, rfl, rfl, rfl, rfl, rfl, rfl, rfl, rfl, rfl, trivial⟩ ?_
          refine WO_loadB tbok 2 rfl rfl rfl rfl (fun _ h => h) rfl rfl ?_
          refine WO_pure tbok 3 [(0, .int .i64 p0), (3, p3v), (8, .pointer (some ⟨b1, 0, none⟩)), (9, .pointer (some ⟨b7, 0, none⟩)), (10, .int .i64 s_2), (20, .int .i64 p1), (21, .int .i64 s_2), (24, .int .i64 p0), (25, .int .i64 s_5), (29, .slice a30 ((l_4).length) c32), (30, p3v), (31, .int .i64 s_5), (32, .int .i64 s_2)] rfl ⟨rfl, rfl, rfl, rfl, rfl, rfl, rfl, rfl, rfl, rfl, rfl, rfl, rfl, trivial⟩ ?_
          obtain ⟨y_7, hc48, hm41⟩ := bind_some hm41
          obtain ⟨f0, first0, cap0, hf0, hcal0, hsp0⟩ := hp3 _ (Le.refl _) s_5 s_2 _ hc48
          refine WO_call0 (.int .i64 y_7) rfl rfl St_closed rfl rfl rfl rfl St_closed ⟨f0, first0, cap0, hf0, hcal0, fun w hw => ⟨m, hw.sat, hsp0⟩⟩ ?_
          refine WO_bslice (E := (I1 .i64)) tbok (fun _ => rfl) (by decide) [.int .i64 y_7] ([y_7] : List Int) rfl rfl St_closed rfl rfl rfl rfl rfl rfl rfl rfl rfl rfl rfl rfl (fun b49 hb49 => ?_)
          refine WO.cls (C' := St w0 m m [[⟨b1, 24, [.int .i64 0, .int .i64 0, .int .i64 0, .slice none 0 0]⟩], L29, [⟨b7, 24, [.int .i64 p0, .int .i64 p1, .int .i64 p2, .slice a30 ((l_4).length) c32]⟩], [⟨b49, 3, ([y_7] : List Int).flatMap (I1 .i64)⟩]]) (fun _ h => h) ?_
          refine WO_tail ?_
          obtain ⟨hc51, hm41⟩ := chk_some hm41
          refine WO_append (E := (I1 .i64)) tbok (fun _ => rfl) 1 ([y_7] : List Int) (fun _ _ => rfl) rfl rfl rfl rfl rfl rfl rfl rfl rfl rfl rfl rfl hL29 rfl (src_seg (j := 3) rfl) (ap_ok (by decide) hc51) (ap_max hc51) (fun a52 c53 L54 hL54 => ?_)
          refine WO.cls (C' := St w0 m m [[⟨b1, 24, [.int .i64 0, .int .i64 0, .int .i64 0, .slice none 0 0]⟩], L54, [⟨b7, 24, [.int .i64 p0, .int .i64 p1, .int .i64 p2, .slice a30 ((l_4).length) c32]⟩], [⟨b49, 3, ([y_7] : List Int).flatMap (I1 .i64)⟩]]) (fun _ h => h) ?_
          refine WO_pure tbok 1 [(0, .int .i64 p0), (3, p3v), (8, .pointer (some ⟨b1, 0, none⟩)), (9, .pointer (some ⟨b7, 0, none⟩)), (10, .int .i64 s_2), (20, .int .i64 p1), (21, .int .i64 s_2), (24, .int .i64 p0), (25, .int .i64 s_5), (35, .slice a52 ((l_4 ++ ([y_7] : List Int)).length) c53), (36, .pointer (some ⟨b7, 3, none⟩))] rfl ⟨rfl, rfl, rfl, rfl, rfl, rfl, rfl, rfl, rfl, rfl, rfl, trivial⟩ ?_
          refine WO_storeB tbok 2 [.int .i64 p0, .int .i64 p1, .int .i64 p2, .slice a52 ((l_4 ++ ([y_7] : List Int)).length) c53] rfl rfl rfl rfl rfl rfl rfl ?_
          refine WO.cls (C' := St w0 m m [[⟨b1, 24, [.int .i64 0, .int .i64 0, .int .i64 0, .slice none 0 0]⟩], L54, [⟨b7, 24, [.int .i64 p0, .int .i64 p1, .int .i64 p2, .slice a52 ((l_4 ++ ([y_7] : List Int)).length) c53]⟩], [⟨b49, 3, ([y_7] : List Int).flatMap (I1 .i64)⟩]]) (fun _ h => h) ?_
          refine WO_end ?_
          refine WK_blk ?_
          refine WK_region ?_
          refine WO_pure tbok 2 [(0, .int .i64 p0), (3, p3v), (8, .pointer (some ⟨b1, 0, none⟩)), (9, .pointer (some ⟨b7, 0, none⟩)), (10, .int .i64 s_2), (20, .int .i64 p1), (21, .int .i64 s_2), (24, .int .i64 p0), (25, .int .i64 (w64 (s_5 + 1)))] rfl ⟨rfl, rfl, rfl, rfl, rfl, rfl, rfl, rfl, rfl, trivial⟩ ?_
          refine WO_end ?_
          cases hm41
          refine WK.sub ?_ (WK.cls (fun _ h => St.take 3 h) (hn44 _ (a52, (l_4 ++ ([y_7] : List Int)).length, c53, L54) rfl hL54))
          exact ⟨rfl, rfl, rfl, rfl, rfl, rfl, rfl, rfl, rfl, trivial⟩
        · have hm41 := ifF hb47 hm41
          refine WK_exit rfl ?_
          cases hm41
          refine WK.sub ?_ (WK.cls (fun _ h => h) (hk40 (l_4, (a30, _, c32, L29)) ⟨(hd45 _ rfl), hL29⟩))
          exact ⟨rfl, rfl, rfl, rfl, rfl, rfl, trivial⟩
    · have hm21 := ifF hb27 hm21
      refine WK_exit rfl ?_
      cases hm21
      refine WK.sub ?_ (WK.cls (fun _ h => h) (hk20 (l_1, (a10, _, c12, L9)) ⟨(hd25 _ rfl), hL9⟩))
      exact ⟨rfl, rfl, trivial⟩
theorem raster_at_walk {m : Mu} {p0_0 : Int} {p0_1 : Int} {p0_2 : Int} {p0_3 : List Int} {p1 : Int} {p2 : Int} {a_p0_3 : Option Addr} {q_p0_3 c_p0_3 : Nat} (h_p0_3 : SlR (FE (I1 .i64)) 1 m (.slice a_p0_3 q_p0_3 c_p0_3) p0_3) {r : Int} (hm : raster_at p0_0 p0_1 p0_2 p0_3 p1 p2 = some r) :
    Go.E.Spec Try.prog 46 [.agg #[.int .i64 p0_0, .int .i64 p0_1, .int .i64 p0_2, .slice a_p0_3 q_p0_3 c_p0_3], .int .i64 p1, .int .i64 p2] m (fun v _ _ => v = .int .i64 r) := by
  refine Spec_enter Try.func46 rfl rfl rfl (fun w0 => ?_)
  refine WK.sub (e' := [(0, .agg #[.int .i64 p0_0, .int .i64 p0_1, .int .i64 p0_2, .slice a_p0_3 q_p0_3 c_p0_3]), (1, .int .i64 p1), (2, .int .i64 p2)]) ⟨rfl, rfl, rfl, trivial⟩ ?_
  obtain rfl := SlR.qlen h_p0_3
  refine WK.sub (e' := [(0, .agg #[.int .i64 p0_0, .int .i64 p0_1, .int .i64 p0_2, .slice a_p0_3 p0_3.length c_p0_3]), (1, .int .i64 p1), (2, .int .i64 p2)]) ⟨rfl, rfl, rfl, trivial⟩ ?_
  unfold raster_at at hm
  refine WK_seq ?_
  refine WK_region ?_
  refine WO_box [.int .i64 p0_0, .int .i64 p0_1, .int .i64 p0_2, .slice a_p0_3 p0_3.length c_p0_3] rfl rfl trivial rfl rfl rfl (fun b2 => ?_)
  refine WO.cls (C' := St w0 m m [[⟨b2, 24, [.int .i64 p0_0, .int .i64 p0_1, .int .i64 p0_2, .slice a_p0_3 p0_3.length c_p0_3]⟩]]) (fun _ h => h) ?_
  refine WO_pure tbok 1 [(1, .int .i64 p1), (2, .int .i64 p2), (3, .pointer (some ⟨b2, 0, none⟩)), (6, .int .i64 0)] rfl ⟨rfl, rfl, rfl, rfl, trivial⟩ ?_
  refine WO_end ?_
  refine WK_seq ?_
  refine WK_region ?_
  refine WO_pure tbok 1 [(1, .int .i64 p1), (2, .int .i64 p2), (3, .pointer (some ⟨b2, 0, none⟩)), (6, .int .i64 0), (7, .pointer (some ⟨b2, 3, none⟩))] rfl ⟨rfl, rfl, rfl, rfl, rfl, trivial⟩ ?_
  refine WO_loadB tbok 0 rfl rfl rfl rfl (fun _ h => h) rfl rfl ?_
  refine WO_pure tbok 2 [(1, .int .i64 p1), (6, .int .i64 0), (8, .slice a_p0_3 p0_3.length c_p0_3), (9, .int .i64 p2), (10, .pointer (some ⟨b2, 0, none⟩))] rfl ⟨rfl, rfl, rfl, rfl, rfl, trivial⟩ ?_
  refine WO_loadB tbok 0 rfl rfl rfl rfl (fun _ h => h) rfl rfl ?_
  refine WO_pure tbok 3 [(6, .int .i64 0), (8, .slice a_p0_3 p0_3.length c_p0_3), (14, .int .i64 (w64 ((w64 (p2 * p0_0)) + p1)))] rfl ⟨rfl, rfl, rfl, trivial⟩ ?_
  obtain ⟨v_1, hy3, hm⟩ := bind_some hm
  obtain ⟨hc4, hy3⟩ := ix_some hy3
  refine WO_index tbok rfl rfl rfl rfl rfl rfl rfl rfl (SlR.addr h_p0_3) hc4 ?_
  refine WO_loadE tbok rfl rfl rfl rfl (fun _ h => St.sat h) h_p0_3 hy3 rfl ?_
  refine WO_pure tbok 1 [(6, .int .i64 v_1)] rfl ⟨rfl, trivial⟩ ?_
  refine WO_end ?_
  cases hm
  exact WK_ret (ret_out (L := []) (RLc_tmp rfl RLc_nil) (List.nil_sublist _) rfl)
theorem raster_Mirror_c1_walk {m : Mu} {p0 : Int} {p1 : Int} {q0_0 : Int} {q0_1 : Int} {q0_2 : Int} {q0_3 : List Int} {a_q0_3 : Option Addr} {q_q0_3 c_q0_3 : Nat} {b_q0 : Nat} (hb_q0 : m b_q0 = some (Ent.obj ⟨b_q0, 24, [.int .i64 q0_0, .int .i64 q0_1, .int .i64 q0_2, .slice a_q0_3 q_q0_3 c_q0_3]⟩)) (h_q0_3 : SlR (FE (I1 .i64)) 1 m (.slice a_q0_3 q_q0_3 c_q0_3) q0_3) {r : Int} (hm : raster_Mirror_c1 p0 p1 q0_0 q0_1 q0_2 q0_3 = some r) :
    Go.E.Spec Try.prog 45 [.int .i64 p0, .int .i64 p1, .pointer (some ⟨b_q0, 0, none⟩)] m (fun v _ _ => v = .int .i64 r) := by
  refine Spec_enter Try.func45 rfl rfl rfl (fun w0 => ?_)
  refine WK.sub (e' := [(0, .int .i64 p0), (1, .int .i64 p1), (2, .pointer (some ⟨b_q0, 0, none⟩))]) ⟨rfl, rfl, rfl, trivial⟩ ?_
  obtain rfl := SlR.qlen h_q0_3
  refine WK.sub (e' := [(0, .int .i64 p0), (1, .int .i64 p1), (2, .pointer (some ⟨b_q0, 0, none⟩))]) ⟨rfl, rfl, rfl, trivial⟩ ?_
  unfold raster_Mirror_c1 at hm
  refine WK_seq ?_
  refine WK_region ?_
  refine WO_pure tbok 1 [(0, .int .i64 p0), (1, .int .i64 p1), (2, .pointer (some ⟨b_q0, 0, none⟩)), (5, .int .i64 0)] rfl ⟨rfl, rfl, rfl, rfl, trivial⟩ ?_
  refine WO_end ?_
  refine WK_seq ?_
  refine WK_region ?_
  refine WO_loadM tbok rfl rfl rfl rfl (fun _ h => St.sat h) hb_q0 rfl ?_
  refine WO_pure tbok 1 [(0, .int .i64 p0), (1, .int .i64 p1), (5, .int .i64 0), (6, .agg #[.int .i64 q0_0, .int .i64 q0_1, .int .i64 q0_2, .slice a_q0_3 q0_3.length c_q0_3]), (7, .pointer (some ⟨b_q0, 0, none⟩))] rfl ⟨rfl, rfl, rfl, rfl, rfl, trivial⟩ ?_
  refine WO_loadM tbok rfl rfl rfl rfl (fun _ h => St.sat h) hb_q0 rfl ?_
  refine WO_pure tbok 4 [(5, .int .i64 0), (6, .agg #[.int .i64 q0_0, .int .i64 q0_1, .int .i64 q0_2, .slice a_q0_3 q0_3.length c_q0_3]), (11, .int .i64 (w64 ((w64 (q0_0 - 1)) - p0))), (12, .int .i64 p1)] rfl ⟨rfl, rfl, rfl, rfl, trivial⟩ ?_
  obtain ⟨y_1, hc2, hm⟩ := bind_some hm
  refine WO_call0 (.int .i64 y_1) rfl rfl trivial rfl rfl rfl rfl St_closed ⟨46, #[], #[], rfl, callable_46, fun w hw => ⟨_, hw.sat, raster_at_walk h_q0_3 hc2⟩⟩ ?_
  refine WO_pure tbok 1 [(5, .int .i64 y_1)] rfl ⟨rfl, trivial⟩ ?_
  refine WO_end ?_
  cases hm
  exact WK_ret (ret_out (L := []) (RLc_tmp rfl RLc_nil) (List.nil_sublist _) rfl)
def raster_Mirror_Q (r : Int × Int × Int × List Int × Int) : Value → List Ent → Prop := fun v L => ∃ (a0 : Option Addr) (q0 c0 : Nat), v = .tuple #[.agg #[.int .i64 r.1, .int .i64 r.2.1, .int .i64 r.2.2.1, .slice a0 q0 c0], .int .i64 r.2.2.2.2] ∧ OwnE 3 1 (I1 .i64) (.slice a0 q0 c0) r.2.2.2.1 L
theorem raster_Mirror_walk {m : Mu} {p0_0 : Int} {p0_1 : Int} {p0_2 : Int} {p0_3 : List Int} {a_p0_3 : Option Addr} {q_p0_3 c_p0_3 : Nat} (h_p0_3 : SlR (FE (I1 .i64)) 1 m (.slice a_p0_3 q_p0_3 c_p0_3) p0_3) {r : Int × Int × Int × List Int × Int} (hm : raster_Mirror p0_0 p0_1 p0_2 p0_3 = some r) :
    Go.E.Spec Try.prog 15 [.agg #[.int .i64 p0_0, .int .i64 p0_1, .int .i64 p0_2, .slice a_p0_3 q_p0_3 c_p0_3]] m (fun v _ L => raster_Mirror_Q r v L) := by
  refine Spec_enter Try.func15 rfl rfl rfl (fun w0 => ?_)
  refine WK.sub (e' := [(0, .agg #[.int .i64 p0_0, .int .i64 p0_1, .int .i64 p0_2, .slice a_p0_3 q_p0_3 c_p0_3])]) ⟨rfl, trivial⟩ ?_
  obtain rfl := SlR.qlen h_p0_3
  refine WK.sub (e' := [(0, .agg #[.int .i64 p0_0, .int .i64 p0_1, .int .i64 p0_2, .slice a_p0_3 p0_3.length c_p0_3])]) ⟨rfl, trivial⟩ ?_
  unfold raster_Mirror at hm
  refine WK_seq ?_
  refine WK_region ?_
  refine WO_box [.int .i64 p0_0, .int .i64 p0_1, .int .i64 p0_2, .slice a_p0_3 p0_3.length c_p0_3] rfl rfl trivial rfl rfl rfl (fun b2 => ?_)
  refine WO.cls (C' := St w0 m m [[⟨b2, 24, [.int .i64 p0_0, .int .i64 p0_1, .int .i64 p0_2, .slice a_p0_3 p0_3.length c_p0_3]⟩]]) (fun _ h => h) ?_
  refine WO_alloc tbok [.int .i64 0, .int .i64 0, .int .i64 0, .slice none 0 0] rfl rfl trivial rfl rfl rfl rfl (fun b3 => ?_)
  refine WO.cls (C' := St w0 m m [[⟨b2, 24, [.int .i64 p0_0, .int .i64 p0_1, .int .i64 p0_2, .slice a_p0_3 p0_3.length c_p0_3]⟩], [⟨b3, 24, [.int .i64 0, .int .i64 0, .int .i64 0, .slice none 0 0]⟩]]) (fun _ h => h) ?_
  refine WO_pure tbok 1 [(1, .pointer (some ⟨b2, 0, none⟩)), (2, .pointer (some ⟨b3, 0, none⟩)), (3, .int .i64 0)] rfl ⟨rfl, rfl, rfl, trivial⟩ ?_
  refine WO_end ?_
  refine WK_seq ?_
  refine WK_seq ?_
  refine WK_region ?_
  refine WO_loadB tbok 0 rfl rfl rfl rfl (fun _ h => h) rfl rfl ?_
  obtain ⟨y_1, hc4, hm⟩ := bind_some hm
  refine WO_call0 (.int .i64 y_1) rfl rfl trivial rfl rfl rfl rfl St_closed ⟨43, #[], #[], rfl, callable_43, fun w hw => ⟨_, hw.sat, raster_Check_walk h_p0_3 hc4⟩⟩ ?_
  refine WO_pure tbok 1 [(1, .pointer (some ⟨b2, 0, none⟩)), (2, .pointer (some ⟨b3, 0, none⟩)), (3, .int .i64 0), (4, .int .i64 y_1)] rfl ⟨rfl, rfl, rfl, rfl, trivial⟩ ?_
  refine WO_end ?_
  refine WK_seq ?_
  refine WK_region ?_
  refine WO_pure tbok 2 [(1, .pointer (some ⟨b2, 0, none⟩)), (2, .pointer (some ⟨b3, 0, none⟩)), (3, .int .i64 0), (4, .int .i64 y_1), (8, .bool (y_1 != 0))] rfl ⟨rfl, rfl, rfl, rfl, rfl, trivial⟩ ?_
  refine WO_end ?_
  refine WK_cond (b := y_1 != 0) rfl (fun hb5 => ?_) (fun hb5 => ?_)
  · have hm := ifT hb5 hm
    refine WK_seq ?_
    refine WK_region ?_
    refine WO_pure tbok 2 [(1, .pointer (some ⟨b2, 0, none⟩)), (2, .pointer (some ⟨b3, 0, none⟩)), (3, .int .i64 0), (9, .agg #[.int .i64 0, .int .i64 0, .int .i64 0, .slice none 0 0]), (10, .int .i64 y_1)] rfl ⟨rfl, rfl, rfl, rfl, rfl, trivial⟩ ?_
    refine WO_storeB tbok 1 [.int .i64 0, .int .i64 0, .int .i64 0, .slice none 0 0] rfl rfl rfl rfl rfl rfl rfl ?_
    refine WO.cls (C' := St w0 m m [[⟨b2, 24, [.int .i64 p0_0, .int .i64 p0_1, .int .i64 p0_2, .slice a_p0_3 p0_3.length c_p0_3]⟩], [⟨b3, 24, [.int .i64 0, .int .i64 0, .int .i64 0, .slice none 0 0]⟩]]) (fun _ h => h) ?_
    refine WO_pure tbok 1 [(1, .pointer (some ⟨b2, 0, none⟩)), (2, .pointer (some ⟨b3, 0, none⟩)), (3, .int .i64 y_1)] rfl ⟨rfl, rfl, rfl, trivial⟩ ?_
    refine WO_end ?_
    cases hm
    exact WK_ret (ret_out (L := []) (RLc_cell tbok 1 rfl rfl rfl (RLc_tmp rfl RLc_nil)) (List.nil_sublist _) ⟨none, 0, 0, rfl, (OwnE.nil none)⟩)
  · have hm := ifF hb5 hm
    refine WK_skip ?_
    refine WK_seq ?_
    refine WK_region ?_
    refine WO_pure tbok 1 [(1, .pointer (some ⟨b2, 0, none⟩)), (2, .pointer (some ⟨b3, 0, none⟩)), (3, .int .i64 0), (11, .pointer (some ⟨b2, 0, none⟩))] rfl ⟨rfl, rfl, rfl, rfl, trivial⟩ ?_
    refine WO_loadB tbok 0 rfl rfl rfl rfl (fun _ h => h) rfl rfl ?_
    refine WO_pure tbok 1 [(1, .pointer (some ⟨b2, 0, none⟩)), (2, .pointer (some ⟨b3, 0, none⟩)), (3, .int .i64 0), (12, .int .i64 p0_0), (13, .pointer (some ⟨b2, 1, none⟩))] rfl ⟨rfl, rfl, rfl, rfl, rfl, trivial⟩ ?_
    refine WO_loadB tbok 0 rfl rfl rfl rfl (fun _ h => h) rfl rfl ?_
    refine WO_pure tbok 1 [(1, .pointer (some ⟨b2, 0, none⟩)), (2, .pointer (some ⟨b3, 0, none⟩)), (3, .int .i64 0), (12, .int .i64 p0_0), (14, .int .i64 p0_1), (15, .pointer (some ⟨b2, 2, none⟩))] rfl ⟨rfl, rfl, rfl, rfl, rfl, rfl, trivial⟩ ?_
    refine WO_loadB tbok 0 rfl rfl rfl rfl (fun _ h => h) rfl rfl ?_
    refine WO_pure tbok 1 [(2, .pointer (some ⟨b3, 0, none⟩)), (3, .int .i64 0), (12, .int .i64 p0_0), (14, .int .i64 p0_1), (16, .int .i64 p0_2), (17, .func (.func 45) #[] #[.pointer (some ⟨b2, 0, none⟩)])] rfl ⟨rfl, rfl, rfl, rfl, rfl, rfl, trivial⟩ ?_
    obtain ⟨⟨y_4, y_5, y_6, y_7⟩, hc6, hm⟩ := bind_some hm
    refine WO_call1 (raster_made_Q (y_4, y_5, y_6, y_7)) rfl rfl trivial rfl rfl rfl rfl ⟨44, #[], #[], rfl, callable_44, fun w hw => ⟨_, hw.satV, raster_made_walk (fun m1 hm1 z_2 z_3 _ h => specV_cap callable_45 (raster_Mirror_c1_walk (hm1 _ _ (hw.memV (i := 0) rfl (List.mem_singleton.2 rfl))) ((h_p0_3.mono (mono_FE _) hw.leV).mono (mono_FE _) hm1) h)) hc6⟩⟩ (fun v11 L10 hq => ?_)
    obtain ⟨a7, qa7, c8, rfl, hL10⟩ := hq
    obtain rfl := OwnE.qlen hL10
    refine WO.cls (C' := St w0 m m [[⟨b2, 24, [.int .i64 p0_0, .int .i64 p0_1, .int .i64 p0_2, .slice a_p0_3 p0_3.length c_p0_3]⟩], [⟨b3, 24, [.int .i64 0, .int .i64 0, .int .i64 0, .slice none 0 0]⟩], L10]) (fun _ h => h) ?_
    refine WO_storeB tbok 1 [.int .i64 y_4, .int .i64 y_5, .int .i64 y_6, .slice a7 ((y_7).length) c8] rfl rfl rfl rfl rfl rfl rfl ?_
    refine WO.cls (C' := St w0 m m [[⟨b2, 24, [.int .i64 p0_0, .int .i64 p0_1, .int .i64 p0_2, .slice a_p0_3 p0_3.length c_p0_3]⟩], [⟨b3, 24, [.int .i64 y_4, .int .i64 y_5, .int .i64 y_6, .slice a7 ((y_7).length) c8]⟩], L10]) (fun _ h => h) ?_
    refine WO_pure tbok 1 [(2, .pointer (some ⟨b3, 0, none⟩)), (3, .int .i64 0)] rfl ⟨rfl, rfl, trivial⟩ ?_
    refine WO_end ?_
    cases hm
    exact WK_ret (ret_out (L := L10) (RLc_cell tbok 1 rfl rfl rfl (RLc_tmp rfl RLc_nil)) (seg_sub 2 rfl) ⟨a7, _, c8, rfl, hL10⟩)
theorem slices_Equal_sint_walk {m : Mu} {p0 : List Int} {p1 : List Int} {a_p0 : Option Addr} {q_p0 c_p0 : Nat} {a_p1 : Option Addr} {q_p1 c_p1 : Nat} (h_p0 : SlR (FE (I1 .i64)) 1 m (.slice a_p0 q_p0 c_p0) p0) (h_p1 : SlR (FE (I1 .i64)) 1 m (.slice a_p1 q_p1 c_p1) p1) {r : Bool} (hm : slices_Equal_sint p0 p1 = some r) :
    Go.E.Spec Try.prog 34 [.slice a_p0 q_p0 c_p0, .slice a_p1 q_p1 c_p1] m (fun v _ _ => v = .bool r) := by
  refine Spec_enter Try.func34 rfl rfl rfl (fun w0 => ?_)
  refine WK.sub (e' := [(0, .slice a_p0 q_p0 c_p0), (1, .slice a_p1 q_p1 c_p1)]) ⟨rfl, rfl, trivial⟩ ?_
  obtain rfl := SlR.qlen h_p0
  obtain rfl := SlR.qlen h_p1
  refine WK.sub (e' := [(0, .slice a_p0 p0.length c_p0), (1, .slice a_p1 p1.length c_p1)]) ⟨rfl, rfl, trivial⟩ ?_
  unfold slices_Equal_sint at hm
  refine WK_seq ?_
  refine WK_region ?_
  refine WO_pure tbok 1 [(0, .slice a_p0 p0.length c_p0), (1, .slice a_p1 p1.length c_p1), (4, .bool false)] rfl ⟨rfl, rfl, rfl, trivial⟩ ?_
  refine WO_end ?_
  refine WK_seq ?_
  refine WK_seq ?_
  refine WK_region ?_
  refine WO_pure tbok 5 [(0, .slice a_p0 p0.length c_p0), (1, .slice a_p1 p1.length c_p1), (4, .bool false), (10, .bool ((p0.length : Int) != (p1.length : Int)))] rfl ⟨rfl, rfl, rfl, rfl, trivial⟩ ?_
  refine WO_end ?_
  refine WK_cond (b := (p0.length : Int) != (p1.length : Int)) rfl (fun hb3 => ?_) (fun hb3 => ?_)
  · have hm := ifT hb3 hm
    refine WK_seq ?_
    refine WK_region ?_
    refine WO_pure tbok 1 [(0, .slice a_p0 p0.length c_p0), (1, .slice a_p1 p1.length c_p1), (4, .bool false)] rfl ⟨rfl, rfl, rfl, trivial⟩ ?_
    refine WO_end ?_
    cases hm
    exact WK_ret (ret_out (L := []) (RLc_tmp rfl RLc_nil) (List.nil_sublist _) rfl)
  · have hm := ifF hb3 hm
    refine WK_skip ?_
    refine WK_seq ?_
    refine WK_seq ?_
    refine WK_region ?_
    refine WO_pure tbok 3 [(0, .slice a_p0 p0.length c_p0), (1, .slice a_p1 p1.length c_p1), (4, .bool false), (12, .int .i64 (p0.length : Int)), (13, .int .i64 0)] rfl ⟨rfl, rfl, rfl, rfl, rfl, trivial⟩ ?_
    refine WO_end ?_
    obtain ⟨x4, hx5, hm⟩ := bind_some hm
    refine WK_join (β := Unit × Unit) (fun p => Sum.inr p.1 = x4) (fun p => [(4, .bool false)]) (fun p => St w0 m m []) ?_ (fun hk6 => ?_)
    · rintro ⟨⟨⟩, ⟨⟩⟩ hq12
      subst hq12
      refine WK.sub (e' := [(4, .bool false)]) ⟨rfl, trivial⟩ (WK.cls (C' := St w0 m m []) (fun _ h => h) ?_)
      refine WK_seq ?_
      refine WK_region ?_
      refine WO_pure tbok 1 [(4, .bool true)] rfl ⟨rfl, trivial⟩ ?_
      refine WO_end ?_
      cases hm
      exact WK_ret (ret_out (L := []) (RLc_tmp rfl RLc_nil) (List.nil_sublist _) rfl)
    · refine WK_block ?_
      refine WK_loop (S := Int) (G := Unit) (fun s => slices_Equal_sint_s1 p0 p1 s) (fun s g => [(0, .slice a_p0 p0.length c_p0), (1, .slice a_p1 p1.length c_p1), (4, .bool false), (12, .int .i64 (p0.length : Int)), (13, .int .i64 s)]) (fun s g => St w0 m m []) (fun s g => True) FUEL 0 () x4 hx5 trivial ⟨rfl, rfl, rfl, rfl, rfl, trivial⟩ (fun _ h => h) ?_
      rintro s_1 ⟨⟩ o8 fl9 hm7 - hn10 hd11
      have hm7 : slices_Equal_sint_s1 p0 p1 s_1 = some o8 := hm7
      unfold slices_Equal_sint_s1 at hm7
      refine WK.sub (e' := [(0, .slice a_p0 p0.length c_p0), (1, .slice a_p1 p1.length c_p1), (4, .bool false), (12, .int .i64 (p0.length : Int)), (13, .int .i64 s_1)]) ⟨rfl, rfl, rfl, rfl, rfl, trivial⟩ (WK.cls (C' := St w0 m m []) (fun _ h => h) ?_)
      refine WK_seq ?_
      refine WK_region ?_
      refine WO_pure tbok 1 [(0, .slice a_p0 p0.length c_p0), (1, .slice a_p1 p1.length c_p1), (4, .bool false), (12, .int .i64 (p0.length : Int)), (13, .int .i64 s_1), (14, .bool (decide (s_1 < (p0.length : Int))))] rfl ⟨rfl, rfl, rfl, rfl, rfl, rfl, trivial⟩ ?_
      refine WO_end ?_
      refine WK_seq ?_
      refine WK_cond (b := decide (s_1 < (p0.length : Int))) rfl (fun hb13 => ?_) (fun hb13 => ?_)
      · have hm7 := ifT hb13 hm7
        refine WK_skip ?_
        refine WK_seq ?_
        refine WK_block ?_
        refine WK_seq ?_
        refine WK_region ?_
        refine WO_pure tbok 2 [(0, .slice a_p0 p0.length c_p0), (1, .slice a_p1 p1.length c_p1), (4, .bool false), (5, .int .i64 s_1), (12, .int .i64 (p0.length : Int)), (13, .int .i64 s_1)] rfl ⟨rfl, rfl, rfl, rfl, rfl, rfl, trivial⟩ ?_
        refine WO_end ?_
        refine WK_seq ?_
        refine WK_draw 9 [0, 1, 2, 3, 4, 5, 6, 7, 8] follows_ok (by kernel_rfl) St_closed ?_
        refine WO_pure tbok 2 [(0, .slice a_p0 p0.length c_p0), (1, .slice a_p1 p1.length c_p1), (4, .bool false), (5, .int .i64 s_1), (12, .int .i64 (p0.length : Int)), (13, .int .i64 s_1), (16, .slice a_p0 p0.length c_p0), (17, .int .i64 s_1)] rfl ⟨rfl, rfl, rfl, rfl, rfl, rfl, rfl, rfl, trivial⟩ ?_
        obtain ⟨v_2, hy14, hm7⟩ := bind_some hm7
        obtain ⟨hc15, hy14⟩ := ix_some hy14
        refine WO_index tbok rfl rfl rfl rfl rfl rfl rfl rfl (SlR.addr h_p0) hc15 ?_
        refine WO_loadE tbok rfl rfl rfl rfl (fun _ h => St.sat h) h_p0 hy14 rfl ?_
        refine WO_pure tbok 2 [(0, .slice a_p0 p0.length c_p0), (1, .slice a_p1 p1.length c_p1), (4, .bool false), (12, .int .i64 (p0.length : Int)), (13, .int .i64 s_1), (19, .int .i64 v_2), (20, .slice a_p1 p1.length c_p1), (21, .int .i64 s_1)] rfl ⟨rfl, rfl, rfl, rfl, rfl, rfl, rfl, rfl, trivial⟩ ?_
        obtain ⟨v_3, hy16, hm7⟩ := bind_some hm7
        obtain ⟨hc17, hy16⟩ := ix_some hy16
        refine WO_index tbok rfl rfl rfl rfl rfl rfl rfl rfl (SlR.addr h_p1) hc17 ?_
        refine WO_loadE tbok rfl rfl rfl rfl (fun _ h => St.sat h) h_p1 hy16 rfl ?_
        refine WO_pure tbok 1 [(0, .slice a_p0 p0.length c_p0), (1, .slice a_p1 p1.length c_p1), (4, .bool false), (12, .int .i64 (p0.length : Int)), (13, .int .i64 s_1), (24, .bool (v_2 != v_3))] rfl ⟨rfl, rfl, rfl, rfl, rfl, rfl, trivial⟩ ?_
        refine WO_tail ?_
        refine WO_end ?_
        refine WK_cond (b := v_2 != v_3) rfl (fun hb18 => ?_) (fun hb18 => ?_)
        · have hm7 := ifT hb18 hm7
          refine WK_seq ?_
          refine WK_region ?_
          refine WO_pure tbok 1 [(0, .slice a_p0 p0.length c_p0), (1, .slice a_p1 p1.length c_p1), (4, .bool false), (12, .int .i64 (p0.length : Int)), (13, .int .i64 s_1)] rfl ⟨rfl, rfl, rfl, rfl, rfl, trivial⟩ ?_
          refine WO_end ?_
          cases hm7
          have hq := hd11 _ rfl
          subst hq
          have hm : some _ = some _ := hm
          cases hm
          exact WK_ret (ret_out (L := []) (RLc_tmp rfl RLc_nil) (List.nil_sublist _) rfl)
        · have hm7 := ifF hb18 hm7
          refine WK_skip ?_
          refine WK_blk ?_
          refine WK_region ?_
          refine WO_pure tbok 2 [(0, .slice a_p0 p0.length c_p0), (1, .slice a_p1 p1.length c_p1), (4, .bool false), (12, .int .i64 (p0.length : Int)), (13, .int .i64 (w64 (s_1 + 1)))] rfl ⟨rfl, rfl, rfl, rfl, rfl, trivial⟩ ?_
          refine WO_end ?_
          cases hm7
          refine WK.sub ?_ (WK.cls (fun _ h => h) (hn10 _ () rfl trivial))
          exact ⟨rfl, rfl, rfl, rfl, rfl, trivial⟩
      · have hm7 := ifF hb13 hm7
        refine WK_exit rfl ?_
        cases hm7
        refine WK.sub ?_ (WK.cls (fun _ h => h) (hk6 ((), ()) (hd11 _ rfl)))
        exact ⟨rfl, trivial⟩
end Go.Proofs.Ytbolefkhmfbnlaa
