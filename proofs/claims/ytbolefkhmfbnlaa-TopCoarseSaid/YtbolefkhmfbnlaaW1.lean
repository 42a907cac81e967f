import Derived.Test.YtbolefkhmfbnlaaTab
import Derived.Test.YtbolefkhmfbnlaaM
import Derived.Test.YtbolefkhmfbnlaaIt
set_option linter.unusedVariables false
set_option maxRecDepth 100000
set_option maxHeartbeats 4000000
namespace Go.Proofs.Ytbolefkhmfbnlaa
open Go.E Go.RowKit
attribute [local irreducible] Go.E.WO Go.E.WK
theorem slices_IndexFunc_sint_walk {m : Mu} {p0 : List Int} {p1 : Int → Option Bool} {a_p0 : Option Addr} {q_p0 c_p0 : Nat} {p1v : Value} (h_p0 : SlR (FE (I1 .i64)) 1 m (.slice a_p0 q_p0 c_p0) p0) (hp1 : ∀ (m1 : Mu), Le m m1 → ∀ (u1 : Int), ∀ (r : Bool), p1 u1 = some r → SpecV Try.prog p1v [.int .i64 u1] m1 (fun v _ _ => v = .bool r)) {r : Int} (hm : slices_IndexFunc_sint p0 p1 = some r) :
    Go.E.Spec Try.prog 70 [.slice a_p0 q_p0 c_p0, p1v] m (fun v _ _ => v = .int .i64 r) := by
  refine Spec_enter Try.func70 rfl rfl rfl (fun w0 => ?_)
  refine WK.sub (e' := [(0, .slice a_p0 q_p0 c_p0), (1, p1v)]) ⟨rfl, rfl, trivial⟩ ?_
  obtain rfl := SlR.qlen h_p0
  refine WK.sub (e' := [(0, .slice a_p0 p0.length c_p0), (1, p1v)]) ⟨rfl, rfl, trivial⟩ ?_
  unfold slices_IndexFunc_sint at hm
  refine WK_seq ?_
  refine WK_region ?_
  refine WO_pure tbok 1 [(0, .slice a_p0 p0.length c_p0), (1, p1v), (4, .int .i64 0)] rfl ⟨rfl, rfl, rfl, trivial⟩ ?_
  refine WO_end ?_
  refine WK_seq ?_
  refine WK_seq ?_
  refine WK_region ?_
  refine WO_pure tbok 3 [(0, .slice a_p0 p0.length c_p0), (1, p1v), (4, .int .i64 0), (7, .int .i64 (p0.length : Int)), (8, .int .i64 0)] rfl ⟨rfl, rfl, rfl, rfl, rfl, trivial⟩ ?_
  refine WO_end ?_
  obtain ⟨x2, hx3, hm⟩ := bind_some hm
  refine WK_join (β := Unit × Unit) (fun p => Sum.inr p.1 = x2) (fun p => [(4, .int .i64 0)]) (fun p => St w0 m m []) ?_ (fun hk4 => ?_)
  · rintro ⟨⟨⟩, ⟨⟩⟩ hq10
    subst hq10
    refine WK.sub (e' := [(4, .int .i64 0)]) ⟨rfl, trivial⟩ (WK.cls (C' := St w0 m m []) (fun _ h => h) ?_)
    refine WK_seq ?_
    refine WK_region ?_
    refine WO_pure tbok 1 [(4, .int .i64 (-1))] rfl ⟨rfl, trivial⟩ ?_
    refine WO_end ?_
    cases hm
    exact WK_ret (ret_out (L := []) (RLc_tmp rfl RLc_nil) (List.nil_sublist _) rfl)
  · refine WK_block ?_
    refine WK_loop (S := Int) (G := Unit) (fun s => slices_IndexFunc_sint_s1 p0 p1 s) (fun s g => [(0, .slice a_p0 p0.length c_p0), (1, p1v), (4, .int .i64 0), (7, .int .i64 (p0.length : Int)), (8, .int .i64 s)]) (fun s g => St w0 m m []) (fun s g => True) FUEL 0 () x2 hx3 trivial ⟨rfl, rfl, rfl, rfl, rfl, trivial⟩ (fun _ h => h) ?_
    rintro s_1 ⟨⟩ o6 fl7 hm5 - hn8 hd9
    have hm5 : slices_IndexFunc_sint_s1 p0 p1 s_1 = some o6 := hm5
    unfold slices_IndexFunc_sint_s1 at hm5
    refine WK.sub (e' := [(0, .slice a_p0 p0.length c_p0), (1, p1v), (4, .int .i64 0), (7, .int .i64 (p0.length : Int)), (8, .int .i64 s_1)]) ⟨rfl, rfl, rfl, rfl, rfl, trivial⟩ (WK.cls (C' := St w0 m m []) (fun _ h => h) ?_)
    refine WK_seq ?_
    refine WK_region ?_
    refine WO_pure tbok 1 [(0, .slice a_p0 p0.length c_p0), (1, p1v), (4, .int .i64 0), (7, .int .i64 (p0.length : Int)), (8, .int .i64 s_1), (9, .bool (decide (s_1 < (p0.length : Int))))] rfl ⟨rfl, rfl, rfl, rfl, rfl, rfl, trivial⟩ ?_
    refine WO_end ?_
    refine WK_seq ?_
    refine WK_cond (b := decide (s_1 < (p0.length : Int))) rfl (fun hb11 => ?_) (fun hb11 => ?_)
    · have hm5 := ifT hb11 hm5
      refine WK_skip ?_
      refine WK_seq ?_
      refine WK_block ?_
      refine WK_seq ?_
      refine WK_region ?_
      refine WO_pure tbok 2 [(0, .slice a_p0 p0.length c_p0), (1, p1v), (4, .int .i64 0), (5, .int .i64 s_1), (7, .int .i64 (p0.length : Int)), (8, .int .i64 s_1)] rfl ⟨rfl, rfl, rfl, rfl, rfl, rfl, trivial⟩ ?_
      refine WO_end ?_
      refine WK_seq ?_
      refine WK_region ?_
      refine WO_pure tbok 3 [(0, .slice a_p0 p0.length c_p0), (1, p1v), (4, .int .i64 0), (5, .int .i64 s_1), (7, .int .i64 (p0.length : Int)), (8, .int .i64 s_1), (11, p1v), (12, .slice a_p0 p0.length c_p0), (13, .int .i64 s_1)] rfl ⟨rfl, rfl, rfl, rfl, rfl, rfl, rfl, rfl, rfl, trivial⟩ ?_
      obtain ⟨v_2, hy12, hm5⟩ := bind_some hm5
      obtain ⟨hc13, hy12⟩ := ix_some hy12
      refine WO_index tbok rfl rfl rfl rfl rfl rfl rfl rfl (SlR.addr h_p0) hc13 ?_
      refine WO_loadE tbok rfl rfl rfl rfl (fun _ h => St.sat h) h_p0 hy12 rfl ?_
      obtain ⟨y_3, hc14, hm5⟩ := bind_some hm5
      obtain ⟨f0, first0, cap0, hf0, hcal0, hsp0⟩ := hp1 _ (Le.refl _) v_2 _ hc14
      refine WO_call0 (.bool y_3) rfl rfl trivial rfl rfl rfl rfl St_closed ⟨f0, first0, cap0, hf0, hcal0, fun w hw => ⟨m, hw.sat, hsp0⟩⟩ ?_
      refine WO_end ?_
      refine WK_cond (b := y_3) rfl (fun hb15 => ?_) (fun hb15 => ?_)
      · have hm5 := ifT hb15 hm5
        refine WK_seq ?_
        refine WK_region ?_
        refine WO_pure tbok 2 [(0, .slice a_p0 p0.length c_p0), (1, p1v), (4, .int .i64 s_1), (7, .int .i64 (p0.length : Int)), (8, .int .i64 s_1)] rfl ⟨rfl, rfl, rfl, rfl, rfl, trivial⟩ ?_
        refine WO_end ?_
        cases hm5
        have hq := hd9 _ rfl
        subst hq
        have hm : some _ = some _ := hm
        cases hm
        exact WK_ret (ret_out (L := []) (RLc_tmp rfl RLc_nil) (List.nil_sublist _) rfl)
      · have hm5 := ifF hb15 hm5
        refine WK_skip ?_
        refine WK_blk ?_
        refine WK_region ?_
        refine WO_pure tbok 2 [(0, .slice a_p0 p0.length c_p0), (1, p1v), (4, .int .i64 0), (7, .int .i64 (p0.length : Int)), (8, .int .i64 (w64 (s_1 + 1)))] rfl ⟨rfl, rfl, rfl, rfl, rfl, trivial⟩ ?_
        refine WO_end ?_
        cases hm5
        refine WK.sub ?_ (WK.cls (fun _ h => h) (hn8 _ () rfl trivial))
        exact ⟨rfl, rfl, rfl, rfl, rfl, trivial⟩
    · have hm5 := ifF hb11 hm5
      refine WK_exit rfl ?_
      cases hm5
      refine WK.sub ?_ (WK.cls (fun _ h => h) (hk4 ((), ()) (hd9 _ rfl)))
      exact ⟨rfl, trivial⟩
theorem slices_ContainsFunc_sint_walk {m : Mu} {p0 : List Int} {p1 : Int → Option Bool} {a_p0 : Option Addr} {q_p0 c_p0 : Nat} {p1v : Value} (h_p0 : SlR (FE (I1 .i64)) 1 m (.slice a_p0 q_p0 c_p0) p0) (hp1 : ∀ (m1 : Mu), Le m m1 → ∀ (u1 : Int), ∀ (r : Bool), p1 u1 = some r → SpecV Try.prog p1v [.int .i64 u1] m1 (fun v _ _ => v = .bool r)) {r : Bool} (hm : slices_ContainsFunc_sint p0 p1 = some r) :
    Go.E.Spec Try.prog 40 [.slice a_p0 q_p0 c_p0, p1v] m (fun v _ _ => v = .bool r) := by
  refine Spec_enter Try.func40 rfl rfl rfl (fun w0 => ?_)
  refine WK.sub (e' := [(0, .slice a_p0 q_p0 c_p0), (1, p1v)]) ⟨rfl, rfl, trivial⟩ ?_
  obtain rfl := SlR.qlen h_p0
  refine WK.sub (e' := [(0, .slice a_p0 p0.length c_p0), (1, p1v)]) ⟨rfl, rfl, trivial⟩ ?_
  unfold slices_ContainsFunc_sint at hm
  refine WK_seq ?_
  refine WK_region ?_
  refine WO_pure tbok 1 [(0, .slice a_p0 p0.length c_p0), (1, p1v), (4, .bool false)] rfl ⟨rfl, rfl, rfl, trivial⟩ ?_
  refine WO_end ?_
  refine WK_seq ?_
  refine WK_region ?_
  refine WO_pure tbok 2 [(4, .bool false), (5, .slice a_p0 p0.length c_p0), (6, p1v)] rfl ⟨rfl, rfl, rfl, trivial⟩ ?_
  obtain ⟨y_1, hc2, hm⟩ := bind_some hm
  refine WO_call0 (.int .i64 y_1) rfl rfl trivial rfl rfl rfl rfl St_closed ⟨70, #[], #[], rfl, callable_70, fun w hw => ⟨_, hw.sat, slices_IndexFunc_sint_walk h_p0 hp1 hc2⟩⟩ ?_
  refine WO_pure tbok 2 [(4, .bool (decide (0 ≤ y_1)))] rfl ⟨rfl, trivial⟩ ?_
  refine WO_end ?_
  cases hm
  exact WK_ret (ret_out (L := []) (RLc_tmp rfl RLc_nil) (List.nil_sublist _) rfl)
theorem raster_Check_c1_walk {m : Mu} {p0 : Int} {q0_0 : Int} {q0_1 : Int} {q0_2 : Int} {q0_3 : List Int} {a_q0_3 : Option Addr} {q_q0_3 c_q0_3 : Nat} {b_q0 : Nat} (hb_q0 : m b_q0 = some (Ent.obj ⟨b_q0, 24, [.int .i64 q0_0, .int .i64 q0_1, .int .i64 q0_2, .slice a_q0_3 q_q0_3 c_q0_3]⟩)) (h_q0_3 : SlR (FE (I1 .i64)) 1 m (.slice a_q0_3 q_q0_3 c_q0_3) q0_3) {r : Bool} (hm : raster_Check_c1 p0 q0_0 q0_1 q0_2 q0_3 = some r) :
    Go.E.Spec Try.prog 71 [.int .i64 p0, .pointer (some ⟨b_q0, 0, none⟩)] m (fun v _ _ => v = .bool r) := by
  refine Spec_enter Try.func71 rfl rfl rfl (fun w0 => ?_)
  refine WK.sub (e' := [(0, .int .i64 p0), (1, .pointer (some ⟨b_q0, 0, none⟩))]) ⟨rfl, rfl, trivial⟩ ?_
  obtain rfl := SlR.qlen h_q0_3
  refine WK.sub (e' := [(0, .int .i64 p0), (1, .pointer (some ⟨b_q0, 0, none⟩))]) ⟨rfl, rfl, trivial⟩ ?_
  unfold raster_Check_c1 at hm
  refine WK_seq ?_
  refine WK_region ?_
  refine WO_pure tbok 1 [(0, .int .i64 p0), (1, .pointer (some ⟨b_q0, 0, none⟩)), (3, .bool false)] rfl ⟨rfl, rfl, rfl, trivial⟩ ?_
  refine WO_end ?_
  refine WK_seq ?_
  refine WK_region ?_
  refine WO_pure tbok 3 [(0, .int .i64 p0), (1, .pointer (some ⟨b_q0, 0, none⟩)), (3, .bool false), (6, .bool (decide (p0 < 0)))] rfl ⟨rfl, rfl, rfl, rfl, trivial⟩ ?_
  refine WO_split (d := 6) (b := decide (p0 < 0)) rfl (fun hb2 => ?_) (fun hb2 => ?_)
  · have hm := ifT hb2 hm
    refine WO_pure tbok 6 [(3, .bool true)] rfl ⟨rfl, trivial⟩ ?_
    refine WO_end ?_
    cases hm
    exact WK_ret (ret_out (L := []) (RLc_tmp rfl RLc_nil) (List.nil_sublist _) rfl)
  · have hm := ifF hb2 hm
    refine WO_pure tbok 2 [(3, .bool false), (6, .bool false), (7, .int .i64 p0), (8, .pointer (some ⟨b_q0, 2, none⟩))] rfl ⟨rfl, rfl, rfl, rfl, trivial⟩ ?_
    refine WO_loadM tbok rfl rfl rfl rfl (fun _ h => St.sat h) hb_q0 rfl ?_
    refine WO_pure tbok 3 [(3, .bool (decide (q0_2 < p0)))] rfl ⟨rfl, trivial⟩ ?_
    refine WO_end ?_
    cases hm
    exact WK_ret (ret_out (L := []) (RLc_tmp rfl RLc_nil) (List.nil_sublist _) rfl)
theorem raster_Check_walk {m : Mu} {p0_0 : Int} {p0_1 : Int} {p0_2 : Int} {p0_3 : List Int} {a_p0_3 : Option Addr} {q_p0_3 c_p0_3 : Nat} (h_p0_3 : SlR (FE (I1 .i64)) 1 m (.slice a_p0_3 q_p0_3 c_p0_3) p0_3) {r : Int} (hm : raster_Check p0_0 p0_1 p0_2 p0_3 = some r) :
    Go.E.Spec Try.prog 43 [.agg #[.int .i64 p0_0, .int .i64 p0_1, .int .i64 p0_2, .slice a_p0_3 q_p0_3 c_p0_3]] m (fun v _ _ => v = .int .i64 r) := by
  refine Spec_enter Try.func43 rfl rfl rfl (fun w0 => ?_)
  refine WK.sub (e' := [(0, .agg #[.int .i64 p0_0, .int .i64 p0_1, .int .i64 p0_2, .slice a_p0_3 q_p0_3 c_p0_3])]) ⟨rfl, trivial⟩ ?_
  obtain rfl := SlR.qlen h_p0_3
  refine WK.sub (e' := [(0, .agg #[.int .i64 p0_0, .int .i64 p0_1, .int .i64 p0_2, .slice a_p0_3 p0_3.length c_p0_3])]) ⟨rfl, trivial⟩ ?_
  unfold raster_Check at hm
  refine WK_seq ?_
  refine WK_region ?_
  refine WO_box [.int .i64 p0_0, .int .i64 p0_1, .int .i64 p0_2, .slice a_p0_3 p0_3.length c_p0_3] rfl rfl trivial rfl rfl rfl (fun b2 => ?_)
  refine WO.cls (C' := St w0 m m [[⟨b2, 24, [.int .i64 p0_0, .int .i64 p0_1, .int .i64 p0_2, .slice a_p0_3 p0_3.length c_p0_3]⟩]]) (fun _ h => h) ?_
  refine WO_pure tbok 1 [(1, .pointer (some ⟨b2, 0, none⟩)), (2, .int .i64 0)] rfl ⟨rfl, rfl, trivial⟩ ?_
  refine WO_end ?_
  refine WK_seq ?_
  refine WK_seq ?_
  obtain ⟨s_1, hx3, hm⟩ := bind_some hm
  refine WK_meet [(1, .pointer (some ⟨b2, 0, none⟩)), (2, .int .i64 0), (34, .bool s_1)] (St w0 m m [[⟨b2, 24, [.int .i64 p0_0, .int .i64 p0_1, .int .i64 p0_2, .slice a_p0_3 p0_3.length c_p0_3]⟩]]) ?_ (fun hk4 => ?_)
  · refine WK_cond (b := s_1) rfl (fun hb5 => ?_) (fun hb5 => ?_)
    · have hm := ifT hb5 hm
      refine WK_seq ?_
      refine WK_region ?_
      refine WO_pure tbok 1 [(1, .pointer (some ⟨b2, 0, none⟩)), (2, .int .i64 1)] rfl ⟨rfl, rfl, trivial⟩ ?_
      refine WO_end ?_
      cases hm
      exact WK_ret (ret_out (L := []) (RLc_tmp rfl RLc_nil) (List.nil_sublist _) rfl)
    · have hm := ifF hb5 hm
      refine WK_skip ?_
      refine WK_seq ?_
      refine WK_seq ?_
      refine WK_region ?_
      refine WO_pure tbok 1 [(1, .pointer (some ⟨b2, 0, none⟩)), (2, .int .i64 0), (35, .pointer (some ⟨b2, 3, none⟩))] rfl ⟨rfl, rfl, rfl, trivial⟩ ?_
      refine WO_loadB tbok 0 rfl rfl rfl rfl (fun _ h => h) rfl rfl ?_
      refine WO_pure tbok 1 [(2, .int .i64 0), (36, .slice a_p0_3 p0_3.length c_p0_3), (37, .func (.func 71) #[] #[.pointer (some ⟨b2, 0, none⟩)])] rfl ⟨rfl, rfl, rfl, trivial⟩ ?_
      obtain ⟨y_3, hc6, hm⟩ := bind_some hm
      refine WO_call0 (.bool y_3) rfl rfl trivial rfl rfl rfl rfl St_closed ⟨40, #[], #[], rfl, callable_40, fun w hw => ⟨_, hw.satV, slices_ContainsFunc_sint_walk (h_p0_3.mono (mono_FE _) hw.leV) (fun m1 hm1 z_2 _ h => specV_cap callable_71 (raster_Check_c1_walk (hm1 _ _ (hw.memV (i := 0) rfl (List.mem_singleton.2 rfl))) ((h_p0_3.mono (mono_FE _) hw.leV).mono (mono_FE _) hm1) h)) hc6⟩⟩ ?_
      refine WO_end ?_
      refine WK_cond (b := y_3) rfl (fun hb7 => ?_) (fun hb7 => ?_)
      · have hm := ifT hb7 hm
        refine WK_seq ?_
        refine WK_region ?_
        refine WO_pure tbok 1 [(2, .int .i64 1)] rfl ⟨rfl, trivial⟩ ?_
        refine WO_end ?_
        cases hm
        exact WK_ret (ret_out (L := []) (RLc_tmp rfl RLc_nil) (List.nil_sublist _) rfl)
      · have hm := ifF hb7 hm
        refine WK_skip ?_
        refine WK_seq ?_
        refine WK_region ?_
        refine WO_pure tbok 1 [(2, .int .i64 0)] rfl ⟨rfl, trivial⟩ ?_
        refine WO_end ?_
        cases hm
        exact WK_ret (ret_out (L := []) (RLc_tmp rfl RLc_nil) (List.nil_sublist _) rfl)
  · refine WK_region ?_
    refine WO_pure tbok 1 [(1, .pointer (some ⟨b2, 0, none⟩)), (2, .int .i64 0), (3, .pointer (some ⟨b2, 0, none⟩))] rfl ⟨rfl, rfl, rfl, trivial⟩ ?_
    refine WO_loadB tbok 0 rfl rfl rfl rfl (fun _ h => h) rfl rfl ?_
    refine WO_pure tbok 1 [(1, .pointer (some ⟨b2, 0, none⟩)), (2, .int .i64 0), (4, .int .i64 p0_0), (5, .pointer (some ⟨b2, 1, none⟩))] rfl ⟨rfl, rfl, rfl, rfl, trivial⟩ ?_
    refine WO_loadB tbok 0 rfl rfl rfl rfl (fun _ h => h) rfl rfl ?_
    refine WO_pure tbok 1 [(1, .pointer (some ⟨b2, 0, none⟩)), (2, .int .i64 0), (4, .int .i64 p0_0), (6, .int .i64 p0_1), (7, .pointer (some ⟨b2, 2, none⟩))] rfl ⟨rfl, rfl, rfl, rfl, rfl, trivial⟩ ?_
    refine WO_loadB tbok 0 rfl rfl rfl rfl (fun _ h => h) rfl rfl ?_
    refine WO_pure tbok 3 [(1, .pointer (some ⟨b2, 0, none⟩)), (2, .int .i64 0), (11, .bool (decide ((if p0_2 < (if p0_1 < p0_0 then p0_1 else p0_0) then p0_2 else (if p0_1 < p0_0 then p0_1 else p0_0)) < 1)))] rfl ⟨rfl, rfl, rfl, trivial⟩ ?_
    refine WO_split (d := 11) (b := decide ((if p0_2 < (if p0_1 < p0_0 then p0_1 else p0_0) then p0_2 else (if p0_1 < p0_0 then p0_1 else p0_0)) < 1)) rfl (fun hb8 => ?_) (fun hb8 => ?_)
    · have hx3 := ifT hb8 hx3
      refine WO_pure tbok 23 [(1, .pointer (some ⟨b2, 0, none⟩)), (2, .int .i64 0), (34, .bool true)] rfl ⟨rfl, rfl, rfl, trivial⟩ ?_
      refine WO_end ?_
      cases hx3
      refine WK.sub ?_ (WK.cls (fun _ h => h) hk4)
      exact ⟨rfl, rfl, rfl, trivial⟩
    · have hx3 := ifF hb8 hx3
      refine WO_pure tbok 1 [(1, .pointer (some ⟨b2, 0, none⟩)), (2, .int .i64 0), (11, .bool false), (12, .pointer (some ⟨b2, 0, none⟩))] rfl ⟨rfl, rfl, rfl, rfl, trivial⟩ ?_
      refine WO_loadB tbok 0 rfl rfl rfl rfl (fun _ h => h) rfl rfl ?_
      refine WO_pure tbok 1 [(1, .pointer (some ⟨b2, 0, none⟩)), (2, .int .i64 0), (11, .bool false), (13, .int .i64 p0_0), (14, .pointer (some ⟨b2, 1, none⟩))] rfl ⟨rfl, rfl, rfl, rfl, rfl, trivial⟩ ?_
      refine WO_loadB tbok 0 rfl rfl rfl rfl (fun _ h => h) rfl rfl ?_
      refine WO_pure tbok 4 [(1, .pointer (some ⟨b2, 0, none⟩)), (2, .int .i64 0), (19, .bool (decide (64 < (if p0_0 < p0_1 then p0_1 else p0_0))))] rfl ⟨rfl, rfl, rfl, trivial⟩ ?_
      refine WO_split (d := 19) (b := decide (64 < (if p0_0 < p0_1 then p0_1 else p0_0))) rfl (fun hb9 => ?_) (fun hb9 => ?_)
      · have hx3 := ifT hb9 hx3
        refine WO_pure tbok 15 [(1, .pointer (some ⟨b2, 0, none⟩)), (2, .int .i64 0), (34, .bool true)] rfl ⟨rfl, rfl, rfl, trivial⟩ ?_
        refine WO_end ?_
        cases hx3
        refine WK.sub ?_ (WK.cls (fun _ h => h) hk4)
        exact ⟨rfl, rfl, rfl, trivial⟩
      · have hx3 := ifF hb9 hx3
        refine WO_pure tbok 1 [(1, .pointer (some ⟨b2, 0, none⟩)), (2, .int .i64 0), (19, .bool false), (20, .pointer (some ⟨b2, 2, none⟩))] rfl ⟨rfl, rfl, rfl, rfl, trivial⟩ ?_
        refine WO_loadB tbok 0 rfl rfl rfl rfl (fun _ h => h) rfl rfl ?_
        refine WO_pure tbok 3 [(1, .pointer (some ⟨b2, 0, none⟩)), (2, .int .i64 0), (24, .bool (decide (65535 < p0_2)))] rfl ⟨rfl, rfl, rfl, trivial⟩ ?_
        refine WO_split (d := 24) (b := decide (65535 < p0_2)) rfl (fun hb10 => ?_) (fun hb10 => ?_)
        · have hx3 := ifT hb10 hx3
          refine WO_pure tbok 10 [(1, .pointer (some ⟨b2, 0, none⟩)), (2, .int .i64 0), (34, .bool true)] rfl ⟨rfl, rfl, rfl, trivial⟩ ?_
          refine WO_end ?_
          cases hx3
          refine WK.sub ?_ (WK.cls (fun _ h => h) hk4)
          exact ⟨rfl, rfl, rfl, trivial⟩
        · have hx3 := ifF hb10 hx3
          refine WO_pure tbok 1 [(1, .pointer (some ⟨b2, 0, none⟩)), (2, .int .i64 0), (24, .bool false), (25, .pointer (some ⟨b2, 3, none⟩))] rfl ⟨rfl, rfl, rfl, rfl, trivial⟩ ?_
          refine WO_loadB tbok 0 rfl rfl rfl rfl (fun _ h => h) rfl rfl ?_
          refine WO_pure tbok 2 [(1, .pointer (some ⟨b2, 0, none⟩)), (2, .int .i64 0), (24, .bool false), (27, .int .i64 (p0_3.length : Int)), (28, .pointer (some ⟨b2, 0, none⟩))] rfl ⟨rfl, rfl, rfl, rfl, rfl, trivial⟩ ?_
          refine WO_loadB tbok 0 rfl rfl rfl rfl (fun _ h => h) rfl rfl ?_
          refine WO_pure tbok 1 [(1, .pointer (some ⟨b2, 0, none⟩)), (2, .int .i64 0), (24, .bool false), (27, .int .i64 (p0_3.length : Int)), (29, .int .i64 p0_0), (30, .pointer (some ⟨b2, 1, none⟩))] rfl ⟨rfl, rfl, rfl, rfl, rfl, rfl, trivial⟩ ?_
          refine WO_loadB tbok 0 rfl rfl rfl rfl (fun _ h => h) rfl rfl ?_
          refine WO_pure tbok 3 [(1, .pointer (some ⟨b2, 0, none⟩)), (2, .int .i64 0), (34, .bool ((p0_3.length : Int) != (w64 (p0_0 * p0_1))))] rfl ⟨rfl, rfl, rfl, trivial⟩ ?_
          refine WO_end ?_
          cases hx3
          refine WK.sub ?_ (WK.cls (fun _ h => h) hk4)
          exact ⟨rfl, rfl, rfl, trivial⟩
theorem census_both_walk {m : Mu} {p0_0 : Int} {p0_1 : Int} {p0_2 : Int} {p0_3 : List Int} {p1_0 : Int} {p1_1 : Int} {p1_2 : Int} {p1_3 : List Int} {a_p0_3 : Option Addr} {q_p0_3 c_p0_3 : Nat} {a_p1_3 : Option Addr} {q_p1_3 c_p1_3 : Nat} (h_p0_3 : SlR (FE (I1 .i64)) 1 m (.slice a_p0_3 q_p0_3 c_p0_3) p0_3) (h_p1_3 : SlR (FE (I1 .i64)) 1 m (.slice a_p1_3 q_p1_3 c_p1_3) p1_3) {r : Int} (hm : census_both p0_0 p0_1 p0_2 p0_3 p1_0 p1_1 p1_2 p1_3 = some r) :
    Go.E.Spec Try.prog 27 [.agg #[.int .i64 p0_0, .int .i64 p0_1, .int .i64 p0_2, .slice a_p0_3 q_p0_3 c_p0_3], .agg #[.int .i64 p1_0, .int .i64 p1_1, .int .i64 p1_2, .slice a_p1_3 q_p1_3 c_p1_3]] m (fun v _ _ => v = .int .i64 r) := by
  refine Spec_enter Try.func27 rfl rfl rfl (fun w0 => ?_)
  refine WK.sub (e' := [(0, .agg #[.int .i64 p0_0, .int .i64 p0_1, .int .i64 p0_2, .slice a_p0_3 q_p0_3 c_p0_3]), (1, .agg #[.int .i64 p1_0, .int .i64 p1_1, .int .i64 p1_2, .slice a_p1_3 q_p1_3 c_p1_3])]) ⟨rfl, rfl, trivial⟩ ?_
  obtain rfl := SlR.qlen h_p0_3
  obtain rfl := SlR.qlen h_p1_3
  refine WK.sub (e' := [(0, .agg #[.int .i64 p0_0, .int .i64 p0_1, .int .i64 p0_2, .slice a_p0_3 p0_3.length c_p0_3]), (1, .agg #[.int .i64 p1_0, .int .i64 p1_1, .int .i64 p1_2, .slice a_p1_3 p1_3.length c_p1_3])]) ⟨rfl, rfl, trivial⟩ ?_
  unfold census_both at hm
  refine WK_seq ?_
  refine WK_region ?_
  refine WO_box [.int .i64 p0_0, .int .i64 p0_1, .int .i64 p0_2, .slice a_p0_3 p0_3.length c_p0_3] rfl rfl trivial rfl rfl rfl (fun b3 => ?_)
  refine WO.cls (C' := St w0 m m [[⟨b3, 24, [.int .i64 p0_0, .int .i64 p0_1, .int .i64 p0_2, .slice a_p0_3 p0_3.length c_p0_3]⟩]]) (fun _ h => h) ?_
  refine WO_box [.int .i64 p1_0, .int .i64 p1_1, .int .i64 p1_2, .slice a_p1_3 p1_3.length c_p1_3] rfl rfl trivial rfl rfl rfl (fun b4 => ?_)
  refine WO.cls (C' := St w0 m m [[⟨b3, 24, [.int .i64 p0_0, .int .i64 p0_1, .int .i64 p0_2, .slice a_p0_3 p0_3.length c_p0_3]⟩], [⟨b4, 24, [.int .i64 p1_0, .int .i64 p1_1, .int .i64 p1_2, .slice a_p1_3 p1_3.length c_p1_3]⟩]]) (fun _ h => h) ?_
  refine WO_pure tbok 1 [(2, .pointer (some ⟨b3, 0, none⟩)), (3, .pointer (some ⟨b4, 0, none⟩)), (4, .int .i64 0)] rfl ⟨rfl, rfl, rfl, trivial⟩ ?_
  refine WO_end ?_
  refine WK_seq ?_
  refine WK_seq ?_
  refine WK_region ?_
  refine WO_loadB tbok 0 rfl rfl rfl rfl (fun _ h => h) rfl rfl ?_
  refine WO_loadB tbok 1 rfl rfl rfl rfl (fun _ h => h) rfl rfl ?_
  refine WO_bsliceX (E := V4) (El := El24) tbok (fun _ => rfl) (by decide) [.agg #[.int .i64 p0_0, .int .i64 p0_1, .int .i64 p0_2, .slice a_p0_3 p0_3.length c_p0_3], .agg #[.int .i64 p1_0, .int .i64 p1_1, .int .i64 p1_2, .slice a_p1_3 p1_3.length c_p1_3]] [(.int .i64 p0_0, .int .i64 p0_1, .int .i64 p0_2, .slice a_p0_3 p0_3.length c_p0_3), (.int .i64 p1_0, .int .i64 p1_1, .int .i64 p1_2, .slice a_p1_3 p1_3.length c_p1_3)] ([(p0_0, p0_1, p0_2, p0_3), (p1_0, p1_1, p1_2, p1_3)] : List (Int × Int × Int × List Int)) rfl rfl trivial rfl rfl rfl rfl rfl rfl rfl rfl rfl rfl rfl rfl ⟨⟨_, _, _, rfl, h_p0_3⟩, ⟨_, _, _, rfl, h_p1_3⟩, trivial⟩ (fun b5 hb5 => ?_)
  refine WO.cls (C' := St w0 m m [[⟨b3, 24, [.int .i64 p0_0, .int .i64 p0_1, .int .i64 p0_2, .slice a_p0_3 p0_3.length c_p0_3]⟩], [⟨b4, 24, [.int .i64 p1_0, .int .i64 p1_1, .int .i64 p1_2, .slice a_p1_3 p1_3.length c_p1_3]⟩], [⟨b5, 24, [.int .i64 p0_0, .int .i64 p0_1, .int .i64 p0_2, .slice a_p0_3 p0_3.length c_p0_3, .int .i64 p1_0, .int .i64 p1_1, .int .i64 p1_2, .slice a_p1_3 p1_3.length c_p1_3]⟩]]) (fun _ h => h) ?_
  refine WO_pure tbok 2 [(2, .pointer (some ⟨b3, 0, none⟩)), (3, .pointer (some ⟨b4, 0, none⟩)), (4, .int .i64 0), (10, .slice (some ⟨b5, 0, none⟩) 2 2), (11, .int .i64 2), (12, .int .i64 0)] rfl ⟨rfl, rfl, rfl, rfl, rfl, rfl, trivial⟩ ?_
  refine WO_end ?_
  obtain ⟨x7, hx8, hm⟩ := bind_some hm
  refine WK_join (β := Unit × Unit) (fun p => Sum.inr p.1 = x7) (fun p => [(2, .pointer (some ⟨b3, 0, none⟩)), (3, .pointer (some ⟨b4, 0, none⟩)), (4, .int .i64 0)]) (fun p => St w0 m m [[⟨b3, 24, [.int .i64 p0_0, .int .i64 p0_1, .int .i64 p0_2, .slice a_p0_3 p0_3.length c_p0_3]⟩], [⟨b4, 24, [.int .i64 p1_0, .int .i64 p1_1, .int .i64 p1_2, .slice a_p1_3 p1_3.length c_p1_3]⟩], [⟨b5, 24, [.int .i64 p0_0, .int .i64 p0_1, .int .i64 p0_2, .slice a_p0_3 p0_3.length c_p0_3, .int .i64 p1_0, .int .i64 p1_1, .int .i64 p1_2, .slice a_p1_3 p1_3.length c_p1_3]⟩]]) ?_ (fun hk9 => ?_)
  · rintro ⟨⟨⟩, ⟨⟩⟩ hq15
    subst hq15
    refine WK.sub (e' := [(2, .pointer (some ⟨b3, 0, none⟩)), (3, .pointer (some ⟨b4, 0, none⟩)), (4, .int .i64 0)]) ⟨rfl, rfl, rfl, trivial⟩ (WK.cls (C' := St w0 m m [[⟨b3, 24, [.int .i64 p0_0, .int .i64 p0_1, .int .i64 p0_2, .slice a_p0_3 p0_3.length c_p0_3]⟩], [⟨b4, 24, [.int .i64 p1_0, .int .i64 p1_1, .int .i64 p1_2, .slice a_p1_3 p1_3.length c_p1_3]⟩], [⟨b5, 24, [.int .i64 p0_0, .int .i64 p0_1, .int .i64 p0_2, .slice a_p0_3 p0_3.length c_p0_3, .int .i64 p1_0, .int .i64 p1_1, .int .i64 p1_2, .slice a_p1_3 p1_3.length c_p1_3]⟩]]) (fun _ h => h) ?_)
    refine WK_seq ?_
    refine WK_seq ?_
    obtain ⟨s_2, hx16, hm⟩ := bind_some hm
    refine WK_meet [(4, .int .i64 0), (40, .bool s_2)] (St w0 m m [[⟨b3, 24, [.int .i64 p0_0, .int .i64 p0_1, .int .i64 p0_2, .slice a_p0_3 p0_3.length c_p0_3]⟩], [⟨b4, 24, [.int .i64 p1_0, .int .i64 p1_1, .int .i64 p1_2, .slice a_p1_3 p1_3.length c_p1_3]⟩], [⟨b5, 24, [.int .i64 p0_0, .int .i64 p0_1, .int .i64 p0_2, .slice a_p0_3 p0_3.length c_p0_3, .int .i64 p1_0, .int .i64 p1_1, .int .i64 p1_2, .slice a_p1_3 p1_3.length c_p1_3]⟩]]) ?_ (fun hk17 => ?_)
    · refine WK_cond (b := s_2) rfl (fun hb18 => ?_) (fun hb18 => ?_)
      · have hm := ifT hb18 hm
        refine WK_seq ?_
        refine WK_region ?_
        refine WO_pure tbok 1 [(4, .int .i64 4)] rfl ⟨rfl, trivial⟩ ?_
        refine WO_end ?_
        cases hm
        exact WK_ret (ret_out (L := []) (RLc_tmp rfl RLc_nil) (List.nil_sublist _) rfl)
      · have hm := ifF hb18 hm
        refine WK_skip ?_
        refine WK_seq ?_
        refine WK_region ?_
        refine WO_pure tbok 1 [(4, .int .i64 0)] rfl ⟨rfl, trivial⟩ ?_
        refine WO_end ?_
        cases hm
        exact WK_ret (ret_out (L := []) (RLc_tmp rfl RLc_nil) (List.nil_sublist _) rfl)
    · refine WK_region ?_
      refine WO_pure tbok 1 [(2, .pointer (some ⟨b3, 0, none⟩)), (3, .pointer (some ⟨b4, 0, none⟩)), (4, .int .i64 0), (22, .pointer (some ⟨b3, 0, none⟩))] rfl ⟨rfl, rfl, rfl, rfl, trivial⟩ ?_
      refine WO_loadB tbok 0 rfl rfl rfl rfl (fun _ h => h) rfl rfl ?_
      refine WO_pure tbok 1 [(2, .pointer (some ⟨b3, 0, none⟩)), (3, .pointer (some ⟨b4, 0, none⟩)), (4, .int .i64 0), (23, .int .i64 p0_0), (24, .pointer (some ⟨b4, 0, none⟩))] rfl ⟨rfl, rfl, rfl, rfl, rfl, trivial⟩ ?_
      refine WO_loadB tbok 1 rfl rfl rfl rfl (fun _ h => h) rfl rfl ?_
      refine WO_pure tbok 2 [(2, .pointer (some ⟨b3, 0, none⟩)), (3, .pointer (some ⟨b4, 0, none⟩)), (4, .int .i64 0), (27, .bool (p0_0 != p1_0))] rfl ⟨rfl, rfl, rfl, rfl, trivial⟩ ?_
      refine WO_split (d := 27) (b := p0_0 != p1_0) rfl (fun hb19 => ?_) (fun hb19 => ?_)
      · have hx16 := ifT hb19 hx16
        refine WO_pure tbok 13 [(4, .int .i64 0), (40, .bool true)] rfl ⟨rfl, rfl, trivial⟩ ?_
        refine WO_end ?_
        cases hx16
        refine WK.sub ?_ (WK.cls (fun _ h => h) hk17)
        exact ⟨rfl, rfl, trivial⟩
      · have hx16 := ifF hb19 hx16
        refine WO_pure tbok 1 [(2, .pointer (some ⟨b3, 0, none⟩)), (3, .pointer (some ⟨b4, 0, none⟩)), (4, .int .i64 0), (27, .bool false), (28, .pointer (some ⟨b3, 1, none⟩))] rfl ⟨rfl, rfl, rfl, rfl, rfl, trivial⟩ ?_
        refine WO_loadB tbok 0 rfl rfl rfl rfl (fun _ h => h) rfl rfl ?_
        refine WO_pure tbok 1 [(2, .pointer (some ⟨b3, 0, none⟩)), (3, .pointer (some ⟨b4, 0, none⟩)), (4, .int .i64 0), (27, .bool false), (29, .int .i64 p0_1), (30, .pointer (some ⟨b4, 1, none⟩))] rfl ⟨rfl, rfl, rfl, rfl, rfl, rfl, trivial⟩ ?_
        refine WO_loadB tbok 1 rfl rfl rfl rfl (fun _ h => h) rfl rfl ?_
        refine WO_pure tbok 3 [(2, .pointer (some ⟨b3, 0, none⟩)), (3, .pointer (some ⟨b4, 0, none⟩)), (4, .int .i64 0), (34, .bool (p0_1 != p1_1))] rfl ⟨rfl, rfl, rfl, rfl, trivial⟩ ?_
        refine WO_split (d := 34) (b := p0_1 != p1_1) rfl (fun hb20 => ?_) (fun hb20 => ?_)
        · have hx16 := ifT hb20 hx16
          refine WO_pure tbok 6 [(4, .int .i64 0), (40, .bool true)] rfl ⟨rfl, rfl, trivial⟩ ?_
          refine WO_end ?_
          cases hx16
          refine WK.sub ?_ (WK.cls (fun _ h => h) hk17)
          exact ⟨rfl, rfl, trivial⟩
        · have hx16 := ifF hb20 hx16
          refine WO_pure tbok 1 [(3, .pointer (some ⟨b4, 0, none⟩)), (4, .int .i64 0), (34, .bool false), (35, .pointer (some ⟨b3, 2, none⟩))] rfl ⟨rfl, rfl, rfl, rfl, trivial⟩ ?_
          refine WO_loadB tbok 0 rfl rfl rfl rfl (fun _ h => h) rfl rfl ?_
          refine WO_pure tbok 1 [(4, .int .i64 0), (34, .bool false), (36, .int .i64 p0_2), (37, .pointer (some ⟨b4, 2, none⟩))] rfl ⟨rfl, rfl, rfl, rfl, trivial⟩ ?_
          refine WO_loadB tbok 1 rfl rfl rfl rfl (fun _ h => h) rfl rfl ?_
          refine WO_pure tbok 2 [(4, .int .i64 0), (40, .bool (p0_2 != p1_2))] rfl ⟨rfl, rfl, trivial⟩ ?_
          refine WO_end ?_
          cases hx16
          refine WK.sub ?_ (WK.cls (fun _ h => h) hk17)
          exact ⟨rfl, rfl, trivial⟩
  · refine WK_block ?_
    refine WK_loop (S := Int) (G := Unit) (fun s => census_both_s1 p0_0 p0_1 p0_2 p0_3 p1_0 p1_1 p1_2 p1_3 s) (fun s g => [(2, .pointer (some ⟨b3, 0, none⟩)), (3, .pointer (some ⟨b4, 0, none⟩)), (4, .int .i64 0), (10, .slice (some ⟨b5, 0, none⟩) 2 2), (11, .int .i64 2), (12, .int .i64 s)]) (fun s g => St w0 m m [[⟨b3, 24, [.int .i64 p0_0, .int .i64 p0_1, .int .i64 p0_2, .slice a_p0_3 p0_3.length c_p0_3]⟩], [⟨b4, 24, [.int .i64 p1_0, .int .i64 p1_1, .int .i64 p1_2, .slice a_p1_3 p1_3.length c_p1_3]⟩], [⟨b5, 24, [.int .i64 p0_0, .int .i64 p0_1, .int .i64 p0_2, .slice a_p0_3 p0_3.length c_p0_3, .int .i64 p1_0, .int .i64 p1_1, .int .i64 p1_2, .slice a_p1_3 p1_3.length c_p1_3]⟩]]) (fun s g => True) FUEL 0 () x7 hx8 trivial ⟨rfl, rfl, rfl, rfl, rfl, rfl, trivial⟩ (fun _ h => h) ?_
    rintro s_1 ⟨⟩ o11 fl12 hm10 - hn13 hd14
    have hm10 : census_both_s1 p0_0 p0_1 p0_2 p0_3 p1_0 p1_1 p1_2 p1_3 s_1 = some o11 := hm10
    unfold census_both_s1 at hm10
    refine WK.sub (e' := [(2, .pointer (some ⟨b3, 0, none⟩)), (3, .pointer (some ⟨b4, 0, none⟩)), (4, .int .i64 0), (10, .slice (some ⟨b5, 0, none⟩) 2 2), (11, .int .i64 2), (12, .int .i64 s_1)]) ⟨rfl, rfl, rfl, rfl, rfl, rfl, trivial⟩ (WK.cls (C' := St w0 m m [[⟨b3, 24, [.int .i64 p0_0, .int .i64 p0_1, .int .i64 p0_2, .slice a_p0_3 p0_3.length c_p0_3]⟩], [⟨b4, 24, [.int .i64 p1_0, .int .i64 p1_1, .int .i64 p1_2, .slice a_p1_3 p1_3.length c_p1_3]⟩], [⟨b5, 24, [.int .i64 p0_0, .int .i64 p0_1, .int .i64 p0_2, .slice a_p0_3 p0_3.length c_p0_3, .int .i64 p1_0, .int .i64 p1_1, .int .i64 p1_2, .slice a_p1_3 p1_3.length c_p1_3]⟩]]) (fun _ h => h) ?_)
    refine WK_seq ?_
    refine WK_region ?_
    refine WO_pure tbok 1 [(2, .pointer (some ⟨b3, 0, none⟩)), (3, .pointer (some ⟨b4, 0, none⟩)), (4, .int .i64 0), (10, .slice (some ⟨b5, 0, none⟩) 2 2), (11, .int .i64 2), (12, .int .i64 s_1), (13, .bool (decide (s_1 < 2)))] rfl ⟨rfl, rfl, rfl, rfl, rfl, rfl, rfl, trivial⟩ ?_
    refine WO_end ?_
    refine WK_seq ?_
    refine WK_cond (b := decide (s_1 < 2)) rfl (fun hb21 => ?_) (fun hb21 => ?_)
    · have hm10 := ifT hb21 hm10
      refine WK_skip ?_
      refine WK_seq ?_
      refine WK_block ?_
      refine WK_seq ?_
      refine WK_region ?_
      obtain ⟨v_3, hy22, hm10⟩ := bind_some hm10
      obtain ⟨hc23, hy22⟩ := ix_some hy22
      refine WO_index tbok rfl rfl rfl rfl rfl rfl rfl rfl (OwnX.addr hb5) (by simpa using hc23) ?_
      refine WO_loadOX (E := V4) tbok (fun _ => rfl) 2 rfl rfl rfl rfl (fun _ h => h) hb5 rfl hy22 (fun cs hcs => ?_)
      obtain ⟨a24, qa24, c25, rfl, h26⟩ := hcs
      obtain rfl := SlR.qlen h26
      refine ⟨_, rfl, ?_⟩
      refine WO_alloc tbok [.int .i64 0, .int .i64 0, .int .i64 0, .slice none 0 0] rfl rfl trivial rfl rfl rfl rfl (fun b28 => ?_)
      refine WO.cls (C' := St w0 m m [[⟨b3, 24, [.int .i64 p0_0, .int .i64 p0_1, .int .i64 p0_2, .slice a_p0_3 p0_3.length c_p0_3]⟩], [⟨b4, 24, [.int .i64 p1_0, .int .i64 p1_1, .int .i64 p1_2, .slice a_p1_3 p1_3.length c_p1_3]⟩], [⟨b5, 24, [.int .i64 p0_0, .int .i64 p0_1, .int .i64 p0_2, .slice a_p0_3 p0_3.length c_p0_3, .int .i64 p1_0, .int .i64 p1_1, .int .i64 p1_2, .slice a_p1_3 p1_3.length c_p1_3]⟩], [⟨b28, 24, [.int .i64 0, .int .i64 0, .int .i64 0, .slice none 0 0]⟩]]) (fun _ h => h) ?_
      refine WO_storeB tbok 3 [.int .i64 v_3.1, .int .i64 v_3.2.1, .int .i64 v_3.2.2.1, .slice a24 ((v_3.2.2.2).length) c25] rfl rfl rfl rfl rfl rfl rfl ?_
      refine WO.cls (C' := St w0 m m [[⟨b3, 24, [.int .i64 p0_0, .int .i64 p0_1, .int .i64 p0_2, .slice a_p0_3 p0_3.length c_p0_3]⟩], [⟨b4, 24, [.int .i64 p1_0, .int .i64 p1_1, .int .i64 p1_2, .slice a_p1_3 p1_3.length c_p1_3]⟩], [⟨b5, 24, [.int .i64 p0_0, .int .i64 p0_1, .int .i64 p0_2, .slice a_p0_3 p0_3.length c_p0_3, .int .i64 p1_0, .int .i64 p1_1, .int .i64 p1_2, .slice a_p1_3 p1_3.length c_p1_3]⟩], [⟨b28, 24, [.int .i64 v_3.1, .int .i64 v_3.2.1, .int .i64 v_3.2.2.1, .slice a24 ((v_3.2.2.2).length) c25]⟩]]) (fun _ h => h) ?_
      refine WO_end ?_
      refine WK_seq ?_
      refine WK_region ?_
      refine WO_loadB tbok 3 rfl rfl rfl rfl (fun _ h => h) rfl rfl ?_
      obtain ⟨y_4, hc29, hm10⟩ := bind_some hm10
      refine WO_call0 (.int .i64 y_4) rfl rfl trivial rfl rfl rfl rfl St_closed ⟨43, #[], #[], rfl, callable_43, fun w hw => ⟨_, hw.sat, raster_Check_walk h26 hc29⟩⟩ ?_
      refine WO_pure tbok 1 [(2, .pointer (some ⟨b3, 0, none⟩)), (3, .pointer (some ⟨b4, 0, none⟩)), (4, .int .i64 0), (7, .int .i64 y_4), (10, .slice (some ⟨b5, 0, none⟩) 2 2), (11, .int .i64 2), (12, .int .i64 s_1)] rfl ⟨rfl, rfl, rfl, rfl, rfl, rfl, rfl, trivial⟩ ?_
      refine WO_end ?_
      refine WK_seq ?_
      refine WK_region ?_
      refine WO_pure tbok 2 [(2, .pointer (some ⟨b3, 0, none⟩)), (3, .pointer (some ⟨b4, 0, none⟩)), (4, .int .i64 0), (7, .int .i64 y_4), (10, .slice (some ⟨b5, 0, none⟩) 2 2), (11, .int .i64 2), (12, .int .i64 s_1), (19, .bool (y_4 != 0))] rfl ⟨rfl, rfl, rfl, rfl, rfl, rfl, rfl, rfl, trivial⟩ ?_
      refine WO_end ?_
      refine WK_cond (b := y_4 != 0) rfl (fun hb30 => ?_) (fun hb30 => ?_)
      · have hm10 := ifT hb30 hm10
        refine WK_seq ?_
        refine WK_region ?_
        refine WO_pure tbok 2 [(2, .pointer (some ⟨b3, 0, none⟩)), (3, .pointer (some ⟨b4, 0, none⟩)), (4, .int .i64 y_4), (10, .slice (some ⟨b5, 0, none⟩) 2 2), (11, .int .i64 2), (12, .int .i64 s_1)] rfl ⟨rfl, rfl, rfl, rfl, rfl, rfl, trivial⟩ ?_
        refine WO_end ?_
        cases hm10
        have hq := hd14 _ rfl
        subst hq
        have hm : some _ = some _ := hm
        cases hm
        exact WK_ret (ret_out (L := []) (RLc_tmp rfl RLc_nil) (List.nil_sublist _) rfl)
      · have hm10 := ifF hb30 hm10
        refine WK_skip ?_
        refine WK_blk ?_
        refine WK_region ?_
        refine WO_pure tbok 2 [(2, .pointer (some ⟨b3, 0, none⟩)), (3, .pointer (some ⟨b4, 0, none⟩)), (4, .int .i64 0), (10, .slice (some ⟨b5, 0, none⟩) 2 2), (11, .int .i64 2), (12, .int .i64 (w64 (s_1 + 1)))] rfl ⟨rfl, rfl, rfl, rfl, rfl, rfl, trivial⟩ ?_
        refine WO_end ?_
        cases hm10
        refine WK.sub ?_ (WK.cls (fun _ h => St.take 3 h) (hn13 _ () rfl trivial))
        exact ⟨rfl, rfl, rfl, rfl, rfl, rfl, trivial⟩
    · have hm10 := ifF hb21 hm10
      refine WK_exit rfl ?_
      cases hm10
      refine WK.sub ?_ (WK.cls (fun _ h => h) (hk9 ((), ()) (hd14 _ rfl)))
      exact ⟨rfl, rfl, rfl, trivial⟩
def census_costs_Q (r : Int × Int × Int × List Int) : Value → List Ent → Prop := fun v L => ∃ (a0 : Option Addr) (q0 c0 : Nat), v = .agg #[.int .i64 r.1, .int .i64 r.2.1, .int .i64 r.2.2.1, .slice a0 q0 c0] ∧ OwnE 3 1 (I1 .i64) (.slice a0 q0 c0) r.2.2.2 L
theorem census_costs_walk {m : Mu} {p0_0 : Int} {p0_1 : Int} {p0_2 : Int} {p0_3 : List Int} {p1 : List Int} {p2 : List Int} {p3 : Int} {p4 : Int} {p5 : Int → Int → Option Int} {a_p0_3 : Option Addr} {q_p0_3 c_p0_3 : Nat} {a_p1 : Option Addr} {q_p1 c_p1 : Nat} {a_p2 : Option Addr} {q_p2 c_p2 : Nat} {p5v : Value} (h_p0_3 : SlR (FE (I1 .i64)) 1 m (.slice a_p0_3 q_p0_3 c_p0_3) p0_3) (h_p1 : SlR (FE (I1 .i64)) 1 m (.slice a_p1 q_p1 c_p1) p1) (h_p2 : SlR (FE (I1 .i64)) 1 m (.slice a_p2 q_p2 c_p2) p2) (hp5 : ∀ (m1 : Mu), Le m m1 → ∀ (u1 : Int), ∀ (u2 : Int), ∀ (r : Int), p5 u1 u2 = some r → SpecV Try.prog p5v [.int .i64 u1, .int .i64 u2] m1 (fun v _ _ => v = .int .i64 r)) {r : Int × Int × Int × List Int} (hm : census_costs p0_0 p0_1 p0_2 p0_3 p1 p2 p3 p4 p5 = some r) :
    Go.E.Spec Try.prog 28 [.agg #[.int .i64 p0_0, .int .i64 p0_1, .int .i64 p0_2, .slice a_p0_3 q_p0_3 c_p0_3], .slice a_p1 q_p1 c_p1, .slice a_p2 q_p2 c_p2, .int .i64 p3, .int .i64 p4, p5v] m (fun v _ L => census_costs_Q r v L) := by
  refine Spec_enter Try.func28 rfl rfl rfl (fun w0 => ?_)
  refine WK.sub (e' := [(0, .agg #[.int .i64 p0_0, .int .i64 p0_1, .int .i64 p0_2, .slice a_p0_3 q_p0_3 c_p0_3]), (1, .slice a_p1 q_p1 c_p1), (2, .slice a_p2 q_p2 c_p2), (3, .int .i64 p3), (4, .int .i64 p4), (5, p5v)]) ⟨rfl, rfl, rfl, rfl, rfl, rfl, trivial⟩ ?_
  obtain rfl := SlR.qlen h_p0_3
  obtain rfl := SlR.qlen h_p1
  obtain rfl := SlR.qlen h_p2
  refine WK.sub (e' := [(0, .agg #[.int .i64 p0_0, .int .i64 p0_1, .int .i64 p0_2, .slice a_p0_3 p0_3.length c_p0_3]), (1, .slice a_p1 p1.length c_p1), (2, .slice a_p2 p2.length c_p2), (3, .int .i64 p3), (4, .int .i64 p4), (5, p5v)]) ⟨rfl, rfl, rfl, rfl, rfl, rfl, trivial⟩ ?_
  unfold census_costs at hm
  refine WK_seq ?_
  refine WK_region ?_
  refine WO_box [.int .i64 p0_0, .int .i64 p0_1, .int .i64 p0_2, .slice a_p0_3 p0_3.length c_p0_3] rfl rfl trivial rfl rfl rfl (fun b4 => ?_)
  refine WO.cls (C' := St w0 m m [[⟨b4, 24, [.int .i64 p0_0, .int .i64 p0_1, .int .i64 p0_2, .slice a_p0_3 p0_3.length c_p0_3]⟩]]) (fun _ h => h) ?_
  refine WO_alloc tbok [.int .i64 0, .int .i64 0, .int .i64 0, .slice none 0 0] rfl rfl trivial rfl rfl rfl rfl (fun b5 => ?_)
  refine WO.cls (C' := St w0 m m [[⟨b4, 24, [.int .i64 p0_0, .int .i64 p0_1, .int .i64 p0_2, .slice a_p0_3 p0_3.length c_p0_3]⟩], [⟨b5, 32, [.int .i64 0, .int .i64 0, .int .i64 0, .slice none 0 0]⟩]]) (fun _ h => h) ?_
  refine WO_end ?_
  refine WK_seq ?_
  refine WK_region ?_
  refine WO_pure tbok 1 [(1, .slice a_p1 p1.length c_p1), (2, .slice a_p2 p2.length c_p2), (3, .int .i64 p3), (4, .int .i64 p4), (5, p5v), (6, .pointer (some ⟨b4, 0, none⟩)), (12, .pointer (some ⟨b5, 0, none⟩)), (18, .pointer (some ⟨b4, 0, none⟩))] rfl ⟨rfl, rfl, rfl, rfl, rfl, rfl, rfl, rfl, trivial⟩ ?_
  refine WO_loadB tbok 0 rfl rfl rfl rfl (fun _ h => h) rfl rfl ?_
  refine WO_pure tbok 1 [(1, .slice a_p1 p1.length c_p1), (2, .slice a_p2 p2.length c_p2), (3, .int .i64 p3), (4, .int .i64 p4), (5, p5v), (6, .pointer (some ⟨b4, 0, none⟩)), (12, .pointer (some ⟨b5, 0, none⟩)), (19, .int .i64 p0_0), (20, .pointer (some ⟨b4, 1, none⟩))] rfl ⟨rfl, rfl, rfl, rfl, rfl, rfl, rfl, rfl, rfl, trivial⟩ ?_
  refine WO_loadB tbok 0 rfl rfl rfl rfl (fun _ h => h) rfl rfl ?_
  refine WO_pure tbok 2 [(1, .slice a_p1 p1.length c_p1), (2, .slice a_p2 p2.length c_p2), (3, .int .i64 p3), (4, .int .i64 p4), (5, p5v), (6, .pointer (some ⟨b4, 0, none⟩)), (12, .pointer (some ⟨b5, 0, none⟩)), (23, .agg #[.int .i64 p0_0, .int .i64 p0_1, .int .i64 p3, .slice none 0 0])] rfl ⟨rfl, rfl, rfl, rfl, rfl, rfl, rfl, rfl, trivial⟩ ?_
  refine WO_alloc tbok [.int .i64 0, .int .i64 0, .int .i64 0, .slice none 0 0] rfl rfl trivial rfl rfl rfl rfl (fun b6 => ?_)
  refine WO.cls (C' := St w0 m m [[⟨b4, 24, [.int .i64 p0_0, .int .i64 p0_1, .int .i64 p0_2, .slice a_p0_3 p0_3.length c_p0_3]⟩], [⟨b5, 32, [.int .i64 0, .int .i64 0, .int .i64 0, .slice none 0 0]⟩], [⟨b6, 32, [.int .i64 0, .int .i64 0, .int .i64 0, .slice none 0 0]⟩]]) (fun _ h => h) ?_
  refine WO_storeB tbok 2 [.int .i64 p0_0, .int .i64 p0_1, .int .i64 p3, .slice none 0 0] rfl rfl rfl rfl rfl rfl rfl ?_
  refine WO.cls (C' := St w0 m m [[⟨b4, 24, [.int .i64 p0_0, .int .i64 p0_1, .int .i64 p0_2, .slice a_p0_3 p0_3.length c_p0_3]⟩], [⟨b5, 32, [.int .i64 0, .int .i64 0, .int .i64 0, .slice none 0 0]⟩], [⟨b6, 32, [.int .i64 p0_0, .int .i64 p0_1, .int .i64 p3, .slice none 0 0]⟩]]) (fun _ h => h) ?_
  refine WO_end ?_
  refine WK_seq ?_
  refine WK_seq ?_
  refine WK_region ?_
  refine WO_pure tbok 3 [(2, .slice a_p2 p2.length c_p2), (3, .int .i64 p3), (4, .int .i64 p4), (5, p5v), (6, .pointer (some ⟨b4, 0, none⟩)), (12, .pointer (some ⟨b5, 0, none⟩)), (13, .pointer (some ⟨b6, 0, none⟩)), (24, .slice a_p1 p1.length c_p1), (25, .int .i64 (p1.length : Int)), (26, .int .i64 0)] rfl ⟨rfl, rfl, rfl, rfl, rfl, rfl, rfl, rfl, rfl, rfl, trivial⟩ ?_
  refine WO_end ?_
  refine WK_pad ?_
  obtain ⟨x18, hx19, hm⟩ := bind_some hm
  refine WK_join (β := (List Int) × (Option Addr × Nat × Nat × List Ent)) (fun p => p.1 = x18 ∧ OwnE 3 1 (I1 .i64) (.slice p.2.1 p.2.2.1 p.2.2.2.1) p.1 p.2.2.2.2) (fun p => [(12, .pointer (some ⟨b5, 0, none⟩)), (13, .pointer (some ⟨b6, 0, none⟩))]) (fun p => St w0 m m [[⟨b4, 24, [.int .i64 p0_0, .int .i64 p0_1, .int .i64 p0_2, .slice a_p0_3 p0_3.length c_p0_3]⟩], [⟨b5, 32, [.int .i64 0, .int .i64 0, .int .i64 0, .slice none 0 0]⟩], [⟨b6, 32, [.int .i64 p0_0, .int .i64 p0_1, .int .i64 p3, .slice p.2.1 p.2.2.1 p.2.2.2.1]⟩], p.2.2.2.2]) ?_ (fun hk20 => ?_)
  · rintro ⟨l_3, ⟨a15, q16, c17, L14⟩⟩ ⟨hq26, hL14⟩
    subst hq26
    have hqq : q16 = l_3.length := OwnE.qlen hL14
    subst hqq
    refine WK.sub (e' := [(12, .pointer (some ⟨b5, 0, none⟩)), (13, .pointer (some ⟨b6, 0, none⟩))]) ⟨rfl, rfl, trivial⟩ (WK.cls (C' := St w0 m m [[⟨b4, 24, [.int .i64 p0_0, .int .i64 p0_1, .int .i64 p0_2, .slice a_p0_3 p0_3.length c_p0_3]⟩], [⟨b5, 32, [.int .i64 0, .int .i64 0, .int .i64 0, .slice none 0 0]⟩], [⟨b6, 32, [.int .i64 p0_0, .int .i64 p0_1, .int .i64 p3, .slice a15 ((l_3).length) c17]⟩], L14]) (fun _ h => h) ?_)
    refine WK_seq ?_
    refine WK_region ?_
    refine WO_loadB tbok 2 rfl rfl rfl rfl (fun _ h => h) rfl rfl ?_
    refine WO_storeB tbok 1 [.int .i64 p0_0, .int .i64 p0_1, .int .i64 p3, .slice a15 ((l_3).length) c17] rfl rfl rfl rfl rfl rfl rfl ?_
    refine WO.cls (C' := St w0 m m [[⟨b4, 24, [.int .i64 p0_0, .int .i64 p0_1, .int .i64 p0_2, .slice a_p0_3 p0_3.length c_p0_3]⟩], [⟨b5, 32, [.int .i64 p0_0, .int .i64 p0_1, .int .i64 p3, .slice a15 ((l_3).length) c17]⟩], [⟨b6, 32, [.int .i64 p0_0, .int .i64 p0_1, .int .i64 p3, .slice a15 ((l_3).length) c17]⟩], L14]) (fun _ h => h) ?_
    refine WO_end ?_
    cases hm
    exact WK_ret (ret_out (L := L14) (RLc_cell tbok 1 rfl rfl rfl RLc_nil) (seg_sub 3 rfl) ⟨a15, _, c17, rfl, hL14⟩)
  · refine WK_block ?_
    refine WK_loop (S := List Int × Int) (G := Option Addr × Nat × Nat × List Ent) (fun s => census_costs_s1 p0_0 p1 p2 p3 p4 p5 s.1 s.2) (fun s g => [(2, .slice a_p2 p2.length c_p2), (3, .int .i64 p3), (4, .int .i64 p4), (5, p5v), (6, .pointer (some ⟨b4, 0, none⟩)), (12, .pointer (some ⟨b5, 0, none⟩)), (13, .pointer (some ⟨b6, 0, none⟩)), (24, .slice a_p1 p1.length c_p1), (25, .int .i64 (p1.length : Int)), (26, .int .i64 s.2)]) (fun s g => St w0 m m [[⟨b4, 24, [.int .i64 p0_0, .int .i64 p0_1, .int .i64 p0_2, .slice a_p0_3 p0_3.length c_p0_3]⟩], [⟨b5, 32, [.int .i64 0, .int .i64 0, .int .i64 0, .slice none 0 0]⟩], [⟨b6, 32, [.int .i64 p0_0, .int .i64 p0_1, .int .i64 p3, .slice g.1 g.2.1 g.2.2.1]⟩], g.2.2.2]) (fun s g => OwnE 3 1 (I1 .i64) (.slice g.1 g.2.1 g.2.2.1) s.1 g.2.2.2) FUEL (([] : List Int), 0) (none, 0, 0, []) x18 hx19 (OwnE.nil (T := 3) (k := 1) (E := (I1 .i64)) none) ⟨rfl, rfl, rfl, rfl, rfl, rfl, rfl, rfl, rfl, rfl, trivial⟩ (fun _ h => h) ?_
    rintro ⟨l_1, s_2⟩ ⟨a10, q11, c12, L9⟩ o22 fl23 hm21 hL9 hn24 hd25
    have hm21 : census_costs_s1 p0_0 p1 p2 p3 p4 p5 l_1 s_2 = some o22 := hm21
    unfold census_costs_s1 at hm21
    have hqq : q11 = l_1.length := OwnE.qlen hL9
    subst hqq
    refine WK.sub (e' := [(2, .slice a_p2 p2.length c_p2), (3, .int .i64 p3), (4, .int .i64 p4), (5, p5v), (6, .pointer (some ⟨b4, 0, none⟩)), (12, .pointer (some ⟨b5, 0, none⟩)), (13, .pointer (some ⟨b6, 0, none⟩)), (24, .slice a_p1 p1.length c_p1), (25, .int .i64 (p1.length : Int)), (26, .int .i64 s_2)]) ⟨rfl, rfl, rfl, rfl, rfl, rfl, rfl, rfl, rfl, rfl, trivial⟩ (WK.cls (C' := St w0 m m [[⟨b4, 24, [.int .i64 p0_0, .int .i64 p0_1, .int .i64 p0_2, .slice a_p0_3 p0_3.length c_p0_3]⟩], [⟨b5, 32, [.int .i64 0, .int .i64 0, .int .i64 0, .slice none 0 0]⟩], [⟨b6, 32, [.int .i64 p0_0, .int .i64 p0_1, .int .i64 p3, .slice a10 ((l_1).length) c12]⟩], L9]) (fun _ h => h) ?_)
    refine WK_seq ?_
    refine WK_region ?_
    refine WO_pure tbok 1 [(2, .slice a_p2 p2.length c_p2), (3, .int .i64 p3), (4, .int .i64 p4), (5, p5v), (6, .pointer (some ⟨b4, 0, none⟩)), (12, .pointer (some ⟨b5, 0, none⟩)), (13, .pointer (some ⟨b6, 0, none⟩)), (24, .slice a_p1 p1.length c_p1), (25, .int .i64 (p1.length : Int)), (26, .int .i64 s_2), (27, .bool (decide (s_2 < (p1.length : Int))))] rfl ⟨rfl, rfl, rfl, rfl, rfl, rfl, rfl, rfl, rfl, rfl, rfl, trivial⟩ ?_
    refine WO_end ?_
    refine WK_seq ?_
    refine WK_cond (b := decide (s_2 < (p1.length : Int))) rfl (fun hb27 => ?_) (fun hb27 => ?_)
    · have hm21 := ifT hb27 hm21
      refine WK_skip ?_
      refine WK_seq ?_
      refine WK_block ?_
      refine WK_seq ?_
      refine WK_region ?_
      refine WO_pure tbok 1 [(2, .slice a_p2 p2.length c_p2), (3, .int .i64 p3), (4, .int .i64 p4), (5, p5v), (6, .pointer (some ⟨b4, 0, none⟩)), (12, .pointer (some ⟨b5, 0, none⟩)), (13, .pointer (some ⟨b6, 0, none⟩)), (24, .slice a_p1 p1.length c_p1), (25, .int .i64 (p1.length : Int)), (26, .int .i64 s_2), (28, .int .i64 s_2)] rfl ⟨rfl, rfl, rfl, rfl, rfl, rfl, rfl, rfl, rfl, rfl, rfl, trivial⟩ ?_
      obtain ⟨v_4, hy28, hm21⟩ := bind_some hm21
      obtain ⟨hc29, hy28⟩ := ix_some hy28
      refine WO_index tbok rfl rfl rfl rfl rfl rfl rfl rfl (SlR.addr h_p1) hc29 ?_
      refine WO_loadE tbok rfl rfl rfl rfl (fun _ h => St.sat h) h_p1 hy28 rfl ?_
      refine WO_pure tbok 2 [(2, .slice a_p2 p2.length c_p2), (3, .int .i64 p3), (4, .int .i64 p4), (5, p5v), (6, .pointer (some ⟨b4, 0, none⟩)), (12, .pointer (some ⟨b5, 0, none⟩)), (13, .pointer (some ⟨b6, 0, none⟩)), (14, .int .i64 s_2), (15, .int .i64 v_4), (24, .slice a_p1 p1.length c_p1), (25, .int .i64 (p1.length : Int)), (26, .int .i64 s_2)] rfl ⟨rfl, rfl, rfl, rfl, rfl, rfl, rfl, rfl, rfl, rfl, rfl, rfl, trivial⟩ ?_
      refine WO_end ?_
      refine WK_seq ?_
      refine WK_region ?_
      refine WO_pure tbok 2 [(2, .slice a_p2 p2.length c_p2), (3, .int .i64 p3), (4, .int .i64 p4), (5, p5v), (6, .pointer (some ⟨b4, 0, none⟩)), (12, .pointer (some ⟨b5, 0, none⟩)), (13, .pointer (some ⟨b6, 0, none⟩)), (14, .int .i64 s_2), (15, .int .i64 v_4), (24, .slice a_p1 p1.length c_p1), (25, .int .i64 (p1.length : Int)), (26, .int .i64 s_2), (31, .int .i64 p3), (32, .int .i64 0)] rfl ⟨rfl, rfl, rfl, rfl, rfl, rfl, rfl, rfl, rfl, rfl, rfl, rfl, rfl, rfl, trivial⟩ ?_
      refine WO_end ?_
      obtain ⟨x40, hx41, hm21⟩ := bind_some hm21
      refine WK_join (β := (List Int) × (Option Addr × Nat × Nat × List Ent)) (fun p => p.1 = x40 ∧ OwnE 3 1 (I1 .i64) (.slice p.2.1 p.2.2.1 p.2.2.2.1) p.1 p.2.2.2.2) (fun p => [(2, .slice a_p2 p2.length c_p2), (3, .int .i64 p3), (4, .int .i64 p4), (5, p5v), (6, .pointer (some ⟨b4, 0, none⟩)), (12, .pointer (some ⟨b5, 0, none⟩)), (13, .pointer (some ⟨b6, 0, none⟩)), (24, .slice a_p1 p1.length c_p1), (25, .int .i64 (p1.length : Int)), (26, .int .i64 s_2)]) (fun p => St w0 m m [[⟨b4, 24, [.int .i64 p0_0, .int .i64 p0_1, .int .i64 p0_2, .slice a_p0_3 p0_3.length c_p0_3]⟩], [⟨b5, 32, [.int .i64 0, .int .i64 0, .int .i64 0, .slice none 0 0]⟩], [⟨b6, 32, [.int .i64 p0_0, .int .i64 p0_1, .int .i64 p3, .slice p.2.1 p.2.2.1 p.2.2.2.1]⟩], p.2.2.2.2]) ?_ (fun hk42 => ?_)
      · rintro ⟨l_7, ⟨a37, q38, c39, L36⟩⟩ ⟨hq48, hL36⟩
        subst hq48
        have hqq : q38 = l_7.length := OwnE.qlen hL36
        subst hqq
        refine WK.sub (e' := [(2, .slice a_p2 p2.length c_p2), (3, .int .i64 p3), (4, .int .i64 p4), (5, p5v), (6, .pointer (some ⟨b4, 0, none⟩)), (12, .pointer (some ⟨b5, 0, none⟩)), (13, .pointer (some ⟨b6, 0, none⟩)), (24, .slice a_p1 p1.length c_p1), (25, .int .i64 (p1.length : Int)), (26, .int .i64 s_2)]) ⟨rfl, rfl, rfl, rfl, rfl, rfl, rfl, rfl, rfl, rfl, trivial⟩ (WK.cls (C' := St w0 m m [[⟨b4, 24, [.int .i64 p0_0, .int .i64 p0_1, .int .i64 p0_2, .slice a_p0_3 p0_3.length c_p0_3]⟩], [⟨b5, 32, [.int .i64 0, .int .i64 0, .int .i64 0, .slice none 0 0]⟩], [⟨b6, 32, [.int .i64 p0_0, .int .i64 p0_1, .int .i64 p3, .slice a37 ((l_7).length) c39]⟩], L36]) (fun _ h => h) ?_)
        refine WK_blk ?_
        refine WK_region ?_
        refine WO_pure tbok 2 [(2, .slice a_p2 p2.length c_p2), (3, .int .i64 p3), (4, .int .i64 p4), (5, p5v), (6, .pointer (some ⟨b4, 0, none⟩)), (12, .pointer (some ⟨b5, 0, none⟩)), (13, .pointer (some ⟨b6, 0, none⟩)), (24, .slice a_p1 p1.length c_p1), (25, .int .i64 (p1.length : Int)), (26, .int .i64 (w64 (s_2 + 1)))] rfl ⟨rfl, rfl, rfl, rfl, rfl, rfl, rfl, rfl, rfl, rfl, trivial⟩ ?_
        refine WO_end ?_
        cases hm21
        refine WK.sub ?_ (WK.cls (fun _ h => h) (hn24 _ (a37, _, c39, L36) rfl hL36))
        exact ⟨rfl, rfl, rfl, rfl, rfl, rfl, rfl, rfl, rfl, rfl, trivial⟩
      · refine WK_block ?_
        refine WK_loop (S := List Int × Int) (G := Option Addr × Nat × Nat × List Ent) (fun s => census_costs_s2 p0_0 p2 p3 p4 p5 s_2 v_4 s.1 s.2) (fun s g => [(2, .slice a_p2 p2.length c_p2), (3, .int .i64 p3), (4, .int .i64 p4), (5, p5v), (6, .pointer (some ⟨b4, 0, none⟩)), (12, .pointer (some ⟨b5, 0, none⟩)), (13, .pointer (some ⟨b6, 0, none⟩)), (14, .int .i64 s_2), (15, .int .i64 v_4), (24, .slice a_p1 p1.length c_p1), (25, .int .i64 (p1.length : Int)), (26, .int .i64 s_2), (31, .int .i64 p3), (32, .int .i64 s.2)]) (fun s g => St w0 m m [[⟨b4, 24, [.int .i64 p0_0, .int .i64 p0_1, .int .i64 p0_2, .slice a_p0_3 p0_3.length c_p0_3]⟩], [⟨b5, 32, [.int .i64 0, .int .i64 0, .int .i64 0, .slice none 0 0]⟩], [⟨b6, 32, [.int .i64 p0_0, .int .i64 p0_1, .int .i64 p3, .slice g.1 g.2.1 g.2.2.1]⟩], g.2.2.2]) (fun s g => OwnE 3 1 (I1 .i64) (.slice g.1 g.2.1 g.2.2.1) s.1 g.2.2.2) FUEL (l_1, 0) (a10, _, c12, L9) x40 hx41 hL9 ⟨rfl, rfl, rfl, rfl, rfl, rfl, rfl, rfl, rfl, rfl, rfl, rfl, rfl, rfl, trivial⟩ (fun _ h => h) ?_
        rintro ⟨l_5, s_6⟩ ⟨a32, q33, c34, L31⟩ o44 fl45 hm43 hL31 hn46 hd47
        have hm43 : census_costs_s2 p0_0 p2 p3 p4 p5 s_2 v_4 l_5 s_6 = some o44 := hm43
        unfold census_costs_s2 at hm43
        have hqq : q33 = l_5.length := OwnE.qlen hL31
        subst hqq
        refine WK.sub (e' := [(2, .slice a_p2 p2.length c_p2), (3, .int .i64 p3), (4, .int .i64 p4), (5, p5v), (6, .pointer (some ⟨b4, 0, none⟩)), (12, .pointer (some ⟨b5, 0, none⟩)), (13, .pointer (some ⟨b6, 0, none⟩)), (14, .int .i64 s_2), (15, .int .i64 v_4), (24, .slice a_p1 p1.length c_p1), (25, .int .i64 (p1.length : Int)), (26, .int .i64 s_2), (31, .int .i64 p3), (32, .int .i64 s_6)]) ⟨rfl, rfl, rfl, rfl, rfl, rfl, rfl, rfl, rfl, rfl, rfl, rfl, rfl, rfl, trivial⟩ (WK.cls (C' := St w0 m m [[⟨b4, 24, [.int .i64 p0_0, .int .i64 p0_1, .int .i64 p0_2, .slice a_p0_3 p0_3.length c_p0_3]⟩], [⟨b5, 32, [.int .i64 0, .int .i64 0, .int .i64 0, .slice none 0 0]⟩], [⟨b6, 32, [.int .i64 p0_0, .int .i64 p0_1, .int .i64 p3, .slice a32 ((l_5).length) c34]⟩], L31]) (fun _ h => h) ?_)
        refine WK_seq ?_
        refine WK_region ?_
        refine WO_pure tbok 1 [(2, .slice a_p2 p2.length c_p2), (3, .int .i64 p3), (4, .int .i64 p4), (5, p5v), (6, .pointer (some ⟨b4, 0, none⟩)), (12, .pointer (some ⟨b5, 0, none⟩)), (13, .pointer (some ⟨b6, 0, none⟩)), (14, .int .i64 s_2), (15, .int .i64 v_4), (24, .slice a_p1 p1.length c_p1), (25, .int .i64 (p1.length : Int)), (26, .int .i64 s_2), (31, .int .i64 p3), (32, .int .i64 s_6), (33, .bool (decide (s_6 < p3)))] rfl ⟨rfl, rfl, rfl, rfl, rfl, rfl, rfl, rfl, rfl, rfl, rfl, rfl, rfl, rfl, rfl, trivial⟩ ?_
        refine WO_end ?_
        refine WK_seq ?_
        refine WK_cond (b := decide (s_6 < p3)) rfl (fun hb49 => ?_) (fun hb49 => ?_)
        · have hm43 := ifT hb49 hm43
          refine WK_skip ?_
          refine WK_seq ?_
          refine WK_block ?_
          refine WK_seq ?_
          refine WK_region ?_
          refine WO_pure tbok 2 [(2, .slice a_p2 p2.length c_p2), (3, .int .i64 p3), (4, .int .i64 p4), (5, p5v), (6, .pointer (some ⟨b4, 0, none⟩)), (12, .pointer (some ⟨b5, 0, none⟩)), (13, .pointer (some ⟨b6, 0, none⟩)), (14, .int .i64 s_2), (15, .int .i64 v_4), (16, .int .i64 s_6), (24, .slice a_p1 p1.length c_p1), (25, .int .i64 (p1.length : Int)), (26, .int .i64 s_2), (31, .int .i64 p3), (32, .int .i64 s_6)] rfl ⟨rfl, rfl, rfl, rfl, rfl, rfl, rfl, rfl, rfl, rfl, rfl, rfl, rfl, rfl, rfl, trivial⟩ ?_
          refine WO_end ?_
          refine WK_seq ?_
          refine WK_region ?_
          refine WO_pure tbok 2 [(2, .slice a_p2 p2.length c_p2), (3, .int .i64 p3), (4, .int .i64 p4), (5, p5v), (6, .pointer (some ⟨b4, 0, none⟩)), (12, .pointer (some ⟨b5, 0, none⟩)), (13, .pointer (some ⟨b6, 0, none⟩)), (14, .int .i64 s_2), (15, .int .i64 v_4), (16, .int .i64 s_6), (17, .int .i64 p4), (24, .slice a_p1 p1.length c_p1), (25, .int .i64 (p1.length : Int)), (26, .int .i64 s_2), (31, .int .i64 p3), (32, .int .i64 s_6)] rfl ⟨rfl, rfl, rfl, rfl, rfl, rfl, rfl, rfl, rfl, rfl, rfl, rfl, rfl, rfl, rfl, rfl, trivial⟩ ?_
          refine WO_end ?_
          refine WK_seq ?_
          refine WK_seq ?_
          refine WK_region ?_
          refine WO_pure tbok 2 [(2, .slice a_p2 p2.length c_p2), (3, .int .i64 p3), (4, .int .i64 p4), (5, p5v), (6, .pointer (some ⟨b4, 0, none⟩)), (12, .pointer (some ⟨b5, 0, none⟩)), (13, .pointer (some ⟨b6, 0, none⟩)), (14, .int .i64 s_2), (15, .int .i64 v_4), (16, .int .i64 s_6), (17, .int .i64 p4), (24, .slice a_p1 p1.length c_p1), (25, .int .i64 (p1.length : Int)), (26, .int .i64 s_2), (31, .int .i64 p3), (32, .int .i64 s_6), (36, .int .i64 s_2), (37, .pointer (some ⟨b4, 0, none⟩))] rfl ⟨rfl, rfl, rfl, rfl, rfl, rfl, rfl, rfl, rfl, rfl, rfl, rfl, rfl, rfl, rfl, rfl, rfl, rfl, trivial⟩ ?_
          refine WO_loadB tbok 0 rfl rfl rfl rfl (fun _ h => h) rfl rfl ?_
          obtain ⟨hc50, hm43⟩ := chk_some hm43
          refine WO_rem rfl rfl rfl rfl rfl hc50 ?_
          refine WO_pure tbok 2 [(2, .slice a_p2 p2.length c_p2), (3, .int .i64 p3), (4, .int .i64 p4), (5, p5v), (6, .pointer (some ⟨b4, 0, none⟩)), (12, .pointer (some ⟨b5, 0, none⟩)), (13, .pointer (some ⟨b6, 0, none⟩)), (14, .int .i64 s_2), (15, .int .i64 v_4), (16, .int .i64 s_6), (17, .int .i64 p4), (24, .slice a_p1 p1.length c_p1), (25, .int .i64 (p1.length : Int)), (26, .int .i64 s_2), (31, .int .i64 p3), (32, .int .i64 s_6), (41, .bool (decide (s_6 ≤ (Int.tmod s_2 p0_0))))] rfl ⟨rfl, rfl, rfl, rfl, rfl, rfl, rfl, rfl, rfl, rfl, rfl, rfl, rfl, rfl, rfl, rfl, rfl, trivial⟩ ?_
          refine WO_end ?_
          obtain ⟨s_8, hx51, hm43⟩ := bind_some hm43
          refine WK_meet [(2, .slice a_p2 p2.length c_p2), (3, .int .i64 p3), (4, .int .i64 p4), (5, p5v), (6, .pointer (some ⟨b4, 0, none⟩)), (12, .pointer (some ⟨b5, 0, none⟩)), (13, .pointer (some ⟨b6, 0, none⟩)), (14, .int .i64 s_2), (15, .int .i64 v_4), (17, .int .i64 s_8), (24, .slice a_p1 p1.length c_p1), (25, .int .i64 (p1.length : Int)), (26, .int .i64 s_2), (31, .int .i64 p3), (32, .int .i64 s_6)] (St w0 m m [[⟨b4, 24, [.int .i64 p0_0, .int .i64 p0_1, .int .i64 p0_2, .slice a_p0_3 p0_3.length c_p0_3]⟩], [⟨b5, 32, [.int .i64 0, .int .i64 0, .int .i64 0, .slice none 0 0]⟩], [⟨b6, 32, [.int .i64 p0_0, .int .i64 p0_1, .int .i64 p3, .slice a32 ((l_5).length) c34]⟩], L31]) ?_ (fun hk52 => ?_)
          · refine WK_region ?_
            refine WO_pure tbok 1 [(2, .slice a_p2 p2.length c_p2), (3, .int .i64 p3), (4, .int .i64 p4), (5, p5v), (6, .pointer (some ⟨b4, 0, none⟩)), (12, .pointer (some ⟨b5, 0, none⟩)), (13, .pointer (some ⟨b6, 0, none⟩)), (14, .int .i64 s_2), (15, .int .i64 v_4), (17, .int .i64 s_8), (24, .slice a_p1 p1.length c_p1), (25, .int .i64 (p1.length : Int)), (26, .int .i64 s_2), (31, .int .i64 p3), (32, .int .i64 s_6), (51, .pointer (some ⟨b6, 3, none⟩))] rfl ⟨rfl, rfl, rfl, rfl, rfl, rfl, rfl, rfl, rfl, rfl, rfl, rfl, rfl, rfl, rfl, rfl, trivial⟩ ?_
            refine WO_loadB tbok 2 rfl rfl rfl rfl (fun _ h => h) rfl rfl ?_
            refine WO_pure tbok 1 [(2, .slice a_p2 p2.length c_p2), (3, .int .i64 p3), (4, .int .i64 p4), (5, p5v), (6, .pointer (some ⟨b4, 0, none⟩)), (12, .pointer (some ⟨b5, 0, none⟩)), (13, .pointer (some ⟨b6, 0, none⟩)), (14, .int .i64 s_2), (15, .int .i64 v_4), (24, .slice a_p1 p1.length c_p1), (25, .int .i64 (p1.length : Int)), (26, .int .i64 s_2), (31, .int .i64 p3), (32, .int .i64 s_6), (52, .slice a32 ((l_5).length) c34), (53, .int .i64 s_8)] rfl ⟨rfl, rfl, rfl, rfl, rfl, rfl, rfl, rfl, rfl, rfl, rfl, rfl, rfl, rfl, rfl, rfl, trivial⟩ ?_
            refine WO_bslice (E := (I1 .i64)) tbok (fun _ => rfl) (by decide) [.int .i64 s_8] ([s_8] : List Int) rfl rfl trivial rfl rfl rfl rfl rfl rfl rfl rfl rfl rfl rfl rfl (fun b53 hb53 => ?_)
            refine WO.cls (C' := St w0 m m [[⟨b4, 24, [.int .i64 p0_0, .int .i64 p0_1, .int .i64 p0_2, .slice a_p0_3 p0_3.length c_p0_3]⟩], [⟨b5, 32, [.int .i64 0, .int .i64 0, .int .i64 0, .slice none 0 0]⟩], [⟨b6, 32, [.int .i64 p0_0, .int .i64 p0_1, .int .i64 p3, .slice a32 ((l_5).length) c34]⟩], L31, [⟨b53, 3, ([s_8] : List Int).flatMap (I1 .i64)⟩]]) (fun _ h => h) ?_
            obtain ⟨hc55, hm43⟩ := chk_some hm43
            refine WO_append (E := (I1 .i64)) tbok (fun _ => rfl) 3 ([s_8] : List Int) (fun _ _ => rfl) rfl rfl rfl rfl rfl rfl rfl rfl rfl rfl rfl rfl hL31 rfl (src_seg (j := 4) rfl) (ap_ok (by decide) hc55) (ap_max hc55) (fun a56 c57 L58 hL58 => ?_)
            refine WO.cls (C' := St w0 m m [[⟨b4, 24, [.int .i64 p0_0, .int .i64 p0_1, .int .i64 p0_2, .slice a_p0_3 p0_3.length c_p0_3]⟩], [⟨b5, 32, [.int .i64 0, .int .i64 0, .int .i64 0, .slice none 0 0]⟩], [⟨b6, 32, [.int .i64 p0_0, .int .i64 p0_1, .int .i64 p3, .slice a32 ((l_5).length) c34]⟩], L58, [⟨b53, 3, ([s_8] : List Int).flatMap (I1 .i64)⟩]]) (fun _ h => h) ?_
            refine WO_pure tbok 1 [(2, .slice a_p2 p2.length c_p2), (3, .int .i64 p3), (4, .int .i64 p4), (5, p5v), (6, .pointer (some ⟨b4, 0, none⟩)), (12, .pointer (some ⟨b5, 0, none⟩)), (13, .pointer (some ⟨b6, 0, none⟩)), (14, .int .i64 s_2), (15, .int .i64 v_4), (24, .slice a_p1 p1.length c_p1), (25, .int .i64 (p1.length : Int)), (26, .int .i64 s_2), (31, .int .i64 p3), (32, .int .i64 s_6), (55, .slice a56 ((l_5 ++ ([s_8] : List Int)).length) c57), (56, .pointer (some ⟨b6, 3, none⟩))] rfl ⟨rfl, rfl, rfl, rfl, rfl, rfl, rfl, rfl, rfl, rfl, rfl, rfl, rfl, rfl, rfl, rfl, trivial⟩ ?_
            refine WO_storeB tbok 2 [.int .i64 p0_0, .int .i64 p0_1, .int .i64 p3, .slice a56 ((l_5 ++ ([s_8] : List Int)).length) c57] rfl rfl rfl rfl rfl rfl rfl ?_
            refine WO.cls (C' := St w0 m m [[⟨b4, 24, [.int .i64 p0_0, .int .i64 p0_1, .int .i64 p0_2, .slice a_p0_3 p0_3.length c_p0_3]⟩], [⟨b5, 32, [.int .i64 0, .int .i64 0, .int .i64 0, .slice none 0 0]⟩], [⟨b6, 32, [.int .i64 p0_0, .int .i64 p0_1, .int .i64 p3, .slice a56 ((l_5 ++ ([s_8] : List Int)).length) c57]⟩], L58, [⟨b53, 3, ([s_8] : List Int).flatMap (I1 .i64)⟩]]) (fun _ h => h) ?_
            refine WO_end ?_
            refine WK_blk ?_
            refine WK_region ?_
            refine WO_pure tbok 2 [(2, .slice a_p2 p2.length c_p2), (3, .int .i64 p3), (4, .int .i64 p4), (5, p5v), (6, .pointer (some ⟨b4, 0, none⟩)), (12, .pointer (some ⟨b5, 0, none⟩)), (13, .pointer (some ⟨b6, 0, none⟩)), (14, .int .i64 s_2), (15, .int .i64 v_4), (24, .slice a_p1 p1.length c_p1), (25, .int .i64 (p1.length : Int)), (26, .int .i64 s_2), (31, .int .i64 p3), (32, .int .i64 (w64 (s_6 + 1)))] rfl ⟨rfl, rfl, rfl, rfl, rfl, rfl, rfl, rfl, rfl, rfl, rfl, rfl, rfl, rfl, trivial⟩ ?_
            refine WO_end ?_
            cases hm43
            refine WK.sub ?_ (WK.cls (fun _ h => St.take 4 h) (hn46 _ (a56, (l_5 ++ ([s_8] : List Int)).length, c57, L58) rfl hL58))
            exact ⟨rfl, rfl, rfl, rfl, rfl, rfl, rfl, rfl, rfl, rfl, rfl, rfl, rfl, rfl, trivial⟩
          · refine WK_cond (b := decide (s_6 ≤ (Int.tmod s_2 p0_0))) rfl (fun hb60 => ?_) (fun hb60 => ?_)
            · have hx51 := ifT hb60 hx51
              refine WK_region ?_
              refine WO_pure tbok 6 [(2, .slice a_p2 p2.length c_p2), (3, .int .i64 p3), (4, .int .i64 p4), (5, p5v), (6, .pointer (some ⟨b4, 0, none⟩)), (12, .pointer (some ⟨b5, 0, none⟩)), (13, .pointer (some ⟨b6, 0, none⟩)), (14, .int .i64 s_2), (15, .int .i64 v_4), (17, .int .i64 p4), (24, .slice a_p1 p1.length c_p1), (25, .int .i64 (p1.length : Int)), (26, .int .i64 s_2), (31, .int .i64 p3), (32, .int .i64 s_6), (42, p5v), (43, .int .i64 v_4), (44, .slice a_p2 p2.length c_p2), (47, .int .i64 (w64 (s_2 - s_6)))] rfl ⟨rfl, rfl, rfl, rfl, rfl, rfl, rfl, rfl, rfl, rfl, rfl, rfl, rfl, rfl, rfl, rfl, rfl, rfl, rfl, trivial⟩ ?_
              obtain ⟨v_9, hy61, hx51⟩ := bind_some hx51
              obtain ⟨hc62, hy61⟩ := ix_some hy61
              refine WO_index tbok rfl rfl rfl rfl rfl rfl rfl rfl (SlR.addr h_p2) hc62 ?_
              refine WO_loadE tbok rfl rfl rfl rfl (fun _ h => St.sat h) h_p2 hy61 rfl ?_
              obtain ⟨y_10, hc63, hx51⟩ := bind_some hx51
              obtain ⟨f0, first0, cap0, hf0, hcal0, hsp0⟩ := hp5 _ (Le.refl _) v_4 v_9 _ hc63
              refine WO_call0 (.int .i64 y_10) rfl rfl trivial rfl rfl rfl rfl St_closed ⟨f0, first0, cap0, hf0, hcal0, fun w hw => ⟨m, hw.sat, hsp0⟩⟩ ?_
              refine WO_pure tbok 1 [(2, .slice a_p2 p2.length c_p2), (3, .int .i64 p3), (4, .int .i64 p4), (5, p5v), (6, .pointer (some ⟨b4, 0, none⟩)), (12, .pointer (some ⟨b5, 0, none⟩)), (13, .pointer (some ⟨b6, 0, none⟩)), (14, .int .i64 s_2), (15, .int .i64 v_4), (17, .int .i64 y_10), (24, .slice a_p1 p1.length c_p1), (25, .int .i64 (p1.length : Int)), (26, .int .i64 s_2), (31, .int .i64 p3), (32, .int .i64 s_6)] rfl ⟨rfl, rfl, rfl, rfl, rfl, rfl, rfl, rfl, rfl, rfl, rfl, rfl, rfl, rfl, rfl, trivial⟩ ?_
              refine WO_end ?_
              cases hx51
              refine WK.sub ?_ (WK.cls (fun _ h => h) hk52)
              exact ⟨rfl, rfl, rfl, rfl, rfl, rfl, rfl, rfl, rfl, rfl, rfl, rfl, rfl, rfl, rfl, trivial⟩
            · have hx51 := ifF hb60 hx51
              refine WK_skip ?_
              cases hx51
              refine WK.sub ?_ (WK.cls (fun _ h => h) hk52)
              exact ⟨rfl, rfl, rfl, rfl, rfl, rfl, rfl, rfl, rfl, rfl, rfl, rfl, rfl, rfl, rfl, trivial⟩
        · have hm43 := ifF hb49 hm43
          refine WK_exit rfl ?_
          cases hm43
          refine WK.sub ?_ (WK.cls (fun _ h => h) (hk42 (l_5, (a32, _, c34, L31)) ⟨(hd47 _ rfl), hL31⟩))
          exact ⟨rfl, rfl, rfl, rfl, rfl, rfl, rfl, rfl, rfl, rfl, trivial⟩
    · have hm21 := ifF hb27 hm21
      refine WK_exit rfl ?_
      cases hm21
      refine WK.sub ?_ (WK.cls (fun _ h => h) (hk20 (l_1, (a10, _, c12, L9)) ⟨(hd25 _ rfl), hL9⟩))
      exact ⟨rfl, rfl, trivial⟩
theorem census_Plain_c1_walk {m : Mu} {p0 : Int} {p1 : Int}   {r : Int} (hm : census_Plain_c1 p0 p1 = some r) :
    Go.E.Spec Try.prog 29 [.int .i64 p0, .int .i64 p1] m (fun v _ _ => v = .int .i64 r) := by
  refine Spec_enter Try.func29 rfl rfl rfl (fun w0 => ?_)
  refine WK.sub (e' := [(0, .int .i64 p0), (1, .int .i64 p1)]) ⟨rfl, rfl, trivial⟩ ?_
  refine WK.sub (e' := [(0, .int .i64 p0), (1, .int .i64 p1)]) ⟨rfl, rfl, trivial⟩ ?_
  unfold census_Plain_c1 at hm
  refine WK_seq ?_
  refine WK_region ?_
  refine WO_pure tbok 1 [(0, .int .i64 p0), (1, .int .i64 p1), (4, .int .i64 0)] rfl ⟨rfl, rfl, rfl, trivial⟩ ?_
  refine WO_end ?_
  refine WK_seq ?_
  refine WK_region ?_
  refine WO_pure tbok 8 [(4, .int .i64 (if (w64 (p0 - p1)) < (w64 (p1 - p0)) then (w64 (p1 - p0)) else (w64 (p0 - p1))))] rfl ⟨rfl, trivial⟩ ?_
  refine WO_end ?_
  cases hm
  exact WK_ret (ret_out (L := []) (RLc_tmp rfl RLc_nil) (List.nil_sublist _) rfl)
def census_Plain_Q (r : Int × Int × Int × List Int × Int) : Value → List Ent → Prop := fun v L => ∃ (a0 : Option Addr) (q0 c0 : Nat), v = .tuple #[.agg #[.int .i64 r.1, .int .i64 r.2.1, .int .i64 r.2.2.1, .slice a0 q0 c0], .int .i64 r.2.2.2.2] ∧ OwnE 3 1 (I1 .i64) (.slice a0 q0 c0) r.2.2.2.1 L
theorem census_Plain_walk {m : Mu} {p0_0 : Int} {p0_1 : Int} {p0_2 : Int} {p0_3 : List Int} {p1_0 : Int} {p1_1 : Int} {p1_2 : Int} {p1_3 : List Int} {p2 : Int} {a_p0_3 : Option Addr} {q_p0_3 c_p0_3 : Nat} {a_p1_3 : Option Addr} {q_p1_3 c_p1_3 : Nat} (h_p0_3 : SlR (FE (I1 .i64)) 1 m (.slice a_p0_3 q_p0_3 c_p0_3) p0_3) (h_p1_3 : SlR (FE (I1 .i64)) 1 m (.slice a_p1_3 q_p1_3 c_p1_3) p1_3) {r : Int × Int × Int × List Int × Int} (hm : census_Plain p0_0 p0_1 p0_2 p0_3 p1_0 p1_1 p1_2 p1_3 p2 = some r) :
    Go.E.Spec Try.prog 9 [.agg #[.int .i64 p0_0, .int .i64 p0_1, .int .i64 p0_2, .slice a_p0_3 q_p0_3 c_p0_3], .agg #[.int .i64 p1_0, .int .i64 p1_1, .int .i64 p1_2, .slice a_p1_3 q_p1_3 c_p1_3], .int .i64 p2] m (fun v _ L => census_Plain_Q r v L) := by
  refine Spec_enter Try.func9 rfl rfl rfl (fun w0 => ?_)
  refine WK.sub (e' := [(0, .agg #[.int .i64 p0_0, .int .i64 p0_1, .int .i64 p0_2, .slice a_p0_3 q_p0_3 c_p0_3]), (1, .agg #[.int .i64 p1_0, .int .i64 p1_1, .int .i64 p1_2, .slice a_p1_3 q_p1_3 c_p1_3]), (2, .int .i64 p2)]) ⟨rfl, rfl, rfl, trivial⟩ ?_
  obtain rfl := SlR.qlen h_p0_3
  obtain rfl := SlR.qlen h_p1_3
  refine WK.sub (e' := [(0, .agg #[.int .i64 p0_0, .int .i64 p0_1, .int .i64 p0_2, .slice a_p0_3 p0_3.length c_p0_3]), (1, .agg #[.int .i64 p1_0, .int .i64 p1_1, .int .i64 p1_2, .slice a_p1_3 p1_3.length c_p1_3]), (2, .int .i64 p2)]) ⟨rfl, rfl, rfl, trivial⟩ ?_
  unfold census_Plain at hm
  refine WK_seq ?_
  refine WK_region ?_
  refine WO_box [.int .i64 p0_0, .int .i64 p0_1, .int .i64 p0_2, .slice a_p0_3 p0_3.length c_p0_3] rfl rfl trivial rfl rfl rfl (fun b3 => ?_)
  refine WO.cls (C' := St w0 m m [[⟨b3, 24, [.int .i64 p0_0, .int .i64 p0_1, .int .i64 p0_2, .slice a_p0_3 p0_3.length c_p0_3]⟩]]) (fun _ h => h) ?_
  refine WO_box [.int .i64 p1_0, .int .i64 p1_1, .int .i64 p1_2, .slice a_p1_3 p1_3.length c_p1_3] rfl rfl trivial rfl rfl rfl (fun b4 => ?_)
  refine WO.cls (C' := St w0 m m [[⟨b3, 24, [.int .i64 p0_0, .int .i64 p0_1, .int .i64 p0_2, .slice a_p0_3 p0_3.length c_p0_3]⟩], [⟨b4, 24, [.int .i64 p1_0, .int .i64 p1_1, .int .i64 p1_2, .slice a_p1_3 p1_3.length c_p1_3]⟩]]) (fun _ h => h) ?_
  refine WO_alloc tbok [.int .i64 0, .int .i64 0, .int .i64 0, .slice none 0 0] rfl rfl trivial rfl rfl rfl rfl (fun b5 => ?_)
  refine WO.cls (C' := St w0 m m [[⟨b3, 24, [.int .i64 p0_0, .int .i64 p0_1, .int .i64 p0_2, .slice a_p0_3 p0_3.length c_p0_3]⟩], [⟨b4, 24, [.int .i64 p1_0, .int .i64 p1_1, .int .i64 p1_2, .slice a_p1_3 p1_3.length c_p1_3]⟩], [⟨b5, 32, [.int .i64 0, .int .i64 0, .int .i64 0, .slice none 0 0]⟩]]) (fun _ h => h) ?_
  refine WO_pure tbok 1 [(2, .int .i64 p2), (3, .pointer (some ⟨b3, 0, none⟩)), (4, .pointer (some ⟨b4, 0, none⟩)), (6, .pointer (some ⟨b5, 0, none⟩)), (7, .int .i64 0)] rfl ⟨rfl, rfl, rfl, rfl, rfl, trivial⟩ ?_
  refine WO_end ?_
  refine WK_seq ?_
  refine WK_seq ?_
  refine WK_region ?_
  refine WO_loadB tbok 0 rfl rfl rfl rfl (fun _ h => h) rfl rfl ?_
  refine WO_loadB tbok 1 rfl rfl rfl rfl (fun _ h => h) rfl rfl ?_
  obtain ⟨y_1, hc6, hm⟩ := bind_some hm
  refine WO_call0 (.int .i64 y_1) rfl rfl trivial rfl rfl rfl rfl St_closed ⟨27, #[], #[], rfl, callable_27, fun w hw => ⟨_, hw.sat, census_both_walk h_p0_3 h_p1_3 hc6⟩⟩ ?_
  refine WO_pure tbok 1 [(2, .int .i64 p2), (3, .pointer (some ⟨b3, 0, none⟩)), (4, .pointer (some ⟨b4, 0, none⟩)), (6, .pointer (some ⟨b5, 0, none⟩)), (7, .int .i64 0), (8, .int .i64 y_1)] rfl ⟨rfl, rfl, rfl, rfl, rfl, rfl, trivial⟩ ?_
  refine WO_end ?_
  refine WK_seq ?_
  refine WK_region ?_
  refine WO_pure tbok 2 [(2, .int .i64 p2), (3, .pointer (some ⟨b3, 0, none⟩)), (4, .pointer (some ⟨b4, 0, none⟩)), (6, .pointer (some ⟨b5, 0, none⟩)), (7, .int .i64 0), (8, .int .i64 y_1), (13, .bool (y_1 != 0))] rfl ⟨rfl, rfl, rfl, rfl, rfl, rfl, rfl, trivial⟩ ?_
  refine WO_end ?_
  refine WK_cond (b := y_1 != 0) rfl (fun hb7 => ?_) (fun hb7 => ?_)
  · have hm := ifT hb7 hm
    refine WK_seq ?_
    refine WK_region ?_
    refine WO_pure tbok 2 [(2, .int .i64 p2), (3, .pointer (some ⟨b3, 0, none⟩)), (4, .pointer (some ⟨b4, 0, none⟩)), (6, .pointer (some ⟨b5, 0, none⟩)), (7, .int .i64 0), (14, .agg #[.int .i64 0, .int .i64 0, .int .i64 0, .slice none 0 0]), (15, .int .i64 y_1)] rfl ⟨rfl, rfl, rfl, rfl, rfl, rfl, rfl, trivial⟩ ?_
    refine WO_storeB tbok 2 [.int .i64 0, .int .i64 0, .int .i64 0, .slice none 0 0] rfl rfl rfl rfl rfl rfl rfl ?_
    refine WO.cls (C' := St w0 m m [[⟨b3, 24, [.int .i64 p0_0, .int .i64 p0_1, .int .i64 p0_2, .slice a_p0_3 p0_3.length c_p0_3]⟩], [⟨b4, 24, [.int .i64 p1_0, .int .i64 p1_1, .int .i64 p1_2, .slice a_p1_3 p1_3.length c_p1_3]⟩], [⟨b5, 32, [.int .i64 0, .int .i64 0, .int .i64 0, .slice none 0 0]⟩]]) (fun _ h => h) ?_
    refine WO_pure tbok 1 [(2, .int .i64 p2), (3, .pointer (some ⟨b3, 0, none⟩)), (4, .pointer (some ⟨b4, 0, none⟩)), (6, .pointer (some ⟨b5, 0, none⟩)), (7, .int .i64 y_1)] rfl ⟨rfl, rfl, rfl, rfl, rfl, trivial⟩ ?_
    refine WO_end ?_
    cases hm
    exact WK_ret (ret_out (L := []) (RLc_cell tbok 2 rfl rfl rfl (RLc_tmp rfl RLc_nil)) (List.nil_sublist _) ⟨none, 0, 0, rfl, (OwnE.nil none)⟩)
  · have hm := ifF hb7 hm
    refine WK_skip ?_
    refine WK_seq ?_
    refine WK_seq ?_
    obtain ⟨s_2, hx8, hm⟩ := bind_some hm
    refine WK_meet [(2, .int .i64 p2), (3, .pointer (some ⟨b3, 0, none⟩)), (4, .pointer (some ⟨b4, 0, none⟩)), (6, .pointer (some ⟨b5, 0, none⟩)), (7, .int .i64 0), (21, .bool s_2)] (St w0 m m [[⟨b3, 24, [.int .i64 p0_0, .int .i64 p0_1, .int .i64 p0_2, .slice a_p0_3 p0_3.length c_p0_3]⟩], [⟨b4, 24, [.int .i64 p1_0, .int .i64 p1_1, .int .i64 p1_2, .slice a_p1_3 p1_3.length c_p1_3]⟩], [⟨b5, 32, [.int .i64 0, .int .i64 0, .int .i64 0, .slice none 0 0]⟩]]) ?_ (fun hk9 => ?_)
    · refine WK_cond (b := s_2) rfl (fun hb10 => ?_) (fun hb10 => ?_)
      · have hm := ifT hb10 hm
        refine WK_seq ?_
        refine WK_region ?_
        refine WO_pure tbok 1 [(2, .int .i64 p2), (3, .pointer (some ⟨b3, 0, none⟩)), (4, .pointer (some ⟨b4, 0, none⟩)), (6, .pointer (some ⟨b5, 0, none⟩)), (7, .int .i64 0), (22, .agg #[.int .i64 0, .int .i64 0, .int .i64 0, .slice none 0 0])] rfl ⟨rfl, rfl, rfl, rfl, rfl, rfl, trivial⟩ ?_
        refine WO_storeB tbok 2 [.int .i64 0, .int .i64 0, .int .i64 0, .slice none 0 0] rfl rfl rfl rfl rfl rfl rfl ?_
        refine WO.cls (C' := St w0 m m [[⟨b3, 24, [.int .i64 p0_0, .int .i64 p0_1, .int .i64 p0_2, .slice a_p0_3 p0_3.length c_p0_3]⟩], [⟨b4, 24, [.int .i64 p1_0, .int .i64 p1_1, .int .i64 p1_2, .slice a_p1_3 p1_3.length c_p1_3]⟩], [⟨b5, 32, [.int .i64 0, .int .i64 0, .int .i64 0, .slice none 0 0]⟩]]) (fun _ h => h) ?_
        refine WO_pure tbok 1 [(2, .int .i64 p2), (3, .pointer (some ⟨b3, 0, none⟩)), (4, .pointer (some ⟨b4, 0, none⟩)), (6, .pointer (some ⟨b5, 0, none⟩)), (7, .int .i64 2)] rfl ⟨rfl, rfl, rfl, rfl, rfl, trivial⟩ ?_
        refine WO_end ?_
        cases hm
        exact WK_ret (ret_out (L := []) (RLc_cell tbok 2 rfl rfl rfl (RLc_tmp rfl RLc_nil)) (List.nil_sublist _) ⟨none, 0, 0, rfl, (OwnE.nil none)⟩)
      · have hm := ifF hb10 hm
        refine WK_skip ?_
        refine WK_seq ?_
        refine WK_region ?_
        refine WO_loadB tbok 0 rfl rfl rfl rfl (fun _ h => h) rfl rfl ?_
        refine WO_pure tbok 1 [(2, .int .i64 p2), (3, .pointer (some ⟨b3, 0, none⟩)), (4, .pointer (some ⟨b4, 0, none⟩)), (6, .pointer (some ⟨b5, 0, none⟩)), (7, .int .i64 0), (23, .agg #[.int .i64 p0_0, .int .i64 p0_1, .int .i64 p0_2, .slice a_p0_3 p0_3.length c_p0_3]), (24, .pointer (some ⟨b3, 3, none⟩))] rfl ⟨rfl, rfl, rfl, rfl, rfl, rfl, rfl, trivial⟩ ?_
        refine WO_loadB tbok 0 rfl rfl rfl rfl (fun _ h => h) rfl rfl ?_
        refine WO_pure tbok 1 [(2, .int .i64 p2), (3, .pointer (some ⟨b3, 0, none⟩)), (6, .pointer (some ⟨b5, 0, none⟩)), (7, .int .i64 0), (23, .agg #[.int .i64 p0_0, .int .i64 p0_1, .int .i64 p0_2, .slice a_p0_3 p0_3.length c_p0_3]), (25, .slice a_p0_3 p0_3.length c_p0_3), (26, .pointer (some ⟨b4, 3, none⟩))] rfl ⟨rfl, rfl, rfl, rfl, rfl, rfl, rfl, trivial⟩ ?_
        refine WO_loadB tbok 1 rfl rfl rfl rfl (fun _ h => h) rfl rfl ?_
        refine WO_pure tbok 2 [(6, .pointer (some ⟨b5, 0, none⟩)), (7, .int .i64 0), (23, .agg #[.int .i64 p0_0, .int .i64 p0_1, .int .i64 p0_2, .slice a_p0_3 p0_3.length c_p0_3]), (25, .slice a_p0_3 p0_3.length c_p0_3), (27, .slice a_p1_3 p1_3.length c_p1_3), (28, .int .i64 p2), (29, .pointer (some ⟨b3, 2, none⟩))] rfl ⟨rfl, rfl, rfl, rfl, rfl, rfl, rfl, trivial⟩ ?_
        refine WO_loadB tbok 0 rfl rfl rfl rfl (fun _ h => h) rfl rfl ?_
        refine WO_pure tbok 1 [(6, .pointer (some ⟨b5, 0, none⟩)), (7, .int .i64 0), (23, .agg #[.int .i64 p0_0, .int .i64 p0_1, .int .i64 p0_2, .slice a_p0_3 p0_3.length c_p0_3]), (25, .slice a_p0_3 p0_3.length c_p0_3), (27, .slice a_p1_3 p1_3.length c_p1_3), (28, .int .i64 p2), (31, .int .i64 (w64 (p0_2 + 1)))] rfl ⟨rfl, rfl, rfl, rfl, rfl, rfl, rfl, trivial⟩ ?_
        obtain ⟨⟨y_5, y_6, y_7, y_8⟩, hc11, hm⟩ := bind_some hm
        refine WO_call1 (census_costs_Q (y_5, y_6, y_7, y_8)) rfl rfl trivial rfl rfl rfl rfl ⟨28, #[], #[], rfl, callable_28, fun w hw => ⟨_, hw.sat, census_costs_walk h_p0_3 h_p0_3 h_p1_3 (fun m1 hm1 z_3 z_4 _ h => specV_cap callable_29 (census_Plain_c1_walk h)) hc11⟩⟩ (fun v16 L15 hq => ?_)
        obtain ⟨a12, qa12, c13, rfl, hL15⟩ := hq
        obtain rfl := OwnE.qlen hL15
        refine WO.cls (C' := St w0 m m [[⟨b3, 24, [.int .i64 p0_0, .int .i64 p0_1, .int .i64 p0_2, .slice a_p0_3 p0_3.length c_p0_3]⟩], [⟨b4, 24, [.int .i64 p1_0, .int .i64 p1_1, .int .i64 p1_2, .slice a_p1_3 p1_3.length c_p1_3]⟩], [⟨b5, 32, [.int .i64 0, .int .i64 0, .int .i64 0, .slice none 0 0]⟩], L15]) (fun _ h => h) ?_
        refine WO_storeB tbok 2 [.int .i64 y_5, .int .i64 y_6, .int .i64 y_7, .slice a12 ((y_8).length) c13] rfl rfl rfl rfl rfl rfl rfl ?_
        refine WO.cls (C' := St w0 m m [[⟨b3, 24, [.int .i64 p0_0, .int .i64 p0_1, .int .i64 p0_2, .slice a_p0_3 p0_3.length c_p0_3]⟩], [⟨b4, 24, [.int .i64 p1_0, .int .i64 p1_1, .int .i64 p1_2, .slice a_p1_3 p1_3.length c_p1_3]⟩], [⟨b5, 32, [.int .i64 y_5, .int .i64 y_6, .int .i64 y_7, .slice a12 ((y_8).length) c13]⟩], L15]) (fun _ h => h) ?_
        refine WO_pure tbok 1 [(6, .pointer (some ⟨b5, 0, none⟩)), (7, .int .i64 0)] rfl ⟨rfl, rfl, trivial⟩ ?_
        refine WO_end ?_
        cases hm
        exact WK_ret (ret_out (L := L15) (RLc_cell tbok 2 rfl rfl rfl (RLc_tmp rfl RLc_nil)) (seg_sub 3 rfl) ⟨a12, _, c13, rfl, hL15⟩)
    · refine WK_region ?_
      refine WO_pure tbok 3 [(2, .int .i64 p2), (3, .pointer (some ⟨b3, 0, none⟩)), (4, .pointer (some ⟨b4, 0, none⟩)), (6, .pointer (some ⟨b5, 0, none⟩)), (7, .int .i64 0), (18, .bool (decide (p2 < 1)))] rfl ⟨rfl, rfl, rfl, rfl, rfl, rfl, trivial⟩ ?_
      refine WO_split (d := 18) (b := decide (p2 < 1)) rfl (fun hb17 => ?_) (fun hb17 => ?_)
      · have hx8 := ifT hb17 hx8
        refine WO_pure tbok 3 [(2, .int .i64 p2), (3, .pointer (some ⟨b3, 0, none⟩)), (4, .pointer (some ⟨b4, 0, none⟩)), (6, .pointer (some ⟨b5, 0, none⟩)), (7, .int .i64 0), (21, .bool true)] rfl ⟨rfl, rfl, rfl, rfl, rfl, rfl, trivial⟩ ?_
        refine WO_end ?_
        cases hx8
        refine WK.sub ?_ (WK.cls (fun _ h => h) hk9)
        exact ⟨rfl, rfl, rfl, rfl, rfl, rfl, trivial⟩
      · have hx8 := ifF hb17 hx8
        refine WO_pure tbok 3 [(2, .int .i64 p2), (3, .pointer (some ⟨b3, 0, none⟩)), (4, .pointer (some ⟨b4, 0, none⟩)), (6, .pointer (some ⟨b5, 0, none⟩)), (7, .int .i64 0), (21, .bool (decide (64 < p2)))] rfl ⟨rfl, rfl, rfl, rfl, rfl, rfl, trivial⟩ ?_
        refine WO_end ?_
        cases hx8
        refine WK.sub ?_ (WK.cls (fun _ h => h) hk9)
        exact ⟨rfl, rfl, rfl, rfl, rfl, rfl, trivial⟩
theorem pyramid_Smooth_c1_walk {m : Mu} {p0 : Int} {p1 : Int} {q0_0 : Int} {q0_1 : Int} {q0_2 : Int} {q0_3 : List Int} {a_q0_3 : Option Addr} {q_q0_3 c_q0_3 : Nat} {b_q0 : Nat} (hb_q0 : m b_q0 = some (Ent.obj ⟨b_q0, 24, [.int .i64 q0_0, .int .i64 q0_1, .int .i64 q0_2, .slice a_q0_3 q_q0_3 c_q0_3]⟩)) (h_q0_3 : SlR (FE (I1 .i64)) 1 m (.slice a_q0_3 q_q0_3 c_q0_3) q0_3) {r : Int} (hm : pyramid_Smooth_c1 p0 p1 q0_0 q0_1 q0_2 q0_3 = some r) :
    Go.E.Spec Try.prog 63 [.int .i64 p0, .int .i64 p1, .pointer (some ⟨b_q0, 0, none⟩)] m (fun v _ _ => v = .int .i64 r) := by
  refine Spec_enter Try.func63 rfl rfl rfl (fun w0 => ?_)
  refine WK.sub (e' := [(0, .int .i64 p0), (1, .int .i64 p1), (2, .pointer (some ⟨b_q0, 0, none⟩))]) ⟨rfl, rfl, rfl, trivial⟩ ?_
  obtain rfl := SlR.qlen h_q0_3
  refine WK.sub (e' := [(0, .int .i64 p0), (1, .int .i64 p1), (2, .pointer (some ⟨b_q0, 0, none⟩))]) ⟨rfl, rfl, rfl, trivial⟩ ?_
  unfold pyramid_Smooth_c1 at hm
  refine WK_seq ?_
  refine WK_region ?_
  refine WO_pure tbok 1 [(0, .int .i64 p0), (1, .int .i64 p1), (2, .pointer (some ⟨b_q0, 0, none⟩)), (5, .int .i64 0)] rfl ⟨rfl, rfl, rfl, rfl, trivial⟩ ?_
  refine WO_end ?_
  refine WK_seq ?_
  refine WK_region ?_
  refine WO_pure tbok 1 [(0, .int .i64 p0), (1, .int .i64 p1), (2, .pointer (some ⟨b_q0, 0, none⟩)), (5, .int .i64 0), (6, .pointer (some ⟨b_q0, 3, none⟩))] rfl ⟨rfl, rfl, rfl, rfl, rfl, trivial⟩ ?_
  refine WO_loadM tbok rfl rfl rfl rfl (fun _ h => St.sat h) hb_q0 rfl ?_
  refine WO_pure tbok 3 [(0, .int .i64 p0), (2, .pointer (some ⟨b_q0, 0, none⟩)), (5, .int .i64 0), (7, .slice a_q0_3 q0_3.length c_q0_3), (9, .int .i64 (if p1 < 0 then 0 else p1)), (10, .pointer (some ⟨b_q0, 1, none⟩))] rfl ⟨rfl, rfl, rfl, rfl, rfl, rfl, trivial⟩ ?_
  refine WO_loadM tbok rfl rfl rfl rfl (fun _ h => St.sat h) hb_q0 rfl ?_
  refine WO_pure tbok 3 [(0, .int .i64 p0), (2, .pointer (some ⟨b_q0, 0, none⟩)), (5, .int .i64 0), (7, .slice a_q0_3 q0_3.length c_q0_3), (13, .int .i64 (if (w64 (q0_1 - 1)) < (if p1 < 0 then 0 else p1) then (w64 (q0_1 - 1)) else (if p1 < 0 then 0 else p1))), (14, .pointer (some ⟨b_q0, 0, none⟩))] rfl ⟨rfl, rfl, rfl, rfl, rfl, rfl, trivial⟩ ?_
  refine WO_loadM tbok rfl rfl rfl rfl (fun _ h => St.sat h) hb_q0 rfl ?_
  refine WO_pure tbok 4 [(5, .int .i64 0), (7, .slice a_q0_3 q0_3.length c_q0_3), (16, .int .i64 (w64 ((if (w64 (q0_1 - 1)) < (if p1 < 0 then 0 else p1) then (w64 (q0_1 - 1)) else (if p1 < 0 then 0 else p1)) * q0_0))), (18, .int .i64 (if p0 < 0 then 0 else p0)), (19, .pointer (some ⟨b_q0, 0, none⟩))] rfl ⟨rfl, rfl, rfl, rfl, rfl, trivial⟩ ?_
  refine WO_loadM tbok rfl rfl rfl rfl (fun _ h => St.sat h) hb_q0 rfl ?_
  refine WO_pure tbok 3 [(5, .int .i64 0), (7, .slice a_q0_3 q0_3.length c_q0_3), (23, .int .i64 (w64 ((w64 ((if (w64 (q0_1 - 1)) < (if p1 < 0 then 0 else p1) then (w64 (q0_1 - 1)) else (if p1 < 0 then 0 else p1)) * q0_0)) + (if (w64 (q0_0 - 1)) < (if p0 < 0 then 0 else p0) then (w64 (q0_0 - 1)) else (if p0 < 0 then 0 else p0)))))] rfl ⟨rfl, rfl, rfl, trivial⟩ ?_
  obtain ⟨v_1, hy2, hm⟩ := bind_some hm
  obtain ⟨hc3, hy2⟩ := ix_some hy2
  refine WO_index tbok rfl rfl rfl rfl rfl rfl rfl rfl (SlR.addr h_q0_3) hc3 ?_
  refine WO_loadE tbok rfl rfl rfl rfl (fun _ h => St.sat h) h_q0_3 hy2 rfl ?_
  refine WO_pure tbok 1 [(5, .int .i64 v_1)] rfl ⟨rfl, trivial⟩ ?_
  refine WO_end ?_
  cases hm
  exact WK_ret (ret_out (L := []) (RLc_tmp rfl RLc_nil) (List.nil_sublist _) rfl)
def pyramid_Smooth_Q (r : Int × Int × Int × List Int × Int) : Value → List Ent → Prop := fun v L => ∃ (a0 : Option Addr) (q0 c0 : Nat), v = .tuple #[.agg #[.int .i64 r.1, .int .i64 r.2.1, .int .i64 r.2.2.1, .slice a0 q0 c0], .int .i64 r.2.2.2.2] ∧ OwnE 3 1 (I1 .i64) (.slice a0 q0 c0) r.2.2.2.1 L
theorem pyramid_Smooth_walk {m : Mu} {p0_0 : Int} {p0_1 : Int} {p0_2 : Int} {p0_3 : List Int} {a_p0_3 : Option Addr} {q_p0_3 c_p0_3 : Nat} (h_p0_3 : SlR (FE (I1 .i64)) 1 m (.slice a_p0_3 q_p0_3 c_p0_3) p0_3) {r : Int × Int × Int × List Int × Int} (hm : pyramid_Smooth p0_0 p0_1 p0_2 p0_3 = some r) :
    Go.E.Spec Try.prog 26 [.agg #[.int .i64 p0_0, .int .i64 p0_1, .int .i64 p0_2, .slice a_p0_3 q_p0_3 c_p0_3]] m (fun v _ L => pyramid_Smooth_Q r v L) := by
  refine Spec_enter Try.func26 rfl rfl rfl (fun w0 => ?_)
  refine WK.sub (e' := [(0, .agg #[.int .i64 p0_0, .int .i64 p0_1, .int .i64 p0_2, .slice a_p0_3 q_p0_3 c_p0_3])]) ⟨rfl, trivial⟩ ?_
  obtain rfl := SlR.qlen h_p0_3
  refine WK.sub (e' := [(0, .agg #[.int .i64 p0_0, .int .i64 p0_1, .int .i64 p0_2, .slice a_p0_3 p0_3.length c_p0_3])]) ⟨rfl, trivial⟩ ?_
  unfold pyramid_Smooth at hm
  refine WK_seq ?_
  refine WK_region ?_
  refine WO_box [.int .i64 p0_0, .int .i64 p0_1, .int .i64 p0_2, .slice a_p0_3 p0_3.length c_p0_3] rfl rfl trivial rfl rfl rfl (fun b2 => ?_)
  refine WO.cls (C' := St w0 m m [[⟨b2, 24, [.int .i64 p0_0, .int .i64 p0_1, .int .i64 p0_2, .slice a_p0_3 p0_3.length c_p0_3]⟩]]) (fun _ h => h) ?_
  refine WO_alloc tbok [.int .i64 0, .int .i64 0, .int .i64 0, .slice none 0 0] rfl rfl trivial rfl rfl rfl rfl (fun b3 => ?_)
  refine WO.cls (C' := St w0 m m [[⟨b2, 24, [.int .i64 p0_0, .int .i64 p0_1, .int .i64 p0_2, .slice a_p0_3 p0_3.length c_p0_3]⟩], [⟨b3, 24, [.int .i64 0, .int .i64 0, .int .i64 0, .slice none 0 0]⟩]]) (fun _ h => h) ?_
  refine WO_pure tbok 1 [(1, .pointer (some ⟨b2, 0, none⟩)), (2, .pointer (some ⟨b3, 0, none⟩)), (3, .int .i64 0)] rfl ⟨rfl, rfl, rfl, trivial⟩ ?_
  refine WO_end ?_
  refine WK_seq ?_
  refine WK_seq ?_
  refine WK_region ?_
  refine WO_loadB tbok 0 rfl rfl rfl rfl (fun _ h => h) rfl rfl ?_
  obtain ⟨y_1, hc4, hm⟩ := bind_some hm
  refine WO_call0 (.int .i64 y_1) rfl rfl trivial rfl rfl rfl rfl St_closed ⟨43, #[], #[], rfl, callable_43, fun w hw => ⟨_, hw.sat, raster_Check_walk h_p0_3 hc4⟩⟩ ?_
  refine WO_pure tbok 1 [(1, .pointer (some ⟨b2, 0, none⟩)), (2, .pointer (some ⟨b3, 0, none⟩)), (3, .int .i64 0), (4, .int .i64 y_1)] rfl ⟨rfl, rfl, rfl, rfl, trivial⟩ ?_
  refine WO_end ?_
  refine WK_seq ?_
  refine WK_region ?_
  refine WO_pure tbok 2 [(1, .pointer (some ⟨b2, 0, none⟩)), (2, .pointer (some ⟨b3, 0, none⟩)), (3, .int .i64 0), (4, .int .i64 y_1), (18, .bool (y_1 != 0))] rfl ⟨rfl, rfl, rfl, rfl, rfl, trivial⟩ ?_
  refine WO_end ?_
  refine WK_cond (b := y_1 != 0) rfl (fun hb5 => ?_) (fun hb5 => ?_)
  · have hm := ifT hb5 hm
    refine WK_seq ?_
    refine WK_region ?_
    refine WO_pure tbok 2 [(1, .pointer (some ⟨b2, 0, none⟩)), (2, .pointer (some ⟨b3, 0, none⟩)), (3, .int .i64 0), (19, .agg #[.int .i64 0, .int .i64 0, .int .i64 0, .slice none 0 0]), (20, .int .i64 y_1)] rfl ⟨rfl, rfl, rfl, rfl, rfl, trivial⟩ ?_
    refine WO_storeB tbok 1 [.int .i64 0, .int .i64 0, .int .i64 0, .slice none 0 0] rfl rfl rfl rfl rfl rfl rfl ?_
    refine WO.cls (C' := St w0 m m [[⟨b2, 24, [.int .i64 p0_0, .int .i64 p0_1, .int .i64 p0_2, .slice a_p0_3 p0_3.length c_p0_3]⟩], [⟨b3, 24, [.int .i64 0, .int .i64 0, .int .i64 0, .slice none 0 0]⟩]]) (fun _ h => h) ?_
    refine WO_pure tbok 1 [(1, .pointer (some ⟨b2, 0, none⟩)), (2, .pointer (some ⟨b3, 0, none⟩)), (3, .int .i64 y_1)] rfl ⟨rfl, rfl, rfl, trivial⟩ ?_
    refine WO_end ?_
    cases hm
    exact WK_ret (ret_out (L := []) (RLc_cell tbok 1 rfl rfl rfl (RLc_tmp rfl RLc_nil)) (List.nil_sublist _) ⟨none, 0, 0, rfl, (OwnE.nil none)⟩)
  · have hm := ifF hb5 hm
    refine WK_skip ?_
    refine WK_seq ?_
    refine WK_region ?_
    refine WO_pure tbok 1 [(1, .pointer (some ⟨b2, 0, none⟩)), (2, .pointer (some ⟨b3, 0, none⟩)), (3, .int .i64 0), (21, .pointer (some ⟨b2, 0, none⟩))] rfl ⟨rfl, rfl, rfl, rfl, trivial⟩ ?_
    refine WO_loadB tbok 0 rfl rfl rfl rfl (fun _ h => h) rfl rfl ?_
    refine WO_pure tbok 1 [(1, .pointer (some ⟨b2, 0, none⟩)), (2, .pointer (some ⟨b3, 0, none⟩)), (3, .int .i64 0), (22, .int .i64 p0_0), (23, .pointer (some ⟨b2, 1, none⟩))] rfl ⟨rfl, rfl, rfl, rfl, rfl, trivial⟩ ?_
    refine WO_loadB tbok 0 rfl rfl rfl rfl (fun _ h => h) rfl rfl ?_
    refine WO_pure tbok 1 [(1, .pointer (some ⟨b2, 0, none⟩)), (2, .pointer (some ⟨b3, 0, none⟩)), (3, .int .i64 0), (22, .int .i64 p0_0), (24, .int .i64 p0_1), (25, .pointer (some ⟨b2, 2, none⟩))] rfl ⟨rfl, rfl, rfl, rfl, rfl, rfl, trivial⟩ ?_
    refine WO_loadB tbok 0 rfl rfl rfl rfl (fun _ h => h) rfl rfl ?_
    refine WO_pure tbok 1 [(1, .pointer (some ⟨b2, 0, none⟩)), (2, .pointer (some ⟨b3, 0, none⟩)), (3, .int .i64 0), (27, .agg #[.int .i64 p0_0, .int .i64 p0_1, .int .i64 p0_2, .slice none 0 0])] rfl ⟨rfl, rfl, rfl, rfl, trivial⟩ ?_
    refine WO_alloc tbok [.int .i64 0, .int .i64 0, .int .i64 0, .slice none 0 0] rfl rfl trivial rfl rfl rfl rfl (fun b6 => ?_)
    refine WO.cls (C' := St w0 m m [[⟨b2, 24, [.int .i64 p0_0, .int .i64 p0_1, .int .i64 p0_2, .slice a_p0_3 p0_3.length c_p0_3]⟩], [⟨b3, 24, [.int .i64 0, .int .i64 0, .int .i64 0, .slice none 0 0]⟩], [⟨b6, 24, [.int .i64 0, .int .i64 0, .int .i64 0, .slice none 0 0]⟩]]) (fun _ h => h) ?_
    refine WO_storeB tbok 2 [.int .i64 p0_0, .int .i64 p0_1, .int .i64 p0_2, .slice none 0 0] rfl rfl rfl rfl rfl rfl rfl ?_
    refine WO.cls (C' := St w0 m m [[⟨b2, 24, [.int .i64 p0_0, .int .i64 p0_1, .int .i64 p0_2, .slice a_p0_3 p0_3.length c_p0_3]⟩], [⟨b3, 24, [.int .i64 0, .int .i64 0, .int .i64 0, .slice none 0 0]⟩], [⟨b6, 24, [.int .i64 p0_0, .int .i64 p0_1, .int .i64 p0_2, .slice none 0 0]⟩]]) (fun _ h => h) ?_
    refine WO_end ?_
    refine WK_seq ?_
    refine WK_region ?_
    refine WO_pure tbok 2 [(1, .pointer (some ⟨b2, 0, none⟩)), (2, .pointer (some ⟨b3, 0, none⟩)), (3, .int .i64 0), (5, .pointer (some ⟨b6, 0, none⟩)), (6, .func (.func 63) #[] #[.pointer (some ⟨b2, 0, none⟩)])] rfl ⟨rfl, rfl, rfl, rfl, rfl, trivial⟩ ?_
    refine WO_end ?_
    refine WK_seq ?_
    refine WK_region ?_
    refine WO_pure tbok 1 [(1, .pointer (some ⟨b2, 0, none⟩)), (2, .pointer (some ⟨b3, 0, none⟩)), (3, .int .i64 0), (5, .pointer (some ⟨b6, 0, none⟩)), (6, .func (.func 63) #[] #[.pointer (some ⟨b2, 0, none⟩)]), (29, .agg #[.int .i64 1, .int .i64 2, .int .i64 1])] rfl ⟨rfl, rfl, rfl, rfl, rfl, rfl, trivial⟩ ?_
    refine WO_alloc tbok [.int .i64 0, .int .i64 0, .int .i64 0] rfl rfl trivial rfl rfl rfl rfl (fun b7 => ?_)
    refine WO.cls (C' := St w0 m m [[⟨b2, 24, [.int .i64 p0_0, .int .i64 p0_1, .int .i64 p0_2, .slice a_p0_3 p0_3.length c_p0_3]⟩], [⟨b3, 24, [.int .i64 0, .int .i64 0, .int .i64 0, .slice none 0 0]⟩], [⟨b6, 24, [.int .i64 p0_0, .int .i64 p0_1, .int .i64 p0_2, .slice none 0 0]⟩], [⟨b7, 115, [.int .i64 0, .int .i64 0, .int .i64 0]⟩]]) (fun _ h => h) ?_
    refine WO_storeB tbok 3 [.int .i64 1, .int .i64 2, .int .i64 1] rfl rfl rfl rfl rfl rfl rfl ?_
    refine WO.cls (C' := St w0 m m [[⟨b2, 24, [.int .i64 p0_0, .int .i64 p0_1, .int .i64 p0_2, .slice a_p0_3 p0_3.length c_p0_3]⟩], [⟨b3, 24, [.int .i64 0, .int .i64 0, .int .i64 0, .slice none 0 0]⟩], [⟨b6, 24, [.int .i64 p0_0, .int .i64 p0_1, .int .i64 p0_2, .slice none 0 0]⟩], [⟨b7, 115, [.int .i64 1, .int .i64 2, .int .i64 1]⟩]]) (fun _ h => h) ?_
    refine WO_end ?_
    refine WK_seq ?_
    refine WK_seq ?_
    refine WK_region ?_
    refine WO_pure tbok 1 [(1, .pointer (some ⟨b2, 0, none⟩)), (2, .pointer (some ⟨b3, 0, none⟩)), (3, .int .i64 0), (5, .pointer (some ⟨b6, 0, none⟩)), (6, .func (.func 63) #[] #[.pointer (some ⟨b2, 0, none⟩)]), (7, .pointer (some ⟨b7, 0, none⟩)), (30, .pointer (some ⟨b2, 1, none⟩))] rfl ⟨rfl, rfl, rfl, rfl, rfl, rfl, rfl, trivial⟩ ?_
    refine WO_loadB tbok 0 rfl rfl rfl rfl (fun _ h => h) rfl rfl ?_
    refine WO_pure tbok 1 [(1, .pointer (some ⟨b2, 0, none⟩)), (2, .pointer (some ⟨b3, 0, none⟩)), (3, .int .i64 0), (5, .pointer (some ⟨b6, 0, none⟩)), (6, .func (.func 63) #[] #[.pointer (some ⟨b2, 0, none⟩)]), (7, .pointer (some ⟨b7, 0, none⟩)), (31, .int .i64 p0_1), (32, .int .i64 0)] rfl ⟨rfl, rfl, rfl, rfl, rfl, rfl, rfl, rfl, trivial⟩ ?_
    refine WO_end ?_
    refine WK_pad ?_
    obtain ⟨x19, hx20, hm⟩ := bind_some hm
    refine WK_join (β := (List Int) × (Option Addr × Nat × Nat × List Ent)) (fun p => p.1 = x19 ∧ OwnE 3 1 (I1 .i64) (.slice p.2.1 p.2.2.1 p.2.2.2.1) p.1 p.2.2.2.2) (fun p => [(2, .pointer (some ⟨b3, 0, none⟩)), (3, .int .i64 0), (5, .pointer (some ⟨b6, 0, none⟩))]) (fun p => St w0 m m [[⟨b2, 24, [.int .i64 p0_0, .int .i64 p0_1, .int .i64 p0_2, .slice a_p0_3 p0_3.length c_p0_3]⟩], [⟨b3, 24, [.int .i64 0, .int .i64 0, .int .i64 0, .slice none 0 0]⟩], [⟨b6, 24, [.int .i64 p0_0, .int .i64 p0_1, .int .i64 p0_2, .slice p.2.1 p.2.2.1 p.2.2.2.1]⟩], [⟨b7, 115, [.int .i64 1, .int .i64 2, .int .i64 1]⟩], p.2.2.2.2]) ?_ (fun hk21 => ?_)
    · rintro ⟨l_4, ⟨a16, q17, c18, L15⟩⟩ ⟨hq27, hL15⟩
      subst hq27
      have hqq : q17 = l_4.length := OwnE.qlen hL15
      subst hqq
      refine WK.sub (e' := [(2, .pointer (some ⟨b3, 0, none⟩)), (3, .int .i64 0), (5, .pointer (some ⟨b6, 0, none⟩))]) ⟨rfl, rfl, rfl, trivial⟩ (WK.cls (C' := St w0 m m [[⟨b2, 24, [.int .i64 p0_0, .int .i64 p0_1, .int .i64 p0_2, .slice a_p0_3 p0_3.length c_p0_3]⟩], [⟨b3, 24, [.int .i64 0, .int .i64 0, .int .i64 0, .slice none 0 0]⟩], [⟨b6, 24, [.int .i64 p0_0, .int .i64 p0_1, .int .i64 p0_2, .slice a16 ((l_4).length) c18]⟩], [⟨b7, 115, [.int .i64 1, .int .i64 2, .int .i64 1]⟩], L15]) (fun _ h => h) ?_)
      refine WK_seq ?_
      refine WK_region ?_
      refine WO_loadB tbok 2 rfl rfl rfl rfl (fun _ h => h) rfl rfl ?_
      refine WO_storeB tbok 1 [.int .i64 p0_0, .int .i64 p0_1, .int .i64 p0_2, .slice a16 ((l_4).length) c18] rfl rfl rfl rfl rfl rfl rfl ?_
      refine WO.cls (C' := St w0 m m [[⟨b2, 24, [.int .i64 p0_0, .int .i64 p0_1, .int .i64 p0_2, .slice a_p0_3 p0_3.length c_p0_3]⟩], [⟨b3, 24, [.int .i64 p0_0, .int .i64 p0_1, .int .i64 p0_2, .slice a16 ((l_4).length) c18]⟩], [⟨b6, 24, [.int .i64 p0_0, .int .i64 p0_1, .int .i64 p0_2, .slice a16 ((l_4).length) c18]⟩], [⟨b7, 115, [.int .i64 1, .int .i64 2, .int .i64 1]⟩], L15]) (fun _ h => h) ?_
      refine WO_pure tbok 1 [(2, .pointer (some ⟨b3, 0, none⟩)), (3, .int .i64 0)] rfl ⟨rfl, rfl, trivial⟩ ?_
      refine WO_end ?_
      cases hm
      exact WK_ret (ret_out (L := L15) (RLc_cell tbok 1 rfl rfl rfl (RLc_tmp rfl RLc_nil)) (seg_sub 4 rfl) ⟨a16, _, c18, rfl, hL15⟩)
    · refine WK_block ?_
      refine WK_loop (S := List Int × Int) (G := Option Addr × Nat × Nat × List Ent) (fun s => pyramid_Smooth_s1 p0_0 p0_1 p0_2 p0_3 s.1 s.2) (fun s g => [(1, .pointer (some ⟨b2, 0, none⟩)), (2, .pointer (some ⟨b3, 0, none⟩)), (3, .int .i64 0), (5, .pointer (some ⟨b6, 0, none⟩)), (6, .func (.func 63) #[] #[.pointer (some ⟨b2, 0, none⟩)]), (7, .pointer (some ⟨b7, 0, none⟩)), (31, .int .i64 p0_1), (32, .int .i64 s.2)]) (fun s g => St w0 m m [[⟨b2, 24, [.int .i64 p0_0, .int .i64 p0_1, .int .i64 p0_2, .slice a_p0_3 p0_3.length c_p0_3]⟩], [⟨b3, 24, [.int .i64 0, .int .i64 0, .int .i64 0, .slice none 0 0]⟩], [⟨b6, 24, [.int .i64 p0_0, .int .i64 p0_1, .int .i64 p0_2, .slice g.1 g.2.1 g.2.2.1]⟩], [⟨b7, 115, [.int .i64 1, .int .i64 2, .int .i64 1]⟩], g.2.2.2]) (fun s g => OwnE 3 1 (I1 .i64) (.slice g.1 g.2.1 g.2.2.1) s.1 g.2.2.2) FUEL (([] : List Int), 0) (none, 0, 0, []) x19 hx20 (OwnE.nil (T := 3) (k := 1) (E := (I1 .i64)) none) ⟨rfl, rfl, rfl, rfl, rfl, rfl, rfl, rfl, trivial⟩ (fun _ h => h) ?_
      rintro ⟨l_2, s_3⟩ ⟨a11, q12, c13, L10⟩ o23 fl24 hm22 hL10 hn25 hd26
      have hm22 : pyramid_Smooth_s1 p0_0 p0_1 p0_2 p0_3 l_2 s_3 = some o23 := hm22
      unfold pyramid_Smooth_s1 at hm22
      have hqq : q12 = l_2.length := OwnE.qlen hL10
      subst hqq
      refine WK.sub (e' := [(1, .pointer (some ⟨b2, 0, none⟩)), (2, .pointer (some ⟨b3, 0, none⟩)), (3, .int .i64 0), (5, .pointer (some ⟨b6, 0, none⟩)), (6, .func (.func 63) #[] #[.pointer (some ⟨b2, 0, none⟩)]), (7, .pointer (some ⟨b7, 0, none⟩)), (31, .int .i64 p0_1), (32, .int .i64 s_3)]) ⟨rfl, rfl, rfl, rfl, rfl, rfl, rfl, rfl, trivial⟩ (WK.cls (C' := St w0 m m [[⟨b2, 24, [.int .i64 p0_0, .int .i64 p0_1, .int .i64 p0_2, .slice a_p0_3 p0_3.length c_p0_3]⟩], [⟨b3, 24, [.int .i64 0, .int .i64 0, .int .i64 0, .slice none 0 0]⟩], [⟨b6, 24, [.int .i64 p0_0, .int .i64 p0_1, .int .i64 p0_2, .slice a11 ((l_2).length) c13]⟩], [⟨b7, 115, [.int .i64 1, .int .i64 2, .int .i64 1]⟩], L10]) (fun _ h => h) ?_)
      refine WK_seq ?_
      refine WK_region ?_
      refine WO_pure tbok 1 [(1, .pointer (some ⟨b2, 0, none⟩)), (2, .pointer (some ⟨b3, 0, none⟩)), (3, .int .i64 0), (5, .pointer (some ⟨b6, 0, none⟩)), (6, .func (.func 63) #[] #[.pointer (some ⟨b2, 0, none⟩)]), (7, .pointer (some ⟨b7, 0, none⟩)), (31, .int .i64 p0_1), (32, .int .i64 s_3), (33, .bool (decide (s_3 < p0_1)))] rfl ⟨rfl, rfl, rfl, rfl, rfl, rfl, rfl, rfl, rfl, trivial⟩ ?_
      refine WO_end ?_
      refine WK_seq ?_
      refine WK_cond (b := decide (s_3 < p0_1)) rfl (fun hb28 => ?_) (fun hb28 => ?_)
      · have hm22 := ifT hb28 hm22
        refine WK_skip ?_
        refine WK_seq ?_
        refine WK_block ?_
        refine WK_seq ?_
        refine WK_region ?_
        refine WO_pure tbok 2 [(1, .pointer (some ⟨b2, 0, none⟩)), (2, .pointer (some ⟨b3, 0, none⟩)), (3, .int .i64 0), (5, .pointer (some ⟨b6, 0, none⟩)), (6, .func (.func 63) #[] #[.pointer (some ⟨b2, 0, none⟩)]), (7, .pointer (some ⟨b7, 0, none⟩)), (8, .int .i64 s_3), (31, .int .i64 p0_1), (32, .int .i64 s_3)] rfl ⟨rfl, rfl, rfl, rfl, rfl, rfl, rfl, rfl, rfl, trivial⟩ ?_
        refine WO_end ?_
        refine WK_seq ?_
        refine WK_region ?_
        refine WO_pure tbok 1 [(1, .pointer (some ⟨b2, 0, none⟩)), (2, .pointer (some ⟨b3, 0, none⟩)), (3, .int .i64 0), (5, .pointer (some ⟨b6, 0, none⟩)), (6, .func (.func 63) #[] #[.pointer (some ⟨b2, 0, none⟩)]), (7, .pointer (some ⟨b7, 0, none⟩)), (8, .int .i64 s_3), (31, .int .i64 p0_1), (32, .int .i64 s_3), (35, .pointer (some ⟨b2, 0, none⟩))] rfl ⟨rfl, rfl, rfl, rfl, rfl, rfl, rfl, rfl, rfl, rfl, trivial⟩ ?_
        refine WO_loadB tbok 0 rfl rfl rfl rfl (fun _ h => h) rfl rfl ?_
        refine WO_pure tbok 1 [(1, .pointer (some ⟨b2, 0, none⟩)), (2, .pointer (some ⟨b3, 0, none⟩)), (3, .int .i64 0), (5, .pointer (some ⟨b6, 0, none⟩)), (6, .func (.func 63) #[] #[.pointer (some ⟨b2, 0, none⟩)]), (7, .pointer (some ⟨b7, 0, none⟩)), (8, .int .i64 s_3), (31, .int .i64 p0_1), (32, .int .i64 s_3), (36, .int .i64 p0_0), (37, .int .i64 0)] rfl ⟨rfl, rfl, rfl, rfl, rfl, rfl, rfl, rfl, rfl, rfl, rfl, trivial⟩ ?_
        refine WO_end ?_
        obtain ⟨x39, hx40, hm22⟩ := bind_some hm22
        refine WK_join (β := (List Int) × (Option Addr × Nat × Nat × List Ent)) (fun p => p.1 = x39 ∧ OwnE 3 1 (I1 .i64) (.slice p.2.1 p.2.2.1 p.2.2.2.1) p.1 p.2.2.2.2) (fun p => [(1, .pointer (some ⟨b2, 0, none⟩)), (2, .pointer (some ⟨b3, 0, none⟩)), (3, .int .i64 0), (5, .pointer (some ⟨b6, 0, none⟩)), (6, .func (.func 63) #[] #[.pointer (some ⟨b2, 0, none⟩)]), (7, .pointer (some ⟨b7, 0, none⟩)), (31, .int .i64 p0_1), (32, .int .i64 s_3)]) (fun p => St w0 m m [[⟨b2, 24, [.int .i64 p0_0, .int .i64 p0_1, .int .i64 p0_2, .slice a_p0_3 p0_3.length c_p0_3]⟩], [⟨b3, 24, [.int .i64 0, .int .i64 0, .int .i64 0, .slice none 0 0]⟩], [⟨b6, 24, [.int .i64 p0_0, .int .i64 p0_1, .int .i64 p0_2, .slice p.2.1 p.2.2.1 p.2.2.2.1]⟩], [⟨b7, 115, [.int .i64 1, .int .i64 2, .int .i64 1]⟩], p.2.2.2.2]) ?_ (fun hk41 => ?_)
        · rintro ⟨l_7, ⟨a36, q37, c38, L35⟩⟩ ⟨hq47, hL35⟩
          subst hq47
          have hqq : q37 = l_7.length := OwnE.qlen hL35
          subst hqq
          refine WK.sub (e' := [(1, .pointer (some ⟨b2, 0, none⟩)), (2, .pointer (some ⟨b3, 0, none⟩)), (3, .int .i64 0), (5, .pointer (some ⟨b6, 0, none⟩)), (6, .func (.func 63) #[] #[.pointer (some ⟨b2, 0, none⟩)]), (7, .pointer (some ⟨b7, 0, none⟩)), (31, .int .i64 p0_1), (32, .int .i64 s_3)]) ⟨rfl, rfl, rfl, rfl, rfl, rfl, rfl, rfl, trivial⟩ (WK.cls (C' := St w0 m m [[⟨b2, 24, [.int .i64 p0_0, .int .i64 p0_1, .int .i64 p0_2, .slice a_p0_3 p0_3.length c_p0_3]⟩], [⟨b3, 24, [.int .i64 0, .int .i64 0, .int .i64 0, .slice none 0 0]⟩], [⟨b6, 24, [.int .i64 p0_0, .int .i64 p0_1, .int .i64 p0_2, .slice a36 ((l_7).length) c38]⟩], [⟨b7, 115, [.int .i64 1, .int .i64 2, .int .i64 1]⟩], L35]) (fun _ h => h) ?_)
          refine WK_blk ?_
          refine WK_region ?_
          refine WO_pure tbok 2 [(1, .pointer (some ⟨b2, 0, none⟩)), (2, .pointer (some ⟨b3, 0, none⟩)), (3, .int .i64 0), (5, .pointer (some ⟨b6, 0, none⟩)), (6, .func (.func 63) #[] #[.pointer (some ⟨b2, 0, none⟩)]), (7, .pointer (some ⟨b7, 0, none⟩)), (31, .int .i64 p0_1), (32, .int .i64 (w64 (s_3 + 1)))] rfl ⟨rfl, rfl, rfl, rfl, rfl, rfl, rfl, rfl, trivial⟩ ?_
          refine WO_end ?_
          cases hm22
          refine WK.sub ?_ (WK.cls (fun _ h => h) (hn25 _ (a36, _, c38, L35) rfl hL35))
          exact ⟨rfl, rfl, rfl, rfl, rfl, rfl, rfl, rfl, trivial⟩
        · refine WK_block ?_
          refine WK_loop (S := List Int × Int) (G := Option Addr × Nat × Nat × List Ent) (fun s => pyramid_Smooth_s2 p0_0 p0_1 p0_2 p0_3 s_3 s.1 s.2) (fun s g => [(1, .pointer (some ⟨b2, 0, none⟩)), (2, .pointer (some ⟨b3, 0, none⟩)), (3, .int .i64 0), (5, .pointer (some ⟨b6, 0, none⟩)), (6, .func (.func 63) #[] #[.pointer (some ⟨b2, 0, none⟩)]), (7, .pointer (some ⟨b7, 0, none⟩)), (8, .int .i64 s_3), (31, .int .i64 p0_1), (32, .int .i64 s_3), (36, .int .i64 p0_0), (37, .int .i64 s.2)]) (fun s g => St w0 m m [[⟨b2, 24, [.int .i64 p0_0, .int .i64 p0_1, .int .i64 p0_2, .slice a_p0_3 p0_3.length c_p0_3]⟩], [⟨b3, 24, [.int .i64 0, .int .i64 0, .int .i64 0, .slice none 0 0]⟩], [⟨b6, 24, [.int .i64 p0_0, .int .i64 p0_1, .int .i64 p0_2, .slice g.1 g.2.1 g.2.2.1]⟩], [⟨b7, 115, [.int .i64 1, .int .i64 2, .int .i64 1]⟩], g.2.2.2]) (fun s g => OwnE 3 1 (I1 .i64) (.slice g.1 g.2.1 g.2.2.1) s.1 g.2.2.2) FUEL (l_2, 0) (a11, _, c13, L10) x39 hx40 hL10 ⟨rfl, rfl, rfl, rfl, rfl, rfl, rfl, rfl, rfl, rfl, rfl, trivial⟩ (fun _ h => h) ?_
          rintro ⟨l_5, s_6⟩ ⟨a31, q32, c33, L30⟩ o43 fl44 hm42 hL30 hn45 hd46
          have hm42 : pyramid_Smooth_s2 p0_0 p0_1 p0_2 p0_3 s_3 l_5 s_6 = some o43 := hm42
          unfold pyramid_Smooth_s2 at hm42
          have hqq : q32 = l_5.length := OwnE.qlen hL30
          subst hqq
          refine WK.sub (e' := [(1, .pointer (some ⟨b2, 0, none⟩)), (2, .pointer (some ⟨b3, 0, none⟩)), (3, .int .i64 0), (5, .pointer (some ⟨b6, 0, none⟩)), (6, .func (.func 63) #[] #[.pointer (some ⟨b2, 0, none⟩)]), (7, .pointer (some ⟨b7, 0, none⟩)), (8, .int .i64 s_3), (31, .int .i64 p0_1), (32, .int .i64 s_3), (36, .int .i64 p0_0), (37, .int .i64 s_6)]) ⟨rfl, rfl, rfl, rfl, rfl, rfl, rfl, rfl, rfl, rfl, rfl, trivial⟩ (WK.cls (C' := St w0 m m [[⟨b2, 24, [.int .i64 p0_0, .int .i64 p0_1, .int .i64 p0_2, .slice a_p0_3 p0_3.length c_p0_3]⟩], [⟨b3, 24, [.int .i64 0, .int .i64 0, .int .i64 0, .slice none 0 0]⟩], [⟨b6, 24, [.int .i64 p0_0, .int .i64 p0_1, .int .i64 p0_2, .slice a31 ((l_5).length) c33]⟩], [⟨b7, 115, [.int .i64 1, .int .i64 2, .int .i64 1]⟩], L30]) (fun _ h => h) ?_)
          refine WK_seq ?_
          refine WK_region ?_
          refine WO_pure tbok 1 [(1, .pointer (some ⟨b2, 0, none⟩)), (2, .pointer (some ⟨b3, 0, none⟩)), (3, .int .i64 0), (5, .pointer (some ⟨b6, 0, none⟩)), (6, .func (.func 63) #[] #[.pointer (some ⟨b2, 0, none⟩)]), (7, .pointer (some ⟨b7, 0, none⟩)), (8, .int .i64 s_3), (31, .int .i64 p0_1), (32, .int .i64 s_3), (36, .int .i64 p0_0), (37, .int .i64 s_6), (38, .bool (decide (s_6 < p0_0)))] rfl ⟨rfl, rfl, rfl, rfl, rfl, rfl, rfl, rfl, rfl, rfl, rfl, rfl, trivial⟩ ?_
          refine WO_end ?_
          refine WK_seq ?_
          refine WK_cond (b := decide (s_6 < p0_0)) rfl (fun hb48 => ?_) (fun hb48 => ?_)
          · have hm42 := ifT hb48 hm42
            refine WK_skip ?_
            refine WK_seq ?_
            refine WK_block ?_
            refine WK_seq ?_
            refine WK_region ?_
            refine WO_pure tbok 2 [(1, .pointer (some ⟨b2, 0, none⟩)), (2, .pointer (some ⟨b3, 0, none⟩)), (3, .int .i64 0), (5, .pointer (some ⟨b6, 0, none⟩)), (6, .func (.func 63) #[] #[.pointer (some ⟨b2, 0, none⟩)]), (7, .pointer (some ⟨b7, 0, none⟩)), (8, .int .i64 s_3), (9, .int .i64 s_6), (31, .int .i64 p0_1), (32, .int .i64 s_3), (36, .int .i64 p0_0), (37, .int .i64 s_6)] rfl ⟨rfl, rfl, rfl, rfl, rfl, rfl, rfl, rfl, rfl, rfl, rfl, rfl, trivial⟩ ?_
            refine WO_end ?_
            refine WK_seq ?_
            refine WK_region ?_
            refine WO_pure tbok 1 [(1, .pointer (some ⟨b2, 0, none⟩)), (2, .pointer (some ⟨b3, 0, none⟩)), (3, .int .i64 0), (5, .pointer (some ⟨b6, 0, none⟩)), (6, .func (.func 63) #[] #[.pointer (some ⟨b2, 0, none⟩)]), (7, .pointer (some ⟨b7, 0, none⟩)), (8, .int .i64 s_3), (9, .int .i64 s_6), (10, .int .i64 8), (31, .int .i64 p0_1), (32, .int .i64 s_3), (36, .int .i64 p0_0), (37, .int .i64 s_6)] rfl ⟨rfl, rfl, rfl, rfl, rfl, rfl, rfl, rfl, rfl, rfl, rfl, rfl, rfl, trivial⟩ ?_
            refine WO_end ?_
            refine WK_seq ?_
            refine WK_seq ?_
            refine WK_region ?_
            refine WO_loadB tbok 3 rfl rfl rfl rfl (fun _ h => h) rfl rfl ?_
            refine WO_pure tbok 1 [(1, .pointer (some ⟨b2, 0, none⟩)), (2, .pointer (some ⟨b3, 0, none⟩)), (3, .int .i64 0), (5, .pointer (some ⟨b6, 0, none⟩)), (6, .func (.func 63) #[] #[.pointer (some ⟨b2, 0, none⟩)]), (7, .pointer (some ⟨b7, 0, none⟩)), (8, .int .i64 s_3), (9, .int .i64 s_6), (10, .int .i64 8), (31, .int .i64 p0_1), (32, .int .i64 s_3), (36, .int .i64 p0_0), (37, .int .i64 s_6), (40, .agg #[.int .i64 1, .int .i64 2, .int .i64 1]), (41, .int .i64 0)] rfl ⟨rfl, rfl, rfl, rfl, rfl, rfl, rfl, rfl, rfl, rfl, rfl, rfl, rfl, rfl, rfl, trivial⟩ ?_
            refine WO_end ?_
            obtain ⟨x49, hx50, hm42⟩ := bind_some hm42
            refine WK_join (β := Int × Unit) (fun p => p.1 = x49) (fun p => [(1, .pointer (some ⟨b2, 0, none⟩)), (2, .pointer (some ⟨b3, 0, none⟩)), (3, .int .i64 0), (5, .pointer (some ⟨b6, 0, none⟩)), (6, .func (.func 63) #[] #[.pointer (some ⟨b2, 0, none⟩)]), (7, .pointer (some ⟨b7, 0, none⟩)), (8, .int .i64 s_3), (10, .int .i64 p.1), (31, .int .i64 p0_1), (32, .int .i64 s_3), (36, .int .i64 p0_0), (37, .int .i64 s_6)]) (fun p => St w0 m m [[⟨b2, 24, [.int .i64 p0_0, .int .i64 p0_1, .int .i64 p0_2, .slice a_p0_3 p0_3.length c_p0_3]⟩], [⟨b3, 24, [.int .i64 0, .int .i64 0, .int .i64 0, .slice none 0 0]⟩], [⟨b6, 24, [.int .i64 p0_0, .int .i64 p0_1, .int .i64 p0_2, .slice a31 ((l_5).length) c33]⟩], [⟨b7, 115, [.int .i64 1, .int .i64 2, .int .i64 1]⟩], L30]) ?_ (fun hk51 => ?_)
            · rintro ⟨s_10, ⟨⟩⟩ hq57
              subst hq57
              refine WK.sub (e' := [(1, .pointer (some ⟨b2, 0, none⟩)), (2, .pointer (some ⟨b3, 0, none⟩)), (3, .int .i64 0), (5, .pointer (some ⟨b6, 0, none⟩)), (6, .func (.func 63) #[] #[.pointer (some ⟨b2, 0, none⟩)]), (7, .pointer (some ⟨b7, 0, none⟩)), (8, .int .i64 s_3), (10, .int .i64 s_10), (31, .int .i64 p0_1), (32, .int .i64 s_3), (36, .int .i64 p0_0), (37, .int .i64 s_6)]) ⟨rfl, rfl, rfl, rfl, rfl, rfl, rfl, rfl, rfl, rfl, rfl, rfl, trivial⟩ (WK.cls (C' := St w0 m m [[⟨b2, 24, [.int .i64 p0_0, .int .i64 p0_1, .int .i64 p0_2, .slice a_p0_3 p0_3.length c_p0_3]⟩], [⟨b3, 24, [.int .i64 0, .int .i64 0, .int .i64 0, .slice none 0 0]⟩], [⟨b6, 24, [.int .i64 p0_0, .int .i64 p0_1, .int .i64 p0_2, .slice a31 ((l_5).length) c33]⟩], [⟨b7, 115, [.int .i64 1, .int .i64 2, .int .i64 1]⟩], L30]) (fun _ h => h) ?_)
              refine WK_region ?_
              refine WO_pure tbok 1 [(1, .pointer (some ⟨b2, 0, none⟩)), (2, .pointer (some ⟨b3, 0, none⟩)), (3, .int .i64 0), (5, .pointer (some ⟨b6, 0, none⟩)), (6, .func (.func 63) #[] #[.pointer (some ⟨b2, 0, none⟩)]), (7, .pointer (some ⟨b7, 0, none⟩)), (8, .int .i64 s_3), (10, .int .i64 s_10), (31, .int .i64 p0_1), (32, .int .i64 s_3), (36, .int .i64 p0_0), (37, .int .i64 s_6), (68, .pointer (some ⟨b6, 3, none⟩))] rfl ⟨rfl, rfl, rfl, rfl, rfl, rfl, rfl, rfl, rfl, rfl, rfl, rfl, rfl, trivial⟩ ?_
              refine WO_loadB tbok 2 rfl rfl rfl rfl (fun _ h => h) rfl rfl ?_
              refine WO_pure tbok 2 [(1, .pointer (some ⟨b2, 0, none⟩)), (2, .pointer (some ⟨b3, 0, none⟩)), (3, .int .i64 0), (5, .pointer (some ⟨b6, 0, none⟩)), (6, .func (.func 63) #[] #[.pointer (some ⟨b2, 0, none⟩)]), (7, .pointer (some ⟨b7, 0, none⟩)), (8, .int .i64 s_3), (31, .int .i64 p0_1), (32, .int .i64 s_3), (36, .int .i64 p0_0), (37, .int .i64 s_6), (69, .slice a31 ((l_5).length) c33), (71, .int .i64 (w64 (Int.tdiv s_10 16)))] rfl ⟨rfl, rfl, rfl, rfl, rfl, rfl, rfl, rfl, rfl, rfl, rfl, rfl, rfl, trivial⟩ ?_
              refine WO_bslice (E := (I1 .i64)) tbok (fun _ => rfl) (by decide) [.int .i64 (w64 (Int.tdiv s_10 16))] ([w64 (Int.tdiv s_10 16)] : List Int) rfl rfl trivial rfl rfl rfl rfl rfl rfl rfl rfl rfl rfl rfl rfl (fun b58 hb58 => ?_)
              refine WO.cls (C' := St w0 m m [[⟨b2, 24, [.int .i64 p0_0, .int .i64 p0_1, .int .i64 p0_2, .slice a_p0_3 p0_3.length c_p0_3]⟩], [⟨b3, 24, [.int .i64 0, .int .i64 0, .int .i64 0, .slice none 0 0]⟩], [⟨b6, 24, [.int .i64 p0_0, .int .i64 p0_1, .int .i64 p0_2, .slice a31 ((l_5).length) c33]⟩], [⟨b7, 115, [.int .i64 1, .int .i64 2, .int .i64 1]⟩], L30, [⟨b58, 3, ([w64 (Int.tdiv s_10 16)] : List Int).flatMap (I1 .i64)⟩]]) (fun _ h => h) ?_
              obtain ⟨hc60, hm42⟩ := chk_some hm42
              refine WO_append (E := (I1 .i64)) tbok (fun _ => rfl) 4 ([w64 (Int.tdiv s_10 16)] : List Int) (fun _ _ => rfl) rfl rfl rfl rfl rfl rfl rfl rfl rfl rfl rfl rfl hL30 rfl (src_seg (j := 5) rfl) (ap_ok (by decide) hc60) (ap_max hc60) (fun a61 c62 L63 hL63 => ?_)
              refine WO.cls (C' := St w0 m m [[⟨b2, 24, [.int .i64 p0_0, .int .i64 p0_1, .int .i64 p0_2, .slice a_p0_3 p0_3.length c_p0_3]⟩], [⟨b3, 24, [.int .i64 0, .int .i64 0, .int .i64 0, .slice none 0 0]⟩], [⟨b6, 24, [.int .i64 p0_0, .int .i64 p0_1, .int .i64 p0_2, .slice a31 ((l_5).length) c33]⟩], [⟨b7, 115, [.int .i64 1, .int .i64 2, .int .i64 1]⟩], L63, [⟨b58, 3, ([w64 (Int.tdiv s_10 16)] : List Int).flatMap (I1 .i64)⟩]]) (fun _ h => h) ?_
              refine WO_pure tbok 1 [(1, .pointer (some ⟨b2, 0, none⟩)), (2, .pointer (some ⟨b3, 0, none⟩)), (3, .int .i64 0), (5, .pointer (some ⟨b6, 0, none⟩)), (6, .func (.func 63) #[] #[.pointer (some ⟨b2, 0, none⟩)]), (7, .pointer (some ⟨b7, 0, none⟩)), (8, .int .i64 s_3), (31, .int .i64 p0_1), (32, .int .i64 s_3), (36, .int .i64 p0_0), (37, .int .i64 s_6), (73, .slice a61 ((l_5 ++ ([w64 (Int.tdiv s_10 16)] : List Int)).length) c62), (74, .pointer (some ⟨b6, 3, none⟩))] rfl ⟨rfl, rfl, rfl, rfl, rfl, rfl, rfl, rfl, rfl, rfl, rfl, rfl, rfl, trivial⟩ ?_
              refine WO_storeB tbok 2 [.int .i64 p0_0, .int .i64 p0_1, .int .i64 p0_2, .slice a61 ((l_5 ++ ([w64 (Int.tdiv s_10 16)] : List Int)).length) c62] rfl rfl rfl rfl rfl rfl rfl ?_
              refine WO.cls (C' := St w0 m m [[⟨b2, 24, [.int .i64 p0_0, .int .i64 p0_1, .int .i64 p0_2, .slice a_p0_3 p0_3.length c_p0_3]⟩], [⟨b3, 24, [.int .i64 0, .int .i64 0, .int .i64 0, .slice none 0 0]⟩], [⟨b6, 24, [.int .i64 p0_0, .int .i64 p0_1, .int .i64 p0_2, .slice a61 ((l_5 ++ ([w64 (Int.tdiv s_10 16)] : List Int)).length) c62]⟩], [⟨b7, 115, [.int .i64 1, .int .i64 2, .int .i64 1]⟩], L63, [⟨b58, 3, ([w64 (Int.tdiv s_10 16)] : List Int).flatMap (I1 .i64)⟩]]) (fun _ h => h) ?_
              refine WO_end ?_
              refine WK_blk ?_
              refine WK_region ?_
              refine WO_pure tbok 2 [(1, .pointer (some ⟨b2, 0, none⟩)), (2, .pointer (some ⟨b3, 0, none⟩)), (3, .int .i64 0), (5, .pointer (some ⟨b6, 0, none⟩)), (6, .func (.func 63) #[] #[.pointer (some ⟨b2, 0, none⟩)]), (7, .pointer (some ⟨b7, 0, none⟩)), (8, .int .i64 s_3), (31, .int .i64 p0_1), (32, .int .i64 s_3), (36, .int .i64 p0_0), (37, .int .i64 (w64 (s_6 + 1)))] rfl ⟨rfl, rfl, rfl, rfl, rfl, rfl, rfl, rfl, rfl, rfl, rfl, trivial⟩ ?_
              refine WO_end ?_
              cases hm42
              refine WK.sub ?_ (WK.cls (fun _ h => St.take 5 h) (hn45 _ (a61, (l_5 ++ ([w64 (Int.tdiv s_10 16)] : List Int)).length, c62, L63) rfl hL63))
              exact ⟨rfl, rfl, rfl, rfl, rfl, rfl, rfl, rfl, rfl, rfl, rfl, trivial⟩
            · refine WK_block ?_
              refine WK_loop (S := Int × Int) (G := Unit) (fun s => pyramid_Smooth_s3 p0_0 p0_1 p0_2 p0_3 s_3 s_6 s.1 s.2) (fun s g => [(1, .pointer (some ⟨b2, 0, none⟩)), (2, .pointer (some ⟨b3, 0, none⟩)), (3, .int .i64 0), (5, .pointer (some ⟨b6, 0, none⟩)), (6, .func (.func 63) #[] #[.pointer (some ⟨b2, 0, none⟩)]), (7, .pointer (some ⟨b7, 0, none⟩)), (8, .int .i64 s_3), (9, .int .i64 s_6), (10, .int .i64 s.1), (31, .int .i64 p0_1), (32, .int .i64 s_3), (36, .int .i64 p0_0), (37, .int .i64 s_6), (40, .agg #[.int .i64 1, .int .i64 2, .int .i64 1]), (41, .int .i64 s.2)]) (fun s g => St w0 m m [[⟨b2, 24, [.int .i64 p0_0, .int .i64 p0_1, .int .i64 p0_2, .slice a_p0_3 p0_3.length c_p0_3]⟩], [⟨b3, 24, [.int .i64 0, .int .i64 0, .int .i64 0, .slice none 0 0]⟩], [⟨b6, 24, [.int .i64 p0_0, .int .i64 p0_1, .int .i64 p0_2, .slice a31 ((l_5).length) c33]⟩], [⟨b7, 115, [.int .i64 1, .int .i64 2, .int .i64 1]⟩], L30]) (fun s g => True) FUEL (8, 0) () x49 hx50 trivial ⟨rfl, rfl, rfl, rfl, rfl, rfl, rfl, rfl, rfl, rfl, rfl, rfl, rfl, rfl, rfl, trivial⟩ (fun _ h => h) ?_
              rintro ⟨s_8, s_9⟩ ⟨⟩ o53 fl54 hm52 - hn55 hd56
              have hm52 : pyramid_Smooth_s3 p0_0 p0_1 p0_2 p0_3 s_3 s_6 s_8 s_9 = some o53 := hm52
              unfold pyramid_Smooth_s3 at hm52
              refine WK.sub (e' := [(1, .pointer (some ⟨b2, 0, none⟩)), (2, .pointer (some ⟨b3, 0, none⟩)), (3, .int .i64 0), (5, .pointer (some ⟨b6, 0, none⟩)), (6, .func (.func 63) #[] #[.pointer (some ⟨b2, 0, none⟩)]), (7, .pointer (some ⟨b7, 0, none⟩)), (8, .int .i64 s_3), (9, .int .i64 s_6), (10, .int .i64 s_8), (31, .int .i64 p0_1), (32, .int .i64 s_3), (36, .int .i64 p0_0), (37, .int .i64 s_6), (40, .agg #[.int .i64 1, .int .i64 2, .int .i64 1]), (41, .int .i64 s_9)]) ⟨rfl, rfl, rfl, rfl, rfl, rfl, rfl, rfl, rfl, rfl, rfl, rfl, rfl, rfl, rfl, trivial⟩ (WK.cls (C' := St w0 m m [[⟨b2, 24, [.int .i64 p0_0, .int .i64 p0_1, .int .i64 p0_2, .slice a_p0_3 p0_3.length c_p0_3]⟩], [⟨b3, 24, [.int .i64 0, .int .i64 0, .int .i64 0, .slice none 0 0]⟩], [⟨b6, 24, [.int .i64 p0_0, .int .i64 p0_1, .int .i64 p0_2, .slice a31 ((l_5).length) c33]⟩], [⟨b7, 115, [.int .i64 1, .int .i64 2, .int .i64 1]⟩], L30]) (fun _ h => h) ?_)
              refine WK_seq ?_
              refine WK_region ?_
              refine WO_pure tbok 1 [(1, .pointer (some ⟨b2, 0, none⟩)), (2, .pointer (some ⟨b3, 0, none⟩)), (3, .int .i64 0), (5, .pointer (some ⟨b6, 0, none⟩)), (6, .func (.func 63) #[] #[.pointer (some ⟨b2, 0, none⟩)]), (7, .pointer (some ⟨b7, 0, none⟩)), (8, .int .i64 s_3), (9, .int .i64 s_6), (10, .int .i64 s_8), (31, .int .i64 p0_1), (32, .int .i64 s_3), (36, .int .i64 p0_0), (37, .int .i64 s_6), (40, .agg #[.int .i64 1, .int .i64 2, .int .i64 1]), (41, .int .i64 s_9), (42, .bool (decide (s_9 < 3)))] rfl ⟨rfl, rfl, rfl, rfl, rfl, rfl, rfl, rfl, rfl, rfl, rfl, rfl, rfl, rfl, rfl, rfl, trivial⟩ ?_
              refine WO_end ?_
              refine WK_seq ?_
              refine WK_cond (b := decide (s_9 < 3)) rfl (fun hb65 => ?_) (fun hb65 => ?_)
              · have hm52 := ifT hb65 hm52
                refine WK_skip ?_
                refine WK_seq ?_
                refine WK_block ?_
                refine WK_seq ?_
                refine WK_region ?_
                refine WO_pure tbok 1 [(1, .pointer (some ⟨b2, 0, none⟩)), (2, .pointer (some ⟨b3, 0, none⟩)), (3, .int .i64 0), (5, .pointer (some ⟨b6, 0, none⟩)), (6, .func (.func 63) #[] #[.pointer (some ⟨b2, 0, none⟩)]), (7, .pointer (some ⟨b7, 0, none⟩)), (8, .int .i64 s_3), (9, .int .i64 s_6), (10, .int .i64 s_8), (31, .int .i64 p0_1), (32, .int .i64 s_3), (36, .int .i64 p0_0), (37, .int .i64 s_6), (40, .agg #[.int .i64 1, .int .i64 2, .int .i64 1]), (41, .int .i64 s_9), (43, .int .i64 s_9)] rfl ⟨rfl, rfl, rfl, rfl, rfl, rfl, rfl, rfl, rfl, rfl, rfl, rfl, rfl, rfl, rfl, rfl, trivial⟩ ?_
                obtain ⟨v_11, hy66, hm52⟩ := bind_some hm52
                obtain ⟨hc67, hy66⟩ := ix_some hy66
                refine WO_indexA tbok ([1, 2, 1] : List Int) rfl rfl trivial rfl rfl rfl rfl rfl rfl rfl rfl rfl hc67 hy66 ?_
                refine WO_pure tbok 2 [(1, .pointer (some ⟨b2, 0, none⟩)), (2, .pointer (some ⟨b3, 0, none⟩)), (3, .int .i64 0), (5, .pointer (some ⟨b6, 0, none⟩)), (6, .func (.func 63) #[] #[.pointer (some ⟨b2, 0, none⟩)]), (7, .pointer (some ⟨b7, 0, none⟩)), (8, .int .i64 s_3), (9, .int .i64 s_6), (10, .int .i64 s_8), (11, .int .i64 s_9), (12, .int .i64 v_11), (31, .int .i64 p0_1), (32, .int .i64 s_3), (36, .int .i64 p0_0), (37, .int .i64 s_6), (40, .agg #[.int .i64 1, .int .i64 2, .int .i64 1]), (41, .int .i64 s_9)] rfl ⟨rfl, rfl, rfl, rfl, rfl, rfl, rfl, rfl, rfl, rfl, rfl, rfl, rfl, rfl, rfl, rfl, rfl, trivial⟩ ?_
                refine WO_end ?_
                refine WK_seq ?_
                refine WK_region ?_
                refine WO_loadB tbok 3 rfl rfl rfl rfl (fun _ h => h) rfl rfl ?_
                refine WO_pure tbok 1 [(1, .pointer (some ⟨b2, 0, none⟩)), (2, .pointer (some ⟨b3, 0, none⟩)), (3, .int .i64 0), (5, .pointer (some ⟨b6, 0, none⟩)), (6, .func (.func 63) #[] #[.pointer (some ⟨b2, 0, none⟩)]), (7, .pointer (some ⟨b7, 0, none⟩)), (8, .int .i64 s_3), (9, .int .i64 s_6), (10, .int .i64 s_8), (11, .int .i64 s_9), (12, .int .i64 v_11), (31, .int .i64 p0_1), (32, .int .i64 s_3), (36, .int .i64 p0_0), (37, .int .i64 s_6), (40, .agg #[.int .i64 1, .int .i64 2, .int .i64 1]), (41, .int .i64 s_9), (45, .agg #[.int .i64 1, .int .i64 2, .int .i64 1]), (46, .int .i64 0)] rfl ⟨rfl, rfl, rfl, rfl, rfl, rfl, rfl, rfl, rfl, rfl, rfl, rfl, rfl, rfl, rfl, rfl, rfl, rfl, rfl, trivial⟩ ?_
                refine WO_end ?_
                obtain ⟨x68, hx69, hm52⟩ := bind_some hm52
                refine WK_join (β := Int × Unit) (fun p => p.1 = x68) (fun p => [(1, .pointer (some ⟨b2, 0, none⟩)), (2, .pointer (some ⟨b3, 0, none⟩)), (3, .int .i64 0), (5, .pointer (some ⟨b6, 0, none⟩)), (6, .func (.func 63) #[] #[.pointer (some ⟨b2, 0, none⟩)]), (7, .pointer (some ⟨b7, 0, none⟩)), (8, .int .i64 s_3), (9, .int .i64 s_6), (10, .int .i64 p.1), (31, .int .i64 p0_1), (32, .int .i64 s_3), (36, .int .i64 p0_0), (37, .int .i64 s_6), (40, .agg #[.int .i64 1, .int .i64 2, .int .i64 1]), (41, .int .i64 s_9)]) (fun p => St w0 m m [[⟨b2, 24, [.int .i64 p0_0, .int .i64 p0_1, .int .i64 p0_2, .slice a_p0_3 p0_3.length c_p0_3]⟩], [⟨b3, 24, [.int .i64 0, .int .i64 0, .int .i64 0, .slice none 0 0]⟩], [⟨b6, 24, [.int .i64 p0_0, .int .i64 p0_1, .int .i64 p0_2, .slice a31 ((l_5).length) c33]⟩], [⟨b7, 115, [.int .i64 1, .int .i64 2, .int .i64 1]⟩], L30]) ?_ (fun hk70 => ?_)
                · rintro ⟨s_14, ⟨⟩⟩ hq76
                  subst hq76
                  refine WK.sub (e' := [(1, .pointer (some ⟨b2, 0, none⟩)), (2, .pointer (some ⟨b3, 0, none⟩)), (3, .int .i64 0), (5, .pointer (some ⟨b6, 0, none⟩)), (6, .func (.func 63) #[] #[.pointer (some ⟨b2, 0, none⟩)]), (7, .pointer (some ⟨b7, 0, none⟩)), (8, .int .i64 s_3), (9, .int .i64 s_6), (10, .int .i64 s_14), (31, .int .i64 p0_1), (32, .int .i64 s_3), (36, .int .i64 p0_0), (37, .int .i64 s_6), (40, .agg #[.int .i64 1, .int .i64 2, .int .i64 1]), (41, .int .i64 s_9)]) ⟨rfl, rfl, rfl, rfl, rfl, rfl, rfl, rfl, rfl, rfl, rfl, rfl, rfl, rfl, rfl, trivial⟩ (WK.cls (C' := St w0 m m [[⟨b2, 24, [.int .i64 p0_0, .int .i64 p0_1, .int .i64 p0_2, .slice a_p0_3 p0_3.length c_p0_3]⟩], [⟨b3, 24, [.int .i64 0, .int .i64 0, .int .i64 0, .slice none 0 0]⟩], [⟨b6, 24, [.int .i64 p0_0, .int .i64 p0_1, .int .i64 p0_2, .slice a31 ((l_5).length) c33]⟩], [⟨b7, 115, [.int .i64 1, .int .i64 2, .int .i64 1]⟩], L30]) (fun _ h => h) ?_)
                  refine WK_blk ?_
                  refine WK_region ?_
                  refine WO_pure tbok 2 [(1, .pointer (some ⟨b2, 0, none⟩)), (2, .pointer (some ⟨b3, 0, none⟩)), (3, .int .i64 0), (5, .pointer (some ⟨b6, 0, none⟩)), (6, .func (.func 63) #[] #[.pointer (some ⟨b2, 0, none⟩)]), (7, .pointer (some ⟨b7, 0, none⟩)), (8, .int .i64 s_3), (9, .int .i64 s_6), (10, .int .i64 s_14), (31, .int .i64 p0_1), (32, .int .i64 s_3), (36, .int .i64 p0_0), (37, .int .i64 s_6), (40, .agg #[.int .i64 1, .int .i64 2, .int .i64 1]), (41, .int .i64 (w64 (s_9 + 1)))] rfl ⟨rfl, rfl, rfl, rfl, rfl, rfl, rfl, rfl, rfl, rfl, rfl, rfl, rfl, rfl, rfl, trivial⟩ ?_
                  refine WO_end ?_
                  cases hm52
                  refine WK.sub ?_ (WK.cls (fun _ h => h) (hn55 _ () rfl trivial))
                  exact ⟨rfl, rfl, rfl, rfl, rfl, rfl, rfl, rfl, rfl, rfl, rfl, rfl, rfl, rfl, rfl, trivial⟩
                · refine WK_block ?_
                  refine WK_loop (S := Int × Int) (G := Unit) (fun s => pyramid_Smooth_s4 p0_0 p0_1 p0_2 p0_3 s_3 s_6 s_9 v_11 s.1 s.2) (fun s g => [(1, .pointer (some ⟨b2, 0, none⟩)), (2, .pointer (some ⟨b3, 0, none⟩)), (3, .int .i64 0), (5, .pointer (some ⟨b6, 0, none⟩)), (6, .func (.func 63) #[] #[.pointer (some ⟨b2, 0, none⟩)]), (7, .pointer (some ⟨b7, 0, none⟩)), (8, .int .i64 s_3), (9, .int .i64 s_6), (10, .int .i64 s.1), (11, .int .i64 s_9), (12, .int .i64 v_11), (31, .int .i64 p0_1), (32, .int .i64 s_3), (36, .int .i64 p0_0), (37, .int .i64 s_6), (40, .agg #[.int .i64 1, .int .i64 2, .int .i64 1]), (41, .int .i64 s_9), (45, .agg #[.int .i64 1, .int .i64 2, .int .i64 1]), (46, .int .i64 s.2)]) (fun s g => St w0 m m [[⟨b2, 24, [.int .i64 p0_0, .int .i64 p0_1, .int .i64 p0_2, .slice a_p0_3 p0_3.length c_p0_3]⟩], [⟨b3, 24, [.int .i64 0, .int .i64 0, .int .i64 0, .slice none 0 0]⟩], [⟨b6, 24, [.int .i64 p0_0, .int .i64 p0_1, .int .i64 p0_2, .slice a31 ((l_5).length) c33]⟩], [⟨b7, 115, [.int .i64 1, .int .i64 2, .int .i64 1]⟩], L30]) (fun s g => True) FUEL (s_8, 0) () x68 hx69 trivial ⟨rfl, rfl, rfl, rfl, rfl, rfl, rfl, rfl, rfl, rfl, rfl, rfl, rfl, rfl, rfl, rfl, rfl, rfl, rfl, trivial⟩ (fun _ h => h) ?_
                  rintro ⟨s_12, s_13⟩ ⟨⟩ o72 fl73 hm71 - hn74 hd75
                  have hm71 : pyramid_Smooth_s4 p0_0 p0_1 p0_2 p0_3 s_3 s_6 s_9 v_11 s_12 s_13 = some o72 := hm71
                  unfold pyramid_Smooth_s4 at hm71
                  refine WK.sub (e' := [(1, .pointer (some ⟨b2, 0, none⟩)), (2, .pointer (some ⟨b3, 0, none⟩)), (3, .int .i64 0), (5, .pointer (some ⟨b6, 0, none⟩)), (6, .func (.func 63) #[] #[.pointer (some ⟨b2, 0, none⟩)]), (7, .pointer (some ⟨b7, 0, none⟩)), (8, .int .i64 s_3), (9, .int .i64 s_6), (10, .int .i64 s_12), (11, .int .i64 s_9), (12, .int .i64 v_11), (31, .int .i64 p0_1), (32, .int .i64 s_3), (36, .int .i64 p0_0), (37, .int .i64 s_6), (40, .agg #[.int .i64 1, .int .i64 2, .int .i64 1]), (41, .int .i64 s_9), (45, .agg #[.int .i64 1, .int .i64 2, .int .i64 1]), (46, .int .i64 s_13)]) ⟨rfl, rfl, rfl, rfl, rfl, rfl, rfl, rfl, rfl, rfl, rfl, rfl, rfl, rfl, rfl, rfl, rfl, rfl, rfl, trivial⟩ (WK.cls (C' := St w0 m m [[⟨b2, 24, [.int .i64 p0_0, .int .i64 p0_1, .int .i64 p0_2, .slice a_p0_3 p0_3.length c_p0_3]⟩], [⟨b3, 24, [.int .i64 0, .int .i64 0, .int .i64 0, .slice none 0 0]⟩], [⟨b6, 24, [.int .i64 p0_0, .int .i64 p0_1, .int .i64 p0_2, .slice a31 ((l_5).length) c33]⟩], [⟨b7, 115, [.int .i64 1, .int .i64 2, .int .i64 1]⟩], L30]) (fun _ h => h) ?_)
                  refine WK_seq ?_
                  refine WK_region ?_
                  refine WO_pure tbok 1 [(1, .pointer (some ⟨b2, 0, none⟩)), (2, .pointer (some ⟨b3, 0, none⟩)), (3, .int .i64 0), (5, .pointer (some ⟨b6, 0, none⟩)), (6, .func (.func 63) #[] #[.pointer (some ⟨b2, 0, none⟩)]), (7, .pointer (some ⟨b7, 0, none⟩)), (8, .int .i64 s_3), (9, .int .i64 s_6), (10, .int .i64 s_12), (11, .int .i64 s_9), (12, .int .i64 v_11), (31, .int .i64 p0_1), (32, .int .i64 s_3), (36, .int .i64 p0_0), (37, .int .i64 s_6), (40, .agg #[.int .i64 1, .int .i64 2, .int .i64 1]), (41, .int .i64 s_9), (45, .agg #[.int .i64 1, .int .i64 2, .int .i64 1]), (46, .int .i64 s_13), (47, .bool (decide (s_13 < 3)))] rfl ⟨rfl, rfl, rfl, rfl, rfl, rfl, rfl, rfl, rfl, rfl, rfl, rfl, rfl, rfl, rfl, rfl, rfl, rfl, rfl, rfl, trivial⟩ ?_
                  refine WO_end ?_
                  refine WK_seq ?_
                  refine WK_cond (b := decide (s_13 < 3)) rfl (fun hb77 => ?_) (fun hb77 => ?_)
                  · have hm71 := ifT hb77 hm71
                    refine WK_skip ?_
                    refine WK_seq ?_
                    refine WK_block ?_
                    refine WK_seq ?_
                    refine WK_region ?_
                    refine WO_pure tbok 1 [(1, .pointer (some ⟨b2, 0, none⟩)), (2, .pointer (some ⟨b3, 0, none⟩)), (3, .int .i64 0), (5, .pointer (some ⟨b6, 0, none⟩)), (6, .func (.func 63) #[] #[.pointer (some ⟨b2, 0, none⟩)]), (7, .pointer (some ⟨b7, 0, none⟩)), (8, .int .i64 s_3), (9, .int .i64 s_6), (10, .int .i64 s_12), (11, .int .i64 s_9), (12, .int .i64 v_11), (31, .int .i64 p0_1), (32, .int .i64 s_3), (36, .int .i64 p0_0), (37, .int .i64 s_6), (40, .agg #[.int .i64 1, .int .i64 2, .int .i64 1]), (41, .int .i64 s_9), (45, .agg #[.int .i64 1, .int .i64 2, .int .i64 1]), (46, .int .i64 s_13), (48, .int .i64 s_13)] rfl ⟨rfl, rfl, rfl, rfl, rfl, rfl, rfl, rfl, rfl, rfl, rfl, rfl, rfl, rfl, rfl, rfl, rfl, rfl, rfl, rfl, trivial⟩ ?_
                    obtain ⟨v_15, hy78, hm71⟩ := bind_some hm71
                    obtain ⟨hc79, hy78⟩ := ix_some hy78
                    refine WO_indexA tbok ([1, 2, 1] : List Int) rfl rfl trivial rfl rfl rfl rfl rfl rfl rfl rfl rfl hc79 hy78 ?_
                    refine WO_pure tbok 2 [(1, .pointer (some ⟨b2, 0, none⟩)), (2, .pointer (some ⟨b3, 0, none⟩)), (3, .int .i64 0), (5, .pointer (some ⟨b6, 0, none⟩)), (6, .func (.func 63) #[] #[.pointer (some ⟨b2, 0, none⟩)]), (7, .pointer (some ⟨b7, 0, none⟩)), (8, .int .i64 s_3), (9, .int .i64 s_6), (10, .int .i64 s_12), (11, .int .i64 s_9), (12, .int .i64 v_11), (13, .int .i64 s_13), (14, .int .i64 v_15), (31, .int .i64 p0_1), (32, .int .i64 s_3), (36, .int .i64 p0_0), (37, .int .i64 s_6), (40, .agg #[.int .i64 1, .int .i64 2, .int .i64 1]), (41, .int .i64 s_9), (45, .agg #[.int .i64 1, .int .i64 2, .int .i64 1]), (46, .int .i64 s_13)] rfl ⟨rfl, rfl, rfl, rfl, rfl, rfl, rfl, rfl, rfl, rfl, rfl, rfl, rfl, rfl, rfl, rfl, rfl, rfl, rfl, rfl, rfl, trivial⟩ ?_
                    refine WO_end ?_
                    refine WK_region ?_
                    refine WO_pure tbok 13 [(1, .pointer (some ⟨b2, 0, none⟩)), (2, .pointer (some ⟨b3, 0, none⟩)), (3, .int .i64 0), (5, .pointer (some ⟨b6, 0, none⟩)), (6, .func (.func 63) #[] #[.pointer (some ⟨b2, 0, none⟩)]), (7, .pointer (some ⟨b7, 0, none⟩)), (8, .int .i64 s_3), (9, .int .i64 s_6), (10, .int .i64 s_12), (11, .int .i64 s_9), (12, .int .i64 v_11), (31, .int .i64 p0_1), (32, .int .i64 s_3), (36, .int .i64 p0_0), (37, .int .i64 s_6), (40, .agg #[.int .i64 1, .int .i64 2, .int .i64 1]), (41, .int .i64 s_9), (45, .agg #[.int .i64 1, .int .i64 2, .int .i64 1]), (46, .int .i64 s_13), (50, .int .i64 s_12), (53, .int .i64 (w64 (v_11 * v_15))), (54, .func (.func 63) #[] #[.pointer (some ⟨b2, 0, none⟩)]), (58, .int .i64 (w64 ((w64 (s_6 + s_13)) - 1))), (62, .int .i64 (w64 ((w64 (s_3 + s_9)) - 1)))] rfl ⟨rfl, rfl, rfl, rfl, rfl, rfl, rfl, rfl, rfl, rfl, rfl, rfl, rfl, rfl, rfl, rfl, rfl, rfl, rfl, rfl, rfl, rfl, rfl, rfl, trivial⟩ ?_
                    obtain ⟨y_16, hc80, hm71⟩ := bind_some hm71
                    refine WO_call0 (.int .i64 y_16) rfl rfl trivial rfl rfl rfl rfl St_closed ⟨63, #[], #[.pointer (some ⟨b2, 0, none⟩)], rfl, callable_63, fun w hw => ⟨_, hw.satV, pyramid_Smooth_c1_walk (hw.memV (i := 0) rfl (List.mem_singleton.2 rfl)) (h_p0_3.mono (mono_FE _) hw.leV) hc80⟩⟩ ?_
                    refine WO_pure tbok 3 [(1, .pointer (some ⟨b2, 0, none⟩)), (2, .pointer (some ⟨b3, 0, none⟩)), (3, .int .i64 0), (5, .pointer (some ⟨b6, 0, none⟩)), (6, .func (.func 63) #[] #[.pointer (some ⟨b2, 0, none⟩)]), (7, .pointer (some ⟨b7, 0, none⟩)), (8, .int .i64 s_3), (9, .int .i64 s_6), (10, .int .i64 (w64 (s_12 + (w64 ((w64 (v_11 * v_15)) * y_16))))), (11, .int .i64 s_9), (12, .int .i64 v_11), (31, .int .i64 p0_1), (32, .int .i64 s_3), (36, .int .i64 p0_0), (37, .int .i64 s_6), (40, .agg #[.int .i64 1, .int .i64 2, .int .i64 1]), (41, .int .i64 s_9), (45, .agg #[.int .i64 1, .int .i64 2, .int .i64 1]), (46, .int .i64 s_13)] rfl ⟨rfl, rfl, rfl, rfl, rfl, rfl, rfl, rfl, rfl, rfl, rfl, rfl, rfl, rfl, rfl, rfl, rfl, rfl, rfl, trivial⟩ ?_
                    refine WO_end ?_
                    refine WK_blk ?_
                    refine WK_region ?_
                    refine WO_pure tbok 2 [(1, .pointer (some ⟨b2, 0, none⟩)), (2, .pointer (some ⟨b3, 0, none⟩)), (3, .int .i64 0), (5, .pointer (some ⟨b6, 0, none⟩)), (6, .func (.func 63) #[] #[.pointer (some ⟨b2, 0, none⟩)]), (7, .pointer (some ⟨b7, 0, none⟩)), (8, .int .i64 s_3), (9, .int .i64 s_6), (10, .int .i64 (w64 (s_12 + (w64 ((w64 (v_11 * v_15)) * y_16))))), (11, .int .i64 s_9), (12, .int .i64 v_11), (31, .int .i64 p0_1), (32, .int .i64 s_3), (36, .int .i64 p0_0), (37, .int .i64 s_6), (40, .agg #[.int .i64 1, .int .i64 2, .int .i64 1]), (41, .int .i64 s_9), (45, .agg #[.int .i64 1, .int .i64 2, .int .i64 1]), (46, .int .i64 (w64 (s_13 + 1)))] rfl ⟨rfl, rfl, rfl, rfl, rfl, rfl, rfl, rfl, rfl, rfl, rfl, rfl, rfl, rfl, rfl, rfl, rfl, rfl, rfl, trivial⟩ ?_
                    refine WO_end ?_
                    cases hm71
                    refine WK.sub ?_ (WK.cls (fun _ h => h) (hn74 _ () rfl trivial))
                    exact ⟨rfl, rfl, rfl, rfl, rfl, rfl, rfl, rfl, rfl, rfl, rfl, rfl, rfl, rfl, rfl, rfl, rfl, rfl, rfl, trivial⟩
                  · have hm71 := ifF hb77 hm71
                    refine WK_exit rfl ?_
                    cases hm71
                    refine WK.sub ?_ (WK.cls (fun _ h => h) (hk70 (s_12, ()) (hd75 _ rfl)))
                    exact ⟨rfl, rfl, rfl, rfl, rfl, rfl, rfl, rfl, rfl, rfl, rfl, rfl, rfl, rfl, rfl, trivial⟩
              · have hm52 := ifF hb65 hm52
                refine WK_exit rfl ?_
                cases hm52
                refine WK.sub ?_ (WK.cls (fun _ h => h) (hk51 (s_8, ()) (hd56 _ rfl)))
                exact ⟨rfl, rfl, rfl, rfl, rfl, rfl, rfl, rfl, rfl, rfl, rfl, rfl, trivial⟩
          · have hm42 := ifF hb48 hm42
            refine WK_exit rfl ?_
            cases hm42
            refine WK.sub ?_ (WK.cls (fun _ h => h) (hk41 (l_5, (a31, _, c33, L30)) ⟨(hd46 _ rfl), hL30⟩))
            exact ⟨rfl, rfl, rfl, rfl, rfl, rfl, rfl, rfl, trivial⟩
      · have hm22 := ifF hb28 hm22
        refine WK_exit rfl ?_
        cases hm22
        refine WK.sub ?_ (WK.cls (fun _ h => h) (hk21 (l_2, (a11, _, c13, L10)) ⟨(hd26 _ rfl), hL10⟩))
        exact ⟨rfl, rfl, rfl, trivial⟩
def pyramid_Reduce_Q (r : Int × Int × Int × List Int × Int) : Value → List Ent → Prop := fun v L => ∃ (a0 : Option Addr) (q0 c0 : Nat), v = .tuple #[.agg #[.int .i64 r.1, .int .i64 r.2.1, .int .i64 r.2.2.1, .slice a0 q0 c0], .int .i64 r.2.2.2.2] ∧ OwnE 3 1 (I1 .i64) (.slice a0 q0 c0) r.2.2.2.1 L
theorem pyramid_Reduce_walk {m : Mu} {p0_0 : Int} {p0_1 : Int} {p0_2 : Int} {p0_3 : List Int} {a_p0_3 : Option Addr} {q_p0_3 c_p0_3 : Nat} (h_p0_3 : SlR (FE (I1 .i64)) 1 m (.slice a_p0_3 q_p0_3 c_p0_3) p0_3) {r : Int × Int × Int × List Int × Int} (hm : pyramid_Reduce p0_0 p0_1 p0_2 p0_3 = some r) :
    Go.E.Spec Try.prog 8 [.agg #[.int .i64 p0_0, .int .i64 p0_1, .int .i64 p0_2, .slice a_p0_3 q_p0_3 c_p0_3]] m (fun v _ L => pyramid_Reduce_Q r v L) := by
  refine Spec_enter Try.func8 rfl rfl rfl (fun w0 => ?_)
  refine WK.sub (e' := [(0, .agg #[.int .i64 p0_0, .int .i64 p0_1, .int .i64 p0_2, .slice a_p0_3 q_p0_3 c_p0_3])]) ⟨rfl, trivial⟩ ?_
  obtain rfl := SlR.qlen h_p0_3
  refine WK.sub (e' := [(0, .agg #[.int .i64 p0_0, .int .i64 p0_1, .int .i64 p0_2, .slice a_p0_3 p0_3.length c_p0_3])]) ⟨rfl, trivial⟩ ?_
  unfold pyramid_Reduce at hm
  refine WK_seq ?_
  refine WK_region ?_
  refine WO_box [.int .i64 p0_0, .int .i64 p0_1, .int .i64 p0_2, .slice a_p0_3 p0_3.length c_p0_3] rfl rfl trivial rfl rfl rfl (fun b2 => ?_)
  refine WO.cls (C' := St w0 m m [[⟨b2, 24, [.int .i64 p0_0, .int .i64 p0_1, .int .i64 p0_2, .slice a_p0_3 p0_3.length c_p0_3]⟩]]) (fun _ h => h) ?_
  refine WO_alloc tbok [.int .i64 0, .int .i64 0, .int .i64 0, .slice none 0 0] rfl rfl trivial rfl rfl rfl rfl (fun b3 => ?_)
  refine WO.cls (C' := St w0 m m [[⟨b2, 24, [.int .i64 p0_0, .int .i64 p0_1, .int .i64 p0_2, .slice a_p0_3 p0_3.length c_p0_3]⟩], [⟨b3, 24, [.int .i64 0, .int .i64 0, .int .i64 0, .slice none 0 0]⟩]]) (fun _ h => h) ?_
  refine WO_pure tbok 1 [(1, .pointer (some ⟨b2, 0, none⟩)), (2, .pointer (some ⟨b3, 0, none⟩)), (3, .int .i64 0)] rfl ⟨rfl, rfl, rfl, trivial⟩ ?_
  refine WO_end ?_
  refine WK_seq ?_
  refine WK_region ?_
  refine WO_loadB tbok 0 rfl rfl rfl rfl (fun _ h => h) rfl rfl ?_
  obtain ⟨⟨y_1, y_2, y_3, y_4, y_5⟩, hc4, hm⟩ := bind_some hm
  refine WO_call1 (pyramid_Smooth_Q (y_1, y_2, y_3, y_4, y_5)) rfl rfl trivial rfl rfl rfl rfl ⟨26, #[], #[], rfl, callable_26, fun w hw => ⟨_, hw.sat, pyramid_Smooth_walk h_p0_3 hc4⟩⟩ (fun v9 L8 hq => ?_)
  obtain ⟨a5, qa5, c6, rfl, hL8⟩ := hq
  obtain rfl := OwnE.qlen hL8
  refine WO.cls (C' := St w0 m m [[⟨b2, 24, [.int .i64 p0_0, .int .i64 p0_1, .int .i64 p0_2, .slice a_p0_3 p0_3.length c_p0_3]⟩], [⟨b3, 24, [.int .i64 0, .int .i64 0, .int .i64 0, .slice none 0 0]⟩], L8]) (fun _ h => h) ?_
  refine WO_pure tbok 3 [(1, .pointer (some ⟨b2, 0, none⟩)), (2, .pointer (some ⟨b3, 0, none⟩)), (3, .int .i64 0), (12, .agg #[.int .i64 y_1, .int .i64 y_2, .int .i64 y_3, .slice a5 ((y_4).length) c6]), (13, .int .i64 y_5)] rfl ⟨rfl, rfl, rfl, rfl, rfl, trivial⟩ ?_
  refine WO_alloc tbok [.int .i64 0, .int .i64 0, .int .i64 0, .slice none 0 0] rfl rfl trivial rfl rfl rfl rfl (fun b10 => ?_)
  refine WO.cls (C' := St w0 m m [[⟨b2, 24, [.int .i64 p0_0, .int .i64 p0_1, .int .i64 p0_2, .slice a_p0_3 p0_3.length c_p0_3]⟩], [⟨b3, 24, [.int .i64 0, .int .i64 0, .int .i64 0, .slice none 0 0]⟩], L8, [⟨b10, 24, [.int .i64 0, .int .i64 0, .int .i64 0, .slice none 0 0]⟩]]) (fun _ h => h) ?_
  refine WO_storeB tbok 3 [.int .i64 y_1, .int .i64 y_2, .int .i64 y_3, .slice a5 ((y_4).length) c6] rfl rfl rfl rfl rfl rfl rfl ?_
  refine WO.cls (C' := St w0 m m [[⟨b2, 24, [.int .i64 p0_0, .int .i64 p0_1, .int .i64 p0_2, .slice a_p0_3 p0_3.length c_p0_3]⟩], [⟨b3, 24, [.int .i64 0, .int .i64 0, .int .i64 0, .slice none 0 0]⟩], L8, [⟨b10, 24, [.int .i64 y_1, .int .i64 y_2, .int .i64 y_3, .slice a5 ((y_4).length) c6]⟩]]) (fun _ h => h) ?_
  refine WO_pure tbok 1 [(1, .pointer (some ⟨b2, 0, none⟩)), (2, .pointer (some ⟨b3, 0, none⟩)), (3, .int .i64 0), (4, .pointer (some ⟨b10, 0, none⟩)), (5, .int .i64 y_5)] rfl ⟨rfl, rfl, rfl, rfl, rfl, trivial⟩ ?_
  refine WO_end ?_
  refine WK_seq ?_
  refine WK_seq ?_
  refine WK_region ?_
  refine WO_pure tbok 2 [(1, .pointer (some ⟨b2, 0, none⟩)), (2, .pointer (some ⟨b3, 0, none⟩)), (3, .int .i64 0), (4, .pointer (some ⟨b10, 0, none⟩)), (5, .int .i64 y_5), (15, .bool (y_5 != 0))] rfl ⟨rfl, rfl, rfl, rfl, rfl, rfl, trivial⟩ ?_
  refine WO_end ?_
  refine WK_cond (b := y_5 != 0) rfl (fun hb11 => ?_) (fun hb11 => ?_)
  · have hm := ifT hb11 hm
    refine WK_seq ?_
    refine WK_region ?_
    refine WO_pure tbok 2 [(1, .pointer (some ⟨b2, 0, none⟩)), (2, .pointer (some ⟨b3, 0, none⟩)), (3, .int .i64 0), (4, .pointer (some ⟨b10, 0, none⟩)), (16, .agg #[.int .i64 0, .int .i64 0, .int .i64 0, .slice none 0 0]), (17, .int .i64 y_5)] rfl ⟨rfl, rfl, rfl, rfl, rfl, rfl, trivial⟩ ?_
    refine WO_storeB tbok 1 [.int .i64 0, .int .i64 0, .int .i64 0, .slice none 0 0] rfl rfl rfl rfl rfl rfl rfl ?_
    refine WO.cls (C' := St w0 m m [[⟨b2, 24, [.int .i64 p0_0, .int .i64 p0_1, .int .i64 p0_2, .slice a_p0_3 p0_3.length c_p0_3]⟩], [⟨b3, 24, [.int .i64 0, .int .i64 0, .int .i64 0, .slice none 0 0]⟩], L8, [⟨b10, 24, [.int .i64 y_1, .int .i64 y_2, .int .i64 y_3, .slice a5 ((y_4).length) c6]⟩]]) (fun _ h => h) ?_
    refine WO_pure tbok 1 [(1, .pointer (some ⟨b2, 0, none⟩)), (2, .pointer (some ⟨b3, 0, none⟩)), (3, .int .i64 y_5), (4, .pointer (some ⟨b10, 0, none⟩))] rfl ⟨rfl, rfl, rfl, rfl, trivial⟩ ?_
    refine WO_end ?_
    cases hm
    exact WK_ret (ret_out (L := []) (RLc_cell tbok 1 rfl rfl rfl (RLc_tmp rfl RLc_nil)) (List.nil_sublist _) ⟨none, 0, 0, rfl, (OwnE.nil none)⟩)
  · have hm := ifF hb11 hm
    refine WK_skip ?_
    refine WK_seq ?_
    refine WK_region ?_
    refine WO_pure tbok 1 [(1, .pointer (some ⟨b2, 0, none⟩)), (2, .pointer (some ⟨b3, 0, none⟩)), (3, .int .i64 0), (4, .pointer (some ⟨b10, 0, none⟩)), (18, .pointer (some ⟨b2, 0, none⟩))] rfl ⟨rfl, rfl, rfl, rfl, rfl, trivial⟩ ?_
    refine WO_loadB tbok 0 rfl rfl rfl rfl (fun _ h => h) rfl rfl ?_
    refine WO_pure tbok 3 [(1, .pointer (some ⟨b2, 0, none⟩)), (2, .pointer (some ⟨b3, 0, none⟩)), (3, .int .i64 0), (4, .pointer (some ⟨b10, 0, none⟩)), (21, .int .i64 (w64 (Int.tdiv (w64 (p0_0 + 1)) 2))), (22, .pointer (some ⟨b2, 1, none⟩))] rfl ⟨rfl, rfl, rfl, rfl, rfl, rfl, trivial⟩ ?_
    refine WO_loadB tbok 0 rfl rfl rfl rfl (fun _ h => h) rfl rfl ?_
    refine WO_pure tbok 3 [(1, .pointer (some ⟨b2, 0, none⟩)), (2, .pointer (some ⟨b3, 0, none⟩)), (3, .int .i64 0), (4, .pointer (some ⟨b10, 0, none⟩)), (21, .int .i64 (w64 (Int.tdiv (w64 (p0_0 + 1)) 2))), (25, .int .i64 (w64 (Int.tdiv (w64 (p0_1 + 1)) 2))), (26, .pointer (some ⟨b2, 2, none⟩))] rfl ⟨rfl, rfl, rfl, rfl, rfl, rfl, rfl, trivial⟩ ?_
    refine WO_loadB tbok 0 rfl rfl rfl rfl (fun _ h => h) rfl rfl ?_
    refine WO_pure tbok 1 [(1, .pointer (some ⟨b2, 0, none⟩)), (2, .pointer (some ⟨b3, 0, none⟩)), (3, .int .i64 0), (4, .pointer (some ⟨b10, 0, none⟩)), (28, .agg #[.int .i64 (w64 (Int.tdiv (w64 (p0_0 + 1)) 2)), .int .i64 (w64 (Int.tdiv (w64 (p0_1 + 1)) 2)), .int .i64 p0_2, .slice none 0 0])] rfl ⟨rfl, rfl, rfl, rfl, rfl, trivial⟩ ?_
    refine WO_alloc tbok [.int .i64 0, .int .i64 0, .int .i64 0, .slice none 0 0] rfl rfl trivial rfl rfl rfl rfl (fun b12 => ?_)
    refine WO.cls (C' := St w0 m m [[⟨b2, 24, [.int .i64 p0_0, .int .i64 p0_1, .int .i64 p0_2, .slice a_p0_3 p0_3.length c_p0_3]⟩], [⟨b3, 24, [.int .i64 0, .int .i64 0, .int .i64 0, .slice none 0 0]⟩], L8, [⟨b10, 24, [.int .i64 y_1, .int .i64 y_2, .int .i64 y_3, .slice a5 ((y_4).length) c6]⟩], [⟨b12, 24, [.int .i64 0, .int .i64 0, .int .i64 0, .slice none 0 0]⟩]]) (fun _ h => h) ?_
    refine WO_storeB tbok 4 [.int .i64 (w64 (Int.tdiv (w64 (p0_0 + 1)) 2)), .int .i64 (w64 (Int.tdiv (w64 (p0_1 + 1)) 2)), .int .i64 p0_2, .slice none 0 0] rfl rfl rfl rfl rfl rfl rfl ?_
    refine WO.cls (C' := St w0 m m [[⟨b2, 24, [.int .i64 p0_0, .int .i64 p0_1, .int .i64 p0_2, .slice a_p0_3 p0_3.length c_p0_3]⟩], [⟨b3, 24, [.int .i64 0, .int .i64 0, .int .i64 0, .slice none 0 0]⟩], L8, [⟨b10, 24, [.int .i64 y_1, .int .i64 y_2, .int .i64 y_3, .slice a5 ((y_4).length) c6]⟩], [⟨b12, 24, [.int .i64 (w64 (Int.tdiv (w64 (p0_0 + 1)) 2)), .int .i64 (w64 (Int.tdiv (w64 (p0_1 + 1)) 2)), .int .i64 p0_2, .slice none 0 0]⟩]]) (fun _ h => h) ?_
    refine WO_end ?_
    refine WK_seq ?_
    refine WK_seq ?_
    refine WK_region ?_
    refine WO_pure tbok 1 [(1, .pointer (some ⟨b2, 0, none⟩)), (2, .pointer (some ⟨b3, 0, none⟩)), (3, .int .i64 0), (4, .pointer (some ⟨b10, 0, none⟩)), (6, .pointer (some ⟨b12, 0, none⟩)), (7, .int .i64 0)] rfl ⟨rfl, rfl, rfl, rfl, rfl, rfl, trivial⟩ ?_
    refine WO_end ?_
    refine WK_pad ?_
    obtain ⟨x24, hx25, hm⟩ := bind_some hm
    refine WK_join (β := (List Int) × (Option Addr × Nat × Nat × List Ent)) (fun p => p.1 = x24 ∧ OwnE 3 1 (I1 .i64) (.slice p.2.1 p.2.2.1 p.2.2.2.1) p.1 p.2.2.2.2) (fun p => [(2, .pointer (some ⟨b3, 0, none⟩)), (3, .int .i64 0), (6, .pointer (some ⟨b12, 0, none⟩))]) (fun p => St w0 m m [[⟨b2, 24, [.int .i64 p0_0, .int .i64 p0_1, .int .i64 p0_2, .slice a_p0_3 p0_3.length c_p0_3]⟩], [⟨b3, 24, [.int .i64 0, .int .i64 0, .int .i64 0, .slice none 0 0]⟩], L8, [⟨b10, 24, [.int .i64 y_1, .int .i64 y_2, .int .i64 y_3, .slice a5 ((y_4).length) c6]⟩], [⟨b12, 24, [.int .i64 (w64 (Int.tdiv (w64 (p0_0 + 1)) 2)), .int .i64 (w64 (Int.tdiv (w64 (p0_1 + 1)) 2)), .int .i64 p0_2, .slice p.2.1 p.2.2.1 p.2.2.2.1]⟩], p.2.2.2.2]) ?_ (fun hk26 => ?_)
    · rintro ⟨l_8, ⟨a21, q22, c23, L20⟩⟩ ⟨hq32, hL20⟩
      subst hq32
      have hqq : q22 = l_8.length := OwnE.qlen hL20
      subst hqq
      refine WK.sub (e' := [(2, .pointer (some ⟨b3, 0, none⟩)), (3, .int .i64 0), (6, .pointer (some ⟨b12, 0, none⟩))]) ⟨rfl, rfl, rfl, trivial⟩ (WK.cls (C' := St w0 m m [[⟨b2, 24, [.int .i64 p0_0, .int .i64 p0_1, .int .i64 p0_2, .slice a_p0_3 p0_3.length c_p0_3]⟩], [⟨b3, 24, [.int .i64 0, .int .i64 0, .int .i64 0, .slice none 0 0]⟩], L8, [⟨b10, 24, [.int .i64 y_1, .int .i64 y_2, .int .i64 y_3, .slice a5 ((y_4).length) c6]⟩], [⟨b12, 24, [.int .i64 (w64 (Int.tdiv (w64 (p0_0 + 1)) 2)), .int .i64 (w64 (Int.tdiv (w64 (p0_1 + 1)) 2)), .int .i64 p0_2, .slice a21 ((l_8).length) c23]⟩], L20]) (fun _ h => h) ?_)
      refine WK_seq ?_
      refine WK_region ?_
      refine WO_loadB tbok 4 rfl rfl rfl rfl (fun _ h => h) rfl rfl ?_
      refine WO_storeB tbok 1 [.int .i64 (w64 (Int.tdiv (w64 (p0_0 + 1)) 2)), .int .i64 (w64 (Int.tdiv (w64 (p0_1 + 1)) 2)), .int .i64 p0_2, .slice a21 ((l_8).length) c23] rfl rfl rfl rfl rfl rfl rfl ?_
      refine WO.cls (C' := St w0 m m [[⟨b2, 24, [.int .i64 p0_0, .int .i64 p0_1, .int .i64 p0_2, .slice a_p0_3 p0_3.length c_p0_3]⟩], [⟨b3, 24, [.int .i64 (w64 (Int.tdiv (w64 (p0_0 + 1)) 2)), .int .i64 (w64 (Int.tdiv (w64 (p0_1 + 1)) 2)), .int .i64 p0_2, .slice a21 ((l_8).length) c23]⟩], L8, [⟨b10, 24, [.int .i64 y_1, .int .i64 y_2, .int .i64 y_3, .slice a5 ((y_4).length) c6]⟩], [⟨b12, 24, [.int .i64 (w64 (Int.tdiv (w64 (p0_0 + 1)) 2)), .int .i64 (w64 (Int.tdiv (w64 (p0_1 + 1)) 2)), .int .i64 p0_2, .slice a21 ((l_8).length) c23]⟩], L20]) (fun _ h => h) ?_
      refine WO_pure tbok 1 [(2, .pointer (some ⟨b3, 0, none⟩)), (3, .int .i64 0)] rfl ⟨rfl, rfl, trivial⟩ ?_
      refine WO_end ?_
      cases hm
      exact WK_ret (ret_out (L := L20) (RLc_cell tbok 1 rfl rfl rfl (RLc_tmp rfl RLc_nil)) (seg_sub 5 rfl) ⟨a21, _, c23, rfl, hL20⟩)
    · refine WK_block ?_
      refine WK_loop (S := List Int × Int) (G := Option Addr × Nat × Nat × List Ent) (fun s => pyramid_Reduce_s1 p0_0 p0_1 y_4 s.1 s.2) (fun s g => [(1, .pointer (some ⟨b2, 0, none⟩)), (2, .pointer (some ⟨b3, 0, none⟩)), (3, .int .i64 0), (4, .pointer (some ⟨b10, 0, none⟩)), (6, .pointer (some ⟨b12, 0, none⟩)), (7, .int .i64 s.2)]) (fun s g => St w0 m m [[⟨b2, 24, [.int .i64 p0_0, .int .i64 p0_1, .int .i64 p0_2, .slice a_p0_3 p0_3.length c_p0_3]⟩], [⟨b3, 24, [.int .i64 0, .int .i64 0, .int .i64 0, .slice none 0 0]⟩], L8, [⟨b10, 24, [.int .i64 y_1, .int .i64 y_2, .int .i64 y_3, .slice a5 ((y_4).length) c6]⟩], [⟨b12, 24, [.int .i64 (w64 (Int.tdiv (w64 (p0_0 + 1)) 2)), .int .i64 (w64 (Int.tdiv (w64 (p0_1 + 1)) 2)), .int .i64 p0_2, .slice g.1 g.2.1 g.2.2.1]⟩], g.2.2.2]) (fun s g => OwnE 3 1 (I1 .i64) (.slice g.1 g.2.1 g.2.2.1) s.1 g.2.2.2) FUEL (([] : List Int), 0) (none, 0, 0, []) x24 hx25 (OwnE.nil (T := 3) (k := 1) (E := (I1 .i64)) none) ⟨rfl, rfl, rfl, rfl, rfl, rfl, trivial⟩ (fun _ h => h) ?_
      rintro ⟨l_6, s_7⟩ ⟨a16, q17, c18, L15⟩ o28 fl29 hm27 hL15 hn30 hd31
      have hm27 : pyramid_Reduce_s1 p0_0 p0_1 y_4 l_6 s_7 = some o28 := hm27
      unfold pyramid_Reduce_s1 at hm27
      have hqq : q17 = l_6.length := OwnE.qlen hL15
      subst hqq
      refine WK.sub (e' := [(1, .pointer (some ⟨b2, 0, none⟩)), (2, .pointer (some ⟨b3, 0, none⟩)), (3, .int .i64 0), (4, .pointer (some ⟨b10, 0, none⟩)), (6, .pointer (some ⟨b12, 0, none⟩)), (7, .int .i64 s_7)]) ⟨rfl, rfl, rfl, rfl, rfl, rfl, trivial⟩ (WK.cls (C' := St w0 m m [[⟨b2, 24, [.int .i64 p0_0, .int .i64 p0_1, .int .i64 p0_2, .slice a_p0_3 p0_3.length c_p0_3]⟩], [⟨b3, 24, [.int .i64 0, .int .i64 0, .int .i64 0, .slice none 0 0]⟩], L8, [⟨b10, 24, [.int .i64 y_1, .int .i64 y_2, .int .i64 y_3, .slice a5 ((y_4).length) c6]⟩], [⟨b12, 24, [.int .i64 (w64 (Int.tdiv (w64 (p0_0 + 1)) 2)), .int .i64 (w64 (Int.tdiv (w64 (p0_1 + 1)) 2)), .int .i64 p0_2, .slice a16 ((l_6).length) c18]⟩], L15]) (fun _ h => h) ?_)
      refine WK_seq ?_
      refine WK_seq ?_
      refine WK_region ?_
      refine WO_pure tbok 2 [(1, .pointer (some ⟨b2, 0, none⟩)), (2, .pointer (some ⟨b3, 0, none⟩)), (3, .int .i64 0), (4, .pointer (some ⟨b10, 0, none⟩)), (6, .pointer (some ⟨b12, 0, none⟩)), (7, .int .i64 s_7), (29, .int .i64 s_7), (30, .pointer (some ⟨b2, 1, none⟩))] rfl ⟨rfl, rfl, rfl, rfl, rfl, rfl, rfl, rfl, trivial⟩ ?_
      refine WO_loadB tbok 0 rfl rfl rfl rfl (fun _ h => h) rfl rfl ?_
      refine WO_pure tbok 1 [(1, .pointer (some ⟨b2, 0, none⟩)), (2, .pointer (some ⟨b3, 0, none⟩)), (3, .int .i64 0), (4, .pointer (some ⟨b10, 0, none⟩)), (6, .pointer (some ⟨b12, 0, none⟩)), (7, .int .i64 s_7), (32, .bool (decide (s_7 < p0_1)))] rfl ⟨rfl, rfl, rfl, rfl, rfl, rfl, rfl, trivial⟩ ?_
      refine WO_end ?_
      refine WK_cond (b := decide (s_7 < p0_1)) rfl (fun hb33 => ?_) (fun hb33 => ?_)
      · have hm27 := ifT hb33 hm27
        refine WK_skip ?_
        refine WK_seq ?_
        refine WK_block ?_
        refine WK_seq ?_
        refine WK_region ?_
        refine WO_pure tbok 1 [(1, .pointer (some ⟨b2, 0, none⟩)), (2, .pointer (some ⟨b3, 0, none⟩)), (3, .int .i64 0), (4, .pointer (some ⟨b10, 0, none⟩)), (6, .pointer (some ⟨b12, 0, none⟩)), (7, .int .i64 s_7), (8, .int .i64 0)] rfl ⟨rfl, rfl, rfl, rfl, rfl, rfl, rfl, trivial⟩ ?_
        refine WO_end ?_
        obtain ⟨x44, hx45, hm27⟩ := bind_some hm27
        refine WK_join (β := (List Int) × (Option Addr × Nat × Nat × List Ent)) (fun p => p.1 = x44 ∧ OwnE 3 1 (I1 .i64) (.slice p.2.1 p.2.2.1 p.2.2.2.1) p.1 p.2.2.2.2) (fun p => [(1, .pointer (some ⟨b2, 0, none⟩)), (2, .pointer (some ⟨b3, 0, none⟩)), (3, .int .i64 0), (4, .pointer (some ⟨b10, 0, none⟩)), (6, .pointer (some ⟨b12, 0, none⟩)), (7, .int .i64 s_7)]) (fun p => St w0 m m [[⟨b2, 24, [.int .i64 p0_0, .int .i64 p0_1, .int .i64 p0_2, .slice a_p0_3 p0_3.length c_p0_3]⟩], [⟨b3, 24, [.int .i64 0, .int .i64 0, .int .i64 0, .slice none 0 0]⟩], L8, [⟨b10, 24, [.int .i64 y_1, .int .i64 y_2, .int .i64 y_3, .slice a5 ((y_4).length) c6]⟩], [⟨b12, 24, [.int .i64 (w64 (Int.tdiv (w64 (p0_0 + 1)) 2)), .int .i64 (w64 (Int.tdiv (w64 (p0_1 + 1)) 2)), .int .i64 p0_2, .slice p.2.1 p.2.2.1 p.2.2.2.1]⟩], p.2.2.2.2]) ?_ (fun hk46 => ?_)
        · rintro ⟨l_11, ⟨a41, q42, c43, L40⟩⟩ ⟨hq52, hL40⟩
          subst hq52
          have hqq : q42 = l_11.length := OwnE.qlen hL40
          subst hqq
          refine WK.sub (e' := [(1, .pointer (some ⟨b2, 0, none⟩)), (2, .pointer (some ⟨b3, 0, none⟩)), (3, .int .i64 0), (4, .pointer (some ⟨b10, 0, none⟩)), (6, .pointer (some ⟨b12, 0, none⟩)), (7, .int .i64 s_7)]) ⟨rfl, rfl, rfl, rfl, rfl, rfl, trivial⟩ (WK.cls (C' := St w0 m m [[⟨b2, 24, [.int .i64 p0_0, .int .i64 p0_1, .int .i64 p0_2, .slice a_p0_3 p0_3.length c_p0_3]⟩], [⟨b3, 24, [.int .i64 0, .int .i64 0, .int .i64 0, .slice none 0 0]⟩], L8, [⟨b10, 24, [.int .i64 y_1, .int .i64 y_2, .int .i64 y_3, .slice a5 ((y_4).length) c6]⟩], [⟨b12, 24, [.int .i64 (w64 (Int.tdiv (w64 (p0_0 + 1)) 2)), .int .i64 (w64 (Int.tdiv (w64 (p0_1 + 1)) 2)), .int .i64 p0_2, .slice a41 ((l_11).length) c43]⟩], L40]) (fun _ h => h) ?_)
          refine WK_blk ?_
          refine WK_region ?_
          refine WO_pure tbok 3 [(1, .pointer (some ⟨b2, 0, none⟩)), (2, .pointer (some ⟨b3, 0, none⟩)), (3, .int .i64 0), (4, .pointer (some ⟨b10, 0, none⟩)), (6, .pointer (some ⟨b12, 0, none⟩)), (7, .int .i64 (w64 (s_7 + 2)))] rfl ⟨rfl, rfl, rfl, rfl, rfl, rfl, trivial⟩ ?_
          refine WO_end ?_
          cases hm27
          refine WK.sub ?_ (WK.cls (fun _ h => h) (hn30 _ (a41, _, c43, L40) rfl hL40))
          exact ⟨rfl, rfl, rfl, rfl, rfl, rfl, trivial⟩
        · refine WK_block ?_
          refine WK_loop (S := List Int × Int) (G := Option Addr × Nat × Nat × List Ent) (fun s => pyramid_Reduce_s2 p0_0 y_4 s_7 s.1 s.2) (fun s g => [(1, .pointer (some ⟨b2, 0, none⟩)), (2, .pointer (some ⟨b3, 0, none⟩)), (3, .int .i64 0), (4, .pointer (some ⟨b10, 0, none⟩)), (6, .pointer (some ⟨b12, 0, none⟩)), (7, .int .i64 s_7), (8, .int .i64 s.2)]) (fun s g => St w0 m m [[⟨b2, 24, [.int .i64 p0_0, .int .i64 p0_1, .int .i64 p0_2, .slice a_p0_3 p0_3.length c_p0_3]⟩], [⟨b3, 24, [.int .i64 0, .int .i64 0, .int .i64 0, .slice none 0 0]⟩], L8, [⟨b10, 24, [.int .i64 y_1, .int .i64 y_2, .int .i64 y_3, .slice a5 ((y_4).length) c6]⟩], [⟨b12, 24, [.int .i64 (w64 (Int.tdiv (w64 (p0_0 + 1)) 2)), .int .i64 (w64 (Int.tdiv (w64 (p0_1 + 1)) 2)), .int .i64 p0_2, .slice g.1 g.2.1 g.2.2.1]⟩], g.2.2.2]) (fun s g => OwnE 3 1 (I1 .i64) (.slice g.1 g.2.1 g.2.2.1) s.1 g.2.2.2) FUEL (l_6, 0) (a16, _, c18, L15) x44 hx45 hL15 ⟨rfl, rfl, rfl, rfl, rfl, rfl, rfl, trivial⟩ (fun _ h => h) ?_
          rintro ⟨l_9, s_10⟩ ⟨a36, q37, c38, L35⟩ o48 fl49 hm47 hL35 hn50 hd51
          have hm47 : pyramid_Reduce_s2 p0_0 y_4 s_7 l_9 s_10 = some o48 := hm47
          unfold pyramid_Reduce_s2 at hm47
          have hqq : q37 = l_9.length := OwnE.qlen hL35
          subst hqq
          refine WK.sub (e' := [(1, .pointer (some ⟨b2, 0, none⟩)), (2, .pointer (some ⟨b3, 0, none⟩)), (3, .int .i64 0), (4, .pointer (some ⟨b10, 0, none⟩)), (6, .pointer (some ⟨b12, 0, none⟩)), (7, .int .i64 s_7), (8, .int .i64 s_10)]) ⟨rfl, rfl, rfl, rfl, rfl, rfl, rfl, trivial⟩ (WK.cls (C' := St w0 m m [[⟨b2, 24, [.int .i64 p0_0, .int .i64 p0_1, .int .i64 p0_2, .slice a_p0_3 p0_3.length c_p0_3]⟩], [⟨b3, 24, [.int .i64 0, .int .i64 0, .int .i64 0, .slice none 0 0]⟩], L8, [⟨b10, 24, [.int .i64 y_1, .int .i64 y_2, .int .i64 y_3, .slice a5 ((y_4).length) c6]⟩], [⟨b12, 24, [.int .i64 (w64 (Int.tdiv (w64 (p0_0 + 1)) 2)), .int .i64 (w64 (Int.tdiv (w64 (p0_1 + 1)) 2)), .int .i64 p0_2, .slice a36 ((l_9).length) c38]⟩], L35]) (fun _ h => h) ?_)
          refine WK_seq ?_
          refine WK_seq ?_
          refine WK_region ?_
          refine WO_pure tbok 2 [(1, .pointer (some ⟨b2, 0, none⟩)), (2, .pointer (some ⟨b3, 0, none⟩)), (3, .int .i64 0), (4, .pointer (some ⟨b10, 0, none⟩)), (6, .pointer (some ⟨b12, 0, none⟩)), (7, .int .i64 s_7), (8, .int .i64 s_10), (35, .int .i64 s_10), (36, .pointer (some ⟨b2, 0, none⟩))] rfl ⟨rfl, rfl, rfl, rfl, rfl, rfl, rfl, rfl, rfl, trivial⟩ ?_
          refine WO_loadB tbok 0 rfl rfl rfl rfl (fun _ h => h) rfl rfl ?_
          refine WO_pure tbok 1 [(1, .pointer (some ⟨b2, 0, none⟩)), (2, .pointer (some ⟨b3, 0, none⟩)), (3, .int .i64 0), (4, .pointer (some ⟨b10, 0, none⟩)), (6, .pointer (some ⟨b12, 0, none⟩)), (7, .int .i64 s_7), (8, .int .i64 s_10), (38, .bool (decide (s_10 < p0_0)))] rfl ⟨rfl, rfl, rfl, rfl, rfl, rfl, rfl, rfl, trivial⟩ ?_
          refine WO_end ?_
          refine WK_cond (b := decide (s_10 < p0_0)) rfl (fun hb53 => ?_) (fun hb53 => ?_)
          · have hm47 := ifT hb53 hm47
            refine WK_skip ?_
            refine WK_seq ?_
            refine WK_block ?_
            refine WK_draw 13 [0, 1, 2, 3, 4, 5, 6, 7, 8, 9, 10, 11, 12] follows_ok (by kernel_rfl) St_closed ?_
            refine WO_pure tbok 1 [(1, .pointer (some ⟨b2, 0, none⟩)), (2, .pointer (some ⟨b3, 0, none⟩)), (3, .int .i64 0), (4, .pointer (some ⟨b10, 0, none⟩)), (6, .pointer (some ⟨b12, 0, none⟩)), (7, .int .i64 s_7), (8, .int .i64 s_10), (41, .pointer (some ⟨b12, 3, none⟩))] rfl ⟨rfl, rfl, rfl, rfl, rfl, rfl, rfl, rfl, trivial⟩ ?_
            refine WO_loadB tbok 4 rfl rfl rfl rfl (fun _ h => h) rfl rfl ?_
            refine WO_pure tbok 1 [(1, .pointer (some ⟨b2, 0, none⟩)), (2, .pointer (some ⟨b3, 0, none⟩)), (3, .int .i64 0), (4, .pointer (some ⟨b10, 0, none⟩)), (6, .pointer (some ⟨b12, 0, none⟩)), (7, .int .i64 s_7), (8, .int .i64 s_10), (42, .slice a36 ((l_9).length) c38), (43, .pointer (some ⟨b10, 3, none⟩))] rfl ⟨rfl, rfl, rfl, rfl, rfl, rfl, rfl, rfl, rfl, trivial⟩ ?_
            refine WO_loadB tbok 3 rfl rfl rfl rfl (fun _ h => h) rfl rfl ?_
            refine WO_pure tbok 2 [(1, .pointer (some ⟨b2, 0, none⟩)), (2, .pointer (some ⟨b3, 0, none⟩)), (3, .int .i64 0), (4, .pointer (some ⟨b10, 0, none⟩)), (6, .pointer (some ⟨b12, 0, none⟩)), (7, .int .i64 s_7), (8, .int .i64 s_10), (42, .slice a36 ((l_9).length) c38), (44, .slice a5 ((y_4).length) c6), (45, .int .i64 s_7), (46, .pointer (some ⟨b2, 0, none⟩))] rfl ⟨rfl, rfl, rfl, rfl, rfl, rfl, rfl, rfl, rfl, rfl, rfl, trivial⟩ ?_
            refine WO_loadB tbok 0 rfl rfl rfl rfl (fun _ h => h) rfl rfl ?_
            refine WO_pure tbok 3 [(1, .pointer (some ⟨b2, 0, none⟩)), (2, .pointer (some ⟨b3, 0, none⟩)), (3, .int .i64 0), (4, .pointer (some ⟨b10, 0, none⟩)), (6, .pointer (some ⟨b12, 0, none⟩)), (7, .int .i64 s_7), (8, .int .i64 s_10), (42, .slice a36 ((l_9).length) c38), (44, .slice a5 ((y_4).length) c6), (50, .int .i64 (w64 ((w64 (s_7 * p0_0)) + s_10)))] rfl ⟨rfl, rfl, rfl, rfl, rfl, rfl, rfl, rfl, rfl, rfl, trivial⟩ ?_
            obtain ⟨v_12, hy54, hm47⟩ := bind_some hm47
            obtain ⟨hc55, hy54⟩ := ix_some hy54
            refine WO_index tbok rfl rfl rfl rfl rfl rfl rfl rfl (OwnE.addr hL8) (by simpa using hc55) ?_
            refine WO_loadO (E := (I1 .i64)) tbok (fun _ => rfl) 2 rfl rfl rfl rfl (fun _ h => h) hL8 rfl hy54 rfl ?_
            refine WO_bslice (E := (I1 .i64)) tbok (fun _ => rfl) (by decide) [.int .i64 v_12] ([v_12] : List Int) rfl rfl St_closed rfl rfl rfl rfl rfl rfl rfl rfl rfl rfl rfl rfl (fun b56 hb56 => ?_)
            refine WO.cls (C' := St w0 m m [[⟨b2, 24, [.int .i64 p0_0, .int .i64 p0_1, .int .i64 p0_2, .slice a_p0_3 p0_3.length c_p0_3]⟩], [⟨b3, 24, [.int .i64 0, .int .i64 0, .int .i64 0, .slice none 0 0]⟩], L8, [⟨b10, 24, [.int .i64 y_1, .int .i64 y_2, .int .i64 y_3, .slice a5 ((y_4).length) c6]⟩], [⟨b12, 24, [.int .i64 (w64 (Int.tdiv (w64 (p0_0 + 1)) 2)), .int .i64 (w64 (Int.tdiv (w64 (p0_1 + 1)) 2)), .int .i64 p0_2, .slice a36 ((l_9).length) c38]⟩], L35, [⟨b56, 3, ([v_12] : List Int).flatMap (I1 .i64)⟩]]) (fun _ h => h) ?_
            refine WO_tail ?_
            obtain ⟨hc58, hm47⟩ := chk_some hm47
            refine WO_append (E := (I1 .i64)) tbok (fun _ => rfl) 5 ([v_12] : List Int) (fun _ _ => rfl) rfl rfl rfl rfl rfl rfl rfl rfl rfl rfl rfl rfl hL35 rfl (src_seg (j := 6) rfl) (ap_ok (by decide) hc58) (ap_max hc58) (fun a59 c60 L61 hL61 => ?_)
            refine WO.cls (C' := St w0 m m [[⟨b2, 24, [.int .i64 p0_0, .int .i64 p0_1, .int .i64 p0_2, .slice a_p0_3 p0_3.length c_p0_3]⟩], [⟨b3, 24, [.int .i64 0, .int .i64 0, .int .i64 0, .slice none 0 0]⟩], L8, [⟨b10, 24, [.int .i64 y_1, .int .i64 y_2, .int .i64 y_3, .slice a5 ((y_4).length) c6]⟩], [⟨b12, 24, [.int .i64 (w64 (Int.tdiv (w64 (p0_0 + 1)) 2)), .int .i64 (w64 (Int.tdiv (w64 (p0_1 + 1)) 2)), .int .i64 p0_2, .slice a36 ((l_9).length) c38]⟩], L61, [⟨b56, 3, ([v_12] : List Int).flatMap (I1 .i64)⟩]]) (fun _ h => h) ?_
            refine WO_pure tbok 1 [(1, .pointer (some ⟨b2, 0, none⟩)), (2, .pointer (some ⟨b3, 0, none⟩)), (3, .int .i64 0), (4, .pointer (some ⟨b10, 0, none⟩)), (6, .pointer (some ⟨b12, 0, none⟩)), (7, .int .i64 s_7), (8, .int .i64 s_10), (54, .slice a59 ((l_9 ++ ([v_12] : List Int)).length) c60), (55, .pointer (some ⟨b12, 3, none⟩))] rfl ⟨rfl, rfl, rfl, rfl, rfl, rfl, rfl, rfl, rfl, trivial⟩ ?_
            refine WO_storeB tbok 4 [.int .i64 (w64 (Int.tdiv (w64 (p0_0 + 1)) 2)), .int .i64 (w64 (Int.tdiv (w64 (p0_1 + 1)) 2)), .int .i64 p0_2, .slice a59 ((l_9 ++ ([v_12] : List Int)).length) c60] rfl rfl rfl rfl rfl rfl rfl ?_
            refine WO.cls (C' := St w0 m m [[⟨b2, 24, [.int .i64 p0_0, .int .i64 p0_1, .int .i64 p0_2, .slice a_p0_3 p0_3.length c_p0_3]⟩], [⟨b3, 24, [.int .i64 0, .int .i64 0, .int .i64 0, .slice none 0 0]⟩], L8, [⟨b10, 24, [.int .i64 y_1, .int .i64 y_2, .int .i64 y_3, .slice a5 ((y_4).length) c6]⟩], [⟨b12, 24, [.int .i64 (w64 (Int.tdiv (w64 (p0_0 + 1)) 2)), .int .i64 (w64 (Int.tdiv (w64 (p0_1 + 1)) 2)), .int .i64 p0_2, .slice a59 ((l_9 ++ ([v_12] : List Int)).length) c60]⟩], L61, [⟨b56, 3, ([v_12] : List Int).flatMap (I1 .i64)⟩]]) (fun _ h => h) ?_
            refine WO_end ?_
            refine WK_blk ?_
            refine WK_region ?_
            refine WO_pure tbok 3 [(1, .pointer (some ⟨b2, 0, none⟩)), (2, .pointer (some ⟨b3, 0, none⟩)), (3, .int .i64 0), (4, .pointer (some ⟨b10, 0, none⟩)), (6, .pointer (some ⟨b12, 0, none⟩)), (7, .int .i64 s_7), (8, .int .i64 (w64 (s_10 + 2)))] rfl ⟨rfl, rfl, rfl, rfl, rfl, rfl, rfl, trivial⟩ ?_
            refine WO_end ?_
            cases hm47
            refine WK.sub ?_ (WK.cls (fun _ h => St.take 6 h) (hn50 _ (a59, (l_9 ++ ([v_12] : List Int)).length, c60, L61) rfl hL61))
            exact ⟨rfl, rfl, rfl, rfl, rfl, rfl, rfl, trivial⟩
          · have hm47 := ifF hb53 hm47
            refine WK_exit rfl ?_
            cases hm47
            refine WK.sub ?_ (WK.cls (fun _ h => h) (hk46 (l_9, (a36, _, c38, L35)) ⟨(hd51 _ rfl), hL35⟩))
            exact ⟨rfl, rfl, rfl, rfl, rfl, rfl, trivial⟩
      · have hm27 := ifF hb33 hm27
        refine WK_exit rfl ?_
        cases hm27
        refine WK.sub ?_ (WK.cls (fun _ h => h) (hk26 (l_6, (a16, _, c18, L15)) ⟨(hd31 _ rfl), hL15⟩))
        exact ⟨rfl, rfl, rfl, trivial⟩
theorem fiducialtop_dCoarseAwake_walk {m : Mu}    {r : Bool} (hm : fiducialtop_dCoarseAwake = some r) :
    Go.E.Spec Try.prog 6 [] m (fun v _ _ => v = .bool r) := by
  refine Spec_enter Try.func6 rfl rfl rfl (fun w0 => ?_)
  refine WK.sub (e' := []) trivial ?_
  refine WK.sub (e' := []) trivial ?_
  unfold fiducialtop_dCoarseAwake at hm
  refine WK_seq ?_
  refine WK_region ?_
  refine WO_pure tbok 1 [(0, .bool false)] rfl ⟨rfl, trivial⟩ ?_
  refine WO_end ?_
  refine WK_seq ?_
  refine WK_region ?_
  refine WO_bslice (E := (I1 .i64)) tbok (fun _ => rfl) (by decide) [.int .i64 7] ([7] : List Int) rfl rfl trivial rfl rfl rfl rfl rfl rfl rfl rfl rfl rfl rfl rfl (fun b1 hb1 => ?_)
  refine WO.cls (C' := St w0 m m [[⟨b1, 3, ([7] : List Int).flatMap (I1 .i64)⟩]]) (fun _ h => h) ?_
  refine WO_pure tbok 1 [(0, .bool false), (8, .agg #[.int .i64 1, .int .i64 1, .int .i64 9, .slice (some ⟨b1, 0, none⟩) 1 1])] rfl ⟨rfl, rfl, trivial⟩ ?_
  refine WO_bslice (E := (I1 .i64)) tbok (fun _ => rfl) (by decide) [.int .i64 3] ([3] : List Int) rfl rfl trivial rfl rfl rfl rfl rfl rfl rfl rfl rfl rfl rfl rfl (fun b3 hb3 => ?_)
  refine WO.cls (C' := St w0 m m [[⟨b1, 3, ([7] : List Int).flatMap (I1 .i64)⟩], [⟨b3, 3, ([3] : List Int).flatMap (I1 .i64)⟩]]) (fun _ h => h) ?_
  refine WO_pure tbok 1 [(0, .bool false), (8, .agg #[.int .i64 1, .int .i64 1, .int .i64 9, .slice (some ⟨b1, 0, none⟩) 1 1]), (10, .agg #[.int .i64 1, .int .i64 1, .int .i64 9, .slice (some ⟨b3, 0, none⟩) 1 1])] rfl ⟨rfl, rfl, rfl, trivial⟩ ?_
  refine WO_alloc tbok [.int .i64 0, .int .i64 0, .int .i64 0, .slice none 0 0] rfl rfl trivial rfl rfl rfl rfl (fun b5 => ?_)
  refine WO.cls (C' := St w0 m m [[⟨b1, 3, ([7] : List Int).flatMap (I1 .i64)⟩], [⟨b3, 3, ([3] : List Int).flatMap (I1 .i64)⟩], [⟨b5, 24, [.int .i64 0, .int .i64 0, .int .i64 0, .slice none 0 0]⟩]]) (fun _ h => h) ?_
  refine WO_alloc tbok [.int .i64 0, .int .i64 0, .int .i64 0, .slice none 0 0] rfl rfl trivial rfl rfl rfl rfl (fun b6 => ?_)
  refine WO.cls (C' := St w0 m m [[⟨b1, 3, ([7] : List Int).flatMap (I1 .i64)⟩], [⟨b3, 3, ([3] : List Int).flatMap (I1 .i64)⟩], [⟨b5, 24, [.int .i64 0, .int .i64 0, .int .i64 0, .slice none 0 0]⟩], [⟨b6, 24, [.int .i64 0, .int .i64 0, .int .i64 0, .slice none 0 0]⟩]]) (fun _ h => h) ?_
  refine WO_storeB tbok 2 [.int .i64 1, .int .i64 1, .int .i64 9, .slice (some ⟨b1, 0, none⟩) 1 1] rfl rfl rfl rfl rfl rfl rfl ?_
  refine WO.cls (C' := St w0 m m [[⟨b1, 3, ([7] : List Int).flatMap (I1 .i64)⟩], [⟨b3, 3, ([3] : List Int).flatMap (I1 .i64)⟩], [⟨b5, 24, [.int .i64 1, .int .i64 1, .int .i64 9, .slice (some ⟨b1, 0, none⟩) 1 1]⟩], [⟨b6, 24, [.int .i64 0, .int .i64 0, .int .i64 0, .slice none 0 0]⟩]]) (fun _ h => h) ?_
  refine WO_storeB tbok 3 [.int .i64 1, .int .i64 1, .int .i64 9, .slice (some ⟨b3, 0, none⟩) 1 1] rfl rfl rfl rfl rfl rfl rfl ?_
  refine WO.cls (C' := St w0 m m [[⟨b1, 3, ([7] : List Int).flatMap (I1 .i64)⟩], [⟨b3, 3, ([3] : List Int).flatMap (I1 .i64)⟩], [⟨b5, 24, [.int .i64 1, .int .i64 1, .int .i64 9, .slice (some ⟨b1, 0, none⟩) 1 1]⟩], [⟨b6, 24, [.int .i64 1, .int .i64 1, .int .i64 9, .slice (some ⟨b3, 0, none⟩) 1 1]⟩]]) (fun _ h => h) ?_
  refine WO_end ?_
  refine WK_seq ?_
  refine WK_region ?_
  refine WO_loadB tbok 2 rfl rfl rfl rfl (fun _ h => h) rfl rfl ?_
  refine WO_loadB tbok 3 rfl rfl rfl rfl (fun _ h => h) rfl rfl ?_
  obtain ⟨⟨y_1, y_2, y_3, y_4, y_5⟩, hc7, hm⟩ := bind_some hm
  refine WO_call1 (census_Plain_Q (y_1, y_2, y_3, y_4, y_5)) rfl rfl trivial rfl rfl rfl rfl ⟨9, #[], #[], rfl, callable_9, fun w hw => ⟨_, hw.satV, census_Plain_walk (OwnE.rd (E := (I1 .i64)) (k := 1) (fun _ => rfl) hb1 (fun _ hx => hw.memV (i := 0) rfl hx)) (OwnE.rd (E := (I1 .i64)) (k := 1) (fun _ => rfl) hb3 (fun _ hx => hw.memV (i := 1) rfl hx)) hc7⟩⟩ (fun v12 L11 hq => ?_)
  obtain ⟨a8, qa8, c9, rfl, hL11⟩ := hq
  obtain rfl := OwnE.qlen hL11
  refine WO.cls (C' := St w0 m m [[⟨b1, 3, ([7] : List Int).flatMap (I1 .i64)⟩], [⟨b3, 3, ([3] : List Int).flatMap (I1 .i64)⟩], [⟨b5, 24, [.int .i64 1, .int .i64 1, .int .i64 9, .slice (some ⟨b1, 0, none⟩) 1 1]⟩], [⟨b6, 24, [.int .i64 1, .int .i64 1, .int .i64 9, .slice (some ⟨b3, 0, none⟩) 1 1]⟩], L11]) (fun _ h => h) ?_
  refine WO_pure tbok 3 [(0, .bool false), (1, .pointer (some ⟨b5, 0, none⟩)), (15, .agg #[.int .i64 y_1, .int .i64 y_2, .int .i64 y_3, .slice a8 ((y_4).length) c9]), (16, .int .i64 y_5)] rfl ⟨rfl, rfl, rfl, rfl, trivial⟩ ?_
  refine WO_alloc tbok [.int .i64 0, .int .i64 0, .int .i64 0, .slice none 0 0] rfl rfl trivial rfl rfl rfl rfl (fun b13 => ?_)
  refine WO.cls (C' := St w0 m m [[⟨b1, 3, ([7] : List Int).flatMap (I1 .i64)⟩], [⟨b3, 3, ([3] : List Int).flatMap (I1 .i64)⟩], [⟨b5, 24, [.int .i64 1, .int .i64 1, .int .i64 9, .slice (some ⟨b1, 0, none⟩) 1 1]⟩], [⟨b6, 24, [.int .i64 1, .int .i64 1, .int .i64 9, .slice (some ⟨b3, 0, none⟩) 1 1]⟩], L11, [⟨b13, 32, [.int .i64 0, .int .i64 0, .int .i64 0, .slice none 0 0]⟩]]) (fun _ h => h) ?_
  refine WO_storeB tbok 5 [.int .i64 y_1, .int .i64 y_2, .int .i64 y_3, .slice a8 ((y_4).length) c9] rfl rfl rfl rfl rfl rfl rfl ?_
  refine WO.cls (C' := St w0 m m [[⟨b1, 3, ([7] : List Int).flatMap (I1 .i64)⟩], [⟨b3, 3, ([3] : List Int).flatMap (I1 .i64)⟩], [⟨b5, 24, [.int .i64 1, .int .i64 1, .int .i64 9, .slice (some ⟨b1, 0, none⟩) 1 1]⟩], [⟨b6, 24, [.int .i64 1, .int .i64 1, .int .i64 9, .slice (some ⟨b3, 0, none⟩) 1 1]⟩], L11, [⟨b13, 32, [.int .i64 y_1, .int .i64 y_2, .int .i64 y_3, .slice a8 ((y_4).length) c9]⟩]]) (fun _ h => h) ?_
  refine WO_pure tbok 1 [(0, .bool false), (1, .pointer (some ⟨b5, 0, none⟩)), (3, .pointer (some ⟨b13, 0, none⟩)), (4, .int .i64 y_5)] rfl ⟨rfl, rfl, rfl, rfl, trivial⟩ ?_
  refine WO_end ?_
  refine WK_seq ?_
  refine WK_region ?_
  refine WO_loadB tbok 2 rfl rfl rfl rfl (fun _ h => h) rfl rfl ?_
  obtain ⟨⟨y_6, y_7, y_8, y_9, y_10⟩, hc14, hm⟩ := bind_some hm
  refine WO_call1 (pyramid_Reduce_Q (y_6, y_7, y_8, y_9, y_10)) rfl rfl trivial rfl rfl rfl rfl ⟨8, #[], #[], rfl, callable_8, fun w hw => ⟨_, hw.satV, pyramid_Reduce_walk (OwnE.rd (E := (I1 .i64)) (k := 1) (fun _ => rfl) hb1 (fun _ hx => hw.memV (i := 0) rfl hx)) hc14⟩⟩ (fun v19 L18 hq => ?_)
  obtain ⟨a15, qa15, c16, rfl, hL18⟩ := hq
  obtain rfl := OwnE.qlen hL18
  refine WO.cls (C' := St w0 m m [[⟨b1, 3, ([7] : List Int).flatMap (I1 .i64)⟩], [⟨b3, 3, ([3] : List Int).flatMap (I1 .i64)⟩], [⟨b5, 24, [.int .i64 1, .int .i64 1, .int .i64 9, .slice (some ⟨b1, 0, none⟩) 1 1]⟩], [⟨b6, 24, [.int .i64 1, .int .i64 1, .int .i64 9, .slice (some ⟨b3, 0, none⟩) 1 1]⟩], L11, [⟨b13, 32, [.int .i64 y_1, .int .i64 y_2, .int .i64 y_3, .slice a8 ((y_4).length) c9]⟩], L18]) (fun _ h => h) ?_
  refine WO_pure tbok 3 [(0, .bool false), (3, .pointer (some ⟨b13, 0, none⟩)), (4, .int .i64 y_5), (20, .agg #[.int .i64 y_6, .int .i64 y_7, .int .i64 y_8, .slice a15 ((y_9).length) c16]), (21, .int .i64 y_10)] rfl ⟨rfl, rfl, rfl, rfl, rfl, trivial⟩ ?_
  refine WO_alloc tbok [.int .i64 0, .int .i64 0, .int .i64 0, .slice none 0 0] rfl rfl trivial rfl rfl rfl rfl (fun b20 => ?_)
  refine WO.cls (C' := St w0 m m [[⟨b1, 3, ([7] : List Int).flatMap (I1 .i64)⟩], [⟨b3, 3, ([3] : List Int).flatMap (I1 .i64)⟩], [⟨b5, 24, [.int .i64 1, .int .i64 1, .int .i64 9, .slice (some ⟨b1, 0, none⟩) 1 1]⟩], [⟨b6, 24, [.int .i64 1, .int .i64 1, .int .i64 9, .slice (some ⟨b3, 0, none⟩) 1 1]⟩], L11, [⟨b13, 32, [.int .i64 y_1, .int .i64 y_2, .int .i64 y_3, .slice a8 ((y_4).length) c9]⟩], L18, [⟨b20, 24, [.int .i64 0, .int .i64 0, .int .i64 0, .slice none 0 0]⟩]]) (fun _ h => h) ?_
  refine WO_storeB tbok 7 [.int .i64 y_6, .int .i64 y_7, .int .i64 y_8, .slice a15 ((y_9).length) c16] rfl rfl rfl rfl rfl rfl rfl ?_
  refine WO.cls (C' := St w0 m m [[⟨b1, 3, ([7] : List Int).flatMap (I1 .i64)⟩], [⟨b3, 3, ([3] : List Int).flatMap (I1 .i64)⟩], [⟨b5, 24, [.int .i64 1, .int .i64 1, .int .i64 9, .slice (some ⟨b1, 0, none⟩) 1 1]⟩], [⟨b6, 24, [.int .i64 1, .int .i64 1, .int .i64 9, .slice (some ⟨b3, 0, none⟩) 1 1]⟩], L11, [⟨b13, 32, [.int .i64 y_1, .int .i64 y_2, .int .i64 y_3, .slice a8 ((y_4).length) c9]⟩], L18, [⟨b20, 24, [.int .i64 y_6, .int .i64 y_7, .int .i64 y_8, .slice a15 ((y_9).length) c16]⟩]]) (fun _ h => h) ?_
  refine WO_pure tbok 1 [(0, .bool false), (3, .pointer (some ⟨b13, 0, none⟩)), (4, .int .i64 y_5), (5, .pointer (some ⟨b20, 0, none⟩)), (6, .int .i64 y_10)] rfl ⟨rfl, rfl, rfl, rfl, rfl, trivial⟩ ?_
  refine WO_end ?_
  refine WK_seq ?_
  refine WK_region ?_
  refine WO_pure tbok 3 [(0, .bool false), (3, .pointer (some ⟨b13, 0, none⟩)), (5, .pointer (some ⟨b20, 0, none⟩)), (6, .int .i64 y_10), (24, .bool (y_5 == 0))] rfl ⟨rfl, rfl, rfl, rfl, rfl, trivial⟩ ?_
  refine WO_split (d := 24) (b := y_5 == 0) rfl (fun hb21 => ?_) (fun hb21 => ?_)
  · have hm := ifT hb21 hm
    refine WO_pure tbok 4 [(0, .bool false), (3, .pointer (some ⟨b13, 0, none⟩)), (5, .pointer (some ⟨b20, 0, none⟩)), (28, .bool (y_10 == 0))] rfl ⟨rfl, rfl, rfl, rfl, trivial⟩ ?_
    refine WO_split (d := 28) (b := y_10 == 0) rfl (fun hb22 => ?_) (fun hb22 => ?_)
    · have hm := ifT hb22 hm
      refine WO_pure tbok 1 [(0, .bool false), (3, .pointer (some ⟨b13, 0, none⟩)), (5, .pointer (some ⟨b20, 0, none⟩)), (28, .bool true), (29, .pointer (some ⟨b13, 3, none⟩))] rfl ⟨rfl, rfl, rfl, rfl, rfl, trivial⟩ ?_
      refine WO_loadB tbok 5 rfl rfl rfl rfl (fun _ h => h) rfl rfl ?_
      refine WO_pure tbok 4 [(0, .bool false), (3, .pointer (some ⟨b13, 0, none⟩)), (5, .pointer (some ⟨b20, 0, none⟩)), (34, .bool (((y_4).length : Int) == 1))] rfl ⟨rfl, rfl, rfl, rfl, trivial⟩ ?_
      refine WO_split (d := 34) (b := ((y_4).length : Int) == 1) rfl (fun hb23 => ?_) (fun hb23 => ?_)
      · have hm := ifT hb23 hm
        refine WO_pure tbok 1 [(0, .bool false), (5, .pointer (some ⟨b20, 0, none⟩)), (34, .bool true), (35, .pointer (some ⟨b13, 3, none⟩))] rfl ⟨rfl, rfl, rfl, rfl, trivial⟩ ?_
        refine WO_loadB tbok 5 rfl rfl rfl rfl (fun _ h => h) rfl rfl ?_
        obtain ⟨v_11, hy24, hm⟩ := bind_some hm
        obtain ⟨hc25, hy24⟩ := ix_some hy24
        refine WO_index tbok rfl rfl rfl rfl rfl rfl rfl rfl (OwnE.addr hL11) (by simpa using hc25) ?_
        refine WO_loadO (E := (I1 .i64)) tbok (fun _ => rfl) 4 rfl rfl rfl rfl (fun _ h => h) hL11 rfl hy24 rfl ?_
        refine WO_pure tbok 3 [(0, .bool false), (5, .pointer (some ⟨b20, 0, none⟩)), (41, .bool (v_11 == 4))] rfl ⟨rfl, rfl, rfl, trivial⟩ ?_
        refine WO_split (d := 41) (b := v_11 == 4) rfl (fun hb26 => ?_) (fun hb26 => ?_)
        · have hm := ifT hb26 hm
          refine WO_pure tbok 1 [(0, .bool false), (5, .pointer (some ⟨b20, 0, none⟩)), (41, .bool true), (42, .pointer (some ⟨b20, 3, none⟩))] rfl ⟨rfl, rfl, rfl, rfl, trivial⟩ ?_
          refine WO_loadB tbok 7 rfl rfl rfl rfl (fun _ h => h) rfl rfl ?_
          refine WO_pure tbok 4 [(0, .bool false), (5, .pointer (some ⟨b20, 0, none⟩)), (47, .bool (((y_9).length : Int) == 1))] rfl ⟨rfl, rfl, rfl, trivial⟩ ?_
          refine WO_split (d := 47) (b := ((y_9).length : Int) == 1) rfl (fun hb27 => ?_) (fun hb27 => ?_)
          · have hm := ifT hb27 hm
            refine WO_pure tbok 1 [(0, .bool false), (47, .bool true), (48, .pointer (some ⟨b20, 3, none⟩))] rfl ⟨rfl, rfl, rfl, trivial⟩ ?_
            refine WO_loadB tbok 7 rfl rfl rfl rfl (fun _ h => h) rfl rfl ?_
            obtain ⟨v_12, hy28, hm⟩ := bind_some hm
            obtain ⟨hc29, hy28⟩ := ix_some hy28
            refine WO_index tbok rfl rfl rfl rfl rfl rfl rfl rfl (OwnE.addr hL18) (by simpa using hc29) ?_
            refine WO_loadO (E := (I1 .i64)) tbok (fun _ => rfl) 6 rfl rfl rfl rfl (fun _ h => h) hL18 rfl hy28 rfl ?_
            refine WO_pure tbok 3 [(0, .bool (v_12 == 7))] rfl ⟨rfl, trivial⟩ ?_
            refine WO_end ?_
            cases hm
            exact WK_ret (ret_out (L := []) (RLc_tmp rfl RLc_nil) (List.nil_sublist _) rfl)
          · have hm := ifF hb27 hm
            refine WO_pure tbok 7 [(0, .bool false)] rfl ⟨rfl, trivial⟩ ?_
            refine WO_end ?_
            cases hm
            exact WK_ret (ret_out (L := []) (RLc_tmp rfl RLc_nil) (List.nil_sublist _) rfl)
        · have hm := ifF hb26 hm
          refine WO_pure tbok 13 [(0, .bool false)] rfl ⟨rfl, trivial⟩ ?_
          refine WO_end ?_
          cases hm
          exact WK_ret (ret_out (L := []) (RLc_tmp rfl RLc_nil) (List.nil_sublist _) rfl)
      · have hm := ifF hb23 hm
        refine WO_pure tbok 20 [(0, .bool false)] rfl ⟨rfl, trivial⟩ ?_
        refine WO_end ?_
        cases hm
        exact WK_ret (ret_out (L := []) (RLc_tmp rfl RLc_nil) (List.nil_sublist _) rfl)
    · have hm := ifF hb22 hm
      refine WO_pure tbok 26 [(0, .bool false)] rfl ⟨rfl, trivial⟩ ?_
      refine WO_end ?_
      cases hm
      exact WK_ret (ret_out (L := []) (RLc_tmp rfl RLc_nil) (List.nil_sublist _) rfl)
  · have hm := ifF hb21 hm
    refine WO_pure tbok 30 [(0, .bool false)] rfl ⟨rfl, trivial⟩ ?_
    refine WO_end ?_
    cases hm
    exact WK_ret (ret_out (L := []) (RLc_tmp rfl RLc_nil) (List.nil_sublist _) rfl)
end Go.Proofs.Ytbolefkhmfbnlaa
