import Derived.Test.YtmeopehknkfnbaaTab
import Derived.Test.YtmeopehknkfnbaaM
import Derived.Test.YtmeopehknkfnbaaIt
set_option linter.unusedVariables false
set_option maxRecDepth 100000
set_option maxHeartbeats 4000000
namespace Go.Proofs.Ytmeopehknkfnbaa
open Go.E Go.RowKit
attribute [local irreducible] Go.E.WO Go.E.WK
theorem slices_IndexFunc_sint_walk {m : Mu} {p0 : List Int} {p1 : Int → Option Bool} {a_p0 : Option Addr} {q_p0 c_p0 : Nat} {p1v : Value} (h_p0 : SlR (FE (I1 .i64)) 1 m (.slice a_p0 q_p0 c_p0) p0) (hp1 : ∀ (m1 : Mu), Le m m1 → ∀ (u1 : Int), ∀ (r : Bool), p1 u1 = some r → SpecV Try.prog p1v [.int .i64 u1] m1 (fun v _ _ => v = .bool r)) {r : Int} (hm : slices_IndexFunc_sint p0 p1 = some r) :
    Go.E.Spec Try.prog 51 [.slice a_p0 q_p0 c_p0, p1v] m (fun v _ _ => v = .int .i64 r) := by
  refine Spec_enter Try.func51 rfl rfl rfl (fun w0 => ?_)
  refine WK.sub (e' := [(0, .slice a_p0 q_p0 c_p0), (1, p1v)]) ⟨rfl, rfl, trivial⟩ ?_
  obtain rfl := SlR.qlen h_p0
  refine WK.sub (e' := [(0, .slice a_p0 p0.length c_p0), (1, p1v)]) ⟨rfl, rfl, trivial⟩ ?_
  unfold slices_IndexFunc_sint at hm
  refine WK_seq ?_
  refine WK_region ?_
  refine WO_pure tbok 1 [(0, .slice a_p0 p0.length c_p0), (1, p1v), (4, .int .i64 0)] rfl ⟨rfl, rfl, rfl, trivial⟩ ?_
  refine WO_end ?_
  refine WK_seq ?_
  refine WK_seq ?_
  refine WK_region ?_
  refine WO_pure tbok 3 [(0, .slice a_p0 p0.length c_p0), (1, p1v), (4, .int .i64 0), (7, .int .i64 (p0.length : Int)), (8, .int .i64 0)] rfl ⟨rfl, rfl, rfl, rfl, rfl, trivial⟩ ?_
  refine WO_end ?_
  obtain ⟨x2, hx3, hm⟩ := bind_some hm
  refine WK_join (β := Unit × Unit) (fun p => Sum.inr p.1 = x2) (fun p => [(4, .int .i64 0)]) (fun p => St w0 m m []) ?_ (fun hk4 => ?_)
  · rintro ⟨⟨⟩, ⟨⟩⟩ hq10
    subst hq10
    refine WK.sub (e' := [(4, .int .i64 0)]) ⟨rfl, trivial⟩ (WK.cls (C' := St w0 m m []) (fun _ h => h) ?_)
    refine WK_seq ?_
    refine WK_region ?_
    refine WO_pure tbok 1 [(4, .int .i64 (-1))] rfl ⟨rfl, trivial⟩ ?_
    refine WO_end ?_
    cases hm
    exact WK_ret (ret_out (L := []) (RLc_tmp rfl RLc_nil) (List.nil_sublist _) rfl)
  · refine WK_block ?_
    refine WK_loop (S := Int) (G := Unit) (fun s => slices_IndexFunc_sint_s1 p0 p1 s) (fun s g => [(0, .slice a_p0 p0.length c_p0), (1, p1v), (4, .int .i64 0), (7, .int .i64 (p0.length : Int)), (8, .int .i64 s)]) (fun s g => St w0 m m []) (fun s g => True) FUEL 0 () x2 hx3 trivial ⟨rfl, rfl, rfl, rfl, rfl, trivial⟩ (fun _ h => h) ?_
    rintro s_1 ⟨⟩ o6 fl7 hm5 - hn8 hd9
    have hm5 : slices_IndexFunc_sint_s1 p0 p1 s_1 = some o6 := hm5
    unfold slices_IndexFunc_sint_s1 at hm5
    refine WK.sub (e' := [(0, .slice a_p0 p0.length c_p0), (1, p1v), (4, .int .i64 0), (7, .int .i64 (p0.length : Int)), (8, .int .i64 s_1)]) ⟨rfl, rfl, rfl, rfl, rfl, trivial⟩ (WK.cls (C' := St w0 m m []) (fun _ h => h) ?_)
    refine WK_seq ?_
    refine WK_region ?_
    refine WO_pure tbok 1 [(0, .slice a_p0 p0.length c_p0), (1, p1v), (4, .int .i64 0), (7, .int .i64 (p0.length : Int)), (8, .int .i64 s_1), (9, .bool (decide (s_1 < (p0.length : Int))))] rfl ⟨rfl, rfl, rfl, rfl, rfl, rfl, trivial⟩ ?_
    refine WO_end ?_
    refine WK_seq ?_
    refine WK_cond (b := decide (s_1 < (p0.length : Int))) rfl (fun hb11 => ?_) (fun hb11 => ?_)
    · have hm5 := ifT hb11 hm5
      refine WK_skip ?_
      refine WK_seq ?_
      refine WK_block ?_
      refine WK_seq ?_
      refine WK_region ?_
      refine WO_pure tbok 2 [(0, .slice a_p0 p0.length c_p0), (1, p1v), (4, .int .i64 0), (5, .int .i64 s_1), (7, .int .i64 (p0.length : Int)), (8, .int .i64 s_1)] rfl ⟨rfl, rfl, rfl, rfl, rfl, rfl, trivial⟩ ?_
      refine WO_end ?_
      refine WK_seq ?_
      refine WK_region ?_
      refine WO_pure tbok 3 [(0, .slice a_p0 p0.length c_p0), (1, p1v), (4, .int .i64 0), (5, .int .i64 s_1), (7, .int .i64 (p0.length : Int)), (8, .int .i64 s_1), (11, p1v), (12, .slice a_p0 p0.length c_p0), (13, .int .i64 s_1)] rfl ⟨rfl, rfl, rfl, rfl, rfl, rfl, rfl, rfl, rfl, trivial⟩ ?_
      obtain ⟨v_2, hy12, hm5⟩ := bind_some hm5
      obtain ⟨hc13, hy12⟩ := ix_some hy12
      refine WO_index tbok rfl rfl rfl rfl rfl rfl rfl rfl (SlR.addr h_p0) hc13 ?_
      refine WO_loadE tbok rfl rfl rfl rfl (fun _ h => St.sat h) h_p0 hy12 rfl ?_
      obtain ⟨y_3, hc14, hm5⟩ := bind_some hm5
      obtain ⟨f0, first0, cap0, hf0, hcal0, hsp0⟩ := hp1 _ (Le.refl _) v_2 _ hc14
      refine WO_call0 (.bool y_3) rfl rfl trivial rfl rfl rfl rfl St_closed ⟨f0, first0, cap0, hf0, hcal0, fun w hw => ⟨m, hw.sat, hsp0⟩⟩ ?_
      refine WO_end ?_
      refine WK_cond (b := y_3) rfl (fun hb15 => ?_) (fun hb15 => ?_)
      · have hm5 := ifT hb15 hm5
        refine WK_seq ?_
        refine WK_region ?_
        refine WO_pure tbok 2 [(0, .slice a_p0 p0.length c_p0), (1, p1v), (4, .int .i64 s_1), (7, .int .i64 (p0.length : Int)), (8, .int .i64 s_1)] rfl ⟨rfl, rfl, rfl, rfl, rfl, trivial⟩ ?_
        refine WO_end ?_
        cases hm5
        have hq := hd9 _ rfl
        subst hq
        have hm : some _ = some _ := hm
        cases hm
        exact WK_ret (ret_out (L := []) (RLc_tmp rfl RLc_nil) (List.nil_sublist _) rfl)
      · have hm5 := ifF hb15 hm5
        refine WK_skip ?_
        refine WK_blk ?_
        refine WK_region ?_
        refine WO_pure tbok 2 [(0, .slice a_p0 p0.length c_p0), (1, p1v), (4, .int .i64 0), (7, .int .i64 (p0.length : Int)), (8, .int .i64 (w64 (s_1 + 1)))] rfl ⟨rfl, rfl, rfl, rfl, rfl, trivial⟩ ?_
        refine WO_end ?_
        cases hm5
        refine WK.sub ?_ (WK.cls (fun _ h => h) (hn8 _ () rfl trivial))
        exact ⟨rfl, rfl, rfl, rfl, rfl, trivial⟩
    · have hm5 := ifF hb11 hm5
      refine WK_exit rfl ?_
      cases hm5
      refine WK.sub ?_ (WK.cls (fun _ h => h) (hk4 ((), ()) (hd9 _ rfl)))
      exact ⟨rfl, trivial⟩
theorem slices_ContainsFunc_sint_walk {m : Mu} {p0 : List Int} {p1 : Int → Option Bool} {a_p0 : Option Addr} {q_p0 c_p0 : Nat} {p1v : Value} (h_p0 : SlR (FE (I1 .i64)) 1 m (.slice a_p0 q_p0 c_p0) p0) (hp1 : ∀ (m1 : Mu), Le m m1 → ∀ (u1 : Int), ∀ (r : Bool), p1 u1 = some r → SpecV Try.prog p1v [.int .i64 u1] m1 (fun v _ _ => v = .bool r)) {r : Bool} (hm : slices_ContainsFunc_sint p0 p1 = some r) :
    Go.E.Spec Try.prog 41 [.slice a_p0 q_p0 c_p0, p1v] m (fun v _ _ => v = .bool r) := by
  refine Spec_enter Try.func41 rfl rfl rfl (fun w0 => ?_)
  refine WK.sub (e' := [(0, .slice a_p0 q_p0 c_p0), (1, p1v)]) ⟨rfl, rfl, trivial⟩ ?_
  obtain rfl := SlR.qlen h_p0
  refine WK.sub (e' := [(0, .slice a_p0 p0.length c_p0), (1, p1v)]) ⟨rfl, rfl, trivial⟩ ?_
  unfold slices_ContainsFunc_sint at hm
  refine WK_seq ?_
  refine WK_region ?_
  refine WO_pure tbok 1 [(0, .slice a_p0 p0.length c_p0), (1, p1v), (4, .bool false)] rfl ⟨rfl, rfl, rfl, trivial⟩ ?_
  refine WO_end ?_
  refine WK_seq ?_
  refine WK_region ?_
  refine WO_pure tbok 2 [(4, .bool false), (5, .slice a_p0 p0.length c_p0), (6, p1v)] rfl ⟨rfl, rfl, rfl, trivial⟩ ?_
  obtain ⟨y_1, hc2, hm⟩ := bind_some hm
  refine WO_call0 (.int .i64 y_1) rfl rfl trivial rfl rfl rfl rfl St_closed ⟨51, #[], #[], rfl, callable_51, fun w hw => ⟨_, hw.sat, slices_IndexFunc_sint_walk h_p0 hp1 hc2⟩⟩ ?_
  refine WO_pure tbok 2 [(4, .bool (decide (0 ≤ y_1)))] rfl ⟨rfl, trivial⟩ ?_
  refine WO_end ?_
  cases hm
  exact WK_ret (ret_out (L := []) (RLc_tmp rfl RLc_nil) (List.nil_sublist _) rfl)
theorem raster_Check_c1_walk {m : Mu} {p0 : Int} {q0_0 : Int} {q0_1 : Int} {q0_2 : Int} {q0_3 : List Int} {a_q0_3 : Option Addr} {q_q0_3 c_q0_3 : Nat} {b_q0 : Nat} (hb_q0 : m b_q0 = some (Ent.obj ⟨b_q0, 24, [.int .i64 q0_0, .int .i64 q0_1, .int .i64 q0_2, .slice a_q0_3 q_q0_3 c_q0_3]⟩)) (h_q0_3 : SlR (FE (I1 .i64)) 1 m (.slice a_q0_3 q_q0_3 c_q0_3) q0_3) {r : Bool} (hm : raster_Check_c1 p0 q0_0 q0_1 q0_2 q0_3 = some r) :
    Go.E.Spec Try.prog 49 [.int .i64 p0, .pointer (some ⟨b_q0, 0, none⟩)] m (fun v _ _ => v = .bool r) := by
  refine Spec_enter Try.func49 rfl rfl rfl (fun w0 => ?_)
  refine WK.sub (e' := [(0, .int .i64 p0), (1, .pointer (some ⟨b_q0, 0, none⟩))]) ⟨rfl, rfl, trivial⟩ ?_
  obtain rfl := SlR.qlen h_q0_3
  refine WK.sub (e' := [(0, .int .i64 p0), (1, .pointer (some ⟨b_q0, 0, none⟩))]) ⟨rfl, rfl, trivial⟩ ?_
  unfold raster_Check_c1 at hm
  refine WK_seq ?_
  refine WK_region ?_
  refine WO_pure tbok 1 [(0, .int .i64 p0), (1, .pointer (some ⟨b_q0, 0, none⟩)), (3, .bool false)] rfl ⟨rfl, rfl, rfl, trivial⟩ ?_
  refine WO_end ?_
  refine WK_seq ?_
  refine WK_region ?_
  refine WO_pure tbok 3 [(0, .int .i64 p0), (1, .pointer (some ⟨b_q0, 0, none⟩)), (3, .bool false), (6, .bool (decide (p0 < 0)))] rfl ⟨rfl, rfl, rfl, rfl, trivial⟩ ?_
  refine WO_split (d := 6) (b := decide (p0 < 0)) rfl (fun hb2 => ?_) (fun hb2 => ?_)
  · have hm := ifT hb2 hm
    refine WO_pure tbok 6 [(3, .bool true)] rfl ⟨rfl, trivial⟩ ?_
    refine WO_end ?_
    cases hm
    exact WK_ret (ret_out (L := []) (RLc_tmp rfl RLc_nil) (List.nil_sublist _) rfl)
  · have hm := ifF hb2 hm
    refine WO_pure tbok 2 [(3, .bool false), (6, .bool false), (7, .int .i64 p0), (8, .pointer (some ⟨b_q0, 2, none⟩))] rfl ⟨rfl, rfl, rfl, rfl, trivial⟩ ?_
    refine WO_loadM tbok rfl rfl rfl rfl (fun _ h => St.sat h) hb_q0 rfl ?_
    refine WO_pure tbok 3 [(3, .bool (decide (q0_2 < p0)))] rfl ⟨rfl, trivial⟩ ?_
    refine WO_end ?_
    cases hm
    exact WK_ret (ret_out (L := []) (RLc_tmp rfl RLc_nil) (List.nil_sublist _) rfl)
theorem raster_Check_walk {m : Mu} {p0_0 : Int} {p0_1 : Int} {p0_2 : Int} {p0_3 : List Int} {a_p0_3 : Option Addr} {q_p0_3 c_p0_3 : Nat} (h_p0_3 : SlR (FE (I1 .i64)) 1 m (.slice a_p0_3 q_p0_3 c_p0_3) p0_3) {r : Int} (hm : raster_Check p0_0 p0_1 p0_2 p0_3 = some r) :
    Go.E.Spec Try.prog 33 [.agg #[.int .i64 p0_0, .int .i64 p0_1, .int .i64 p0_2, .slice a_p0_3 q_p0_3 c_p0_3]] m (fun v _ _ => v = .int .i64 r) := by
  refine Spec_enter Try.func33 rfl rfl rfl (fun w0 => ?_)
  refine WK.sub (e' := [(0, .agg #[.int .i64 p0_0, .int .i64 p0_1, .int .i64 p0_2, .slice a_p0_3 q_p0_3 c_p0_3])]) ⟨rfl, trivial⟩ ?_
  obtain rfl := SlR.qlen h_p0_3
  refine WK.sub (e' := [(0, .agg #[.int .i64 p0_0, .int .i64 p0_1, .int .i64 p0_2, .slice a_p0_3 p0_3.length c_p0_3])]) ⟨rfl, trivial⟩ ?_
  unfold raster_Check at hm
  refine WK_seq ?_
  refine WK_region ?_
  refine WO_box [.int .i64 p0_0, .int .i64 p0_1, .int .i64 p0_2, .slice a_p0_3 p0_3.length c_p0_3] rfl rfl trivial rfl rfl rfl (fun b2 => ?_)
  refine WO.cls (C' := St w0 m m [[⟨b2, 24, [.int .i64 p0_0, .int .i64 p0_1, .int .i64 p0_2, .slice a_p0_3 p0_3.length c_p0_3]⟩]]) (fun _ h => h) ?_
  refine WO_pure tbok 1 [(1, .pointer (some ⟨b2, 0, none⟩)), (2, .int .i64 0)] rfl ⟨rfl, rfl, trivial⟩ ?_
  refine WO_end ?_
  refine WK_seq ?_
  refine WK_seq ?_
  obtain ⟨s_1, hx3, hm⟩ := bind_some hm
  refine WK_meet [(1, .pointer (some ⟨b2, 0, none⟩)), (2, .int .i64 0), (34, .bool s_1)] (St w0 m m [[⟨b2, 24, [.int .i64 p0_0, .int .i64 p0_1, .int .i64 p0_2, .slice a_p0_3 p0_3.length c_p0_3]⟩]]) ?_ (fun hk4 => ?_)
  · refine WK_cond (b := s_1) rfl (fun hb5 => ?_) (fun hb5 => ?_)
    · have hm := ifT hb5 hm
      refine WK_seq ?_
      refine WK_region ?_
      refine WO_pure tbok 1 [(1, .pointer (some ⟨b2, 0, none⟩)), (2, .int .i64 1)] rfl ⟨rfl, rfl, trivial⟩ ?_
      refine WO_end ?_
      cases hm
      exact WK_ret (ret_out (L := []) (RLc_tmp rfl RLc_nil) (List.nil_sublist _) rfl)
    · have hm := ifF hb5 hm
      refine WK_skip ?_
      refine WK_seq ?_
      refine WK_seq ?_
      refine WK_region ?_
      refine WO_pure tbok 1 [(1, .pointer (some ⟨b2, 0, none⟩)), (2, .int .i64 0), (35, .pointer (some ⟨b2, 3, none⟩))] rfl ⟨rfl, rfl, rfl, trivial⟩ ?_
      refine WO_loadB tbok 0 rfl rfl rfl rfl (fun _ h => h) rfl rfl ?_
      refine WO_pure tbok 1 [(2, .int .i64 0), (36, .slice a_p0_3 p0_3.length c_p0_3), (37, .func (.func 49) #[] #[.pointer (some ⟨b2, 0, none⟩)])] rfl ⟨rfl, rfl, rfl, trivial⟩ ?_
      obtain ⟨y_3, hc6, hm⟩ := bind_some hm
      refine WO_call0 (.bool y_3) rfl rfl trivial rfl rfl rfl rfl St_closed ⟨41, #[], #[], rfl, callable_41, fun w hw => ⟨_, hw.satV, slices_ContainsFunc_sint_walk (h_p0_3.mono (mono_FE _) hw.leV) (fun m1 hm1 z_2 _ h => specV_cap callable_49 (raster_Check_c1_walk (hm1 _ _ (hw.memV (i := 0) rfl (List.mem_singleton.2 rfl))) ((h_p0_3.mono (mono_FE _) hw.leV).mono (mono_FE _) hm1) h)) hc6⟩⟩ ?_
      refine WO_end ?_
      refine WK_cond (b := y_3) rfl (fun hb7 => ?_) (fun hb7 => ?_)
      · have hm := ifT hb7 hm
        refine WK_seq ?_
        refine WK_region ?_
        refine WO_pure tbok 1 [(2, .int .i64 1)] rfl ⟨rfl, trivial⟩ ?_
        refine WO_end ?_
        cases hm
        exact WK_ret (ret_out (L := []) (RLc_tmp rfl RLc_nil) (List.nil_sublist _) rfl)
      · have hm := ifF hb7 hm
        refine WK_skip ?_
        refine WK_seq ?_
        refine WK_region ?_
        refine WO_pure tbok 1 [(2, .int .i64 0)] rfl ⟨rfl, trivial⟩ ?_
        refine WO_end ?_
        cases hm
        exact WK_ret (ret_out (L := []) (RLc_tmp rfl RLc_nil) (List.nil_sublist _) rfl)
  · refine WK_region ?_
    refine WO_pure tbok 1 [(1, .pointer (some ⟨b2, 0, none⟩)), (2, .int .i64 0), (3, .pointer (some ⟨b2, 0, none⟩))] rfl ⟨rfl, rfl, rfl, trivial⟩ ?_
    refine WO_loadB tbok 0 rfl rfl rfl rfl (fun _ h => h) rfl rfl ?_
    refine WO_pure tbok 1 [(1, .pointer (some ⟨b2, 0, none⟩)), (2, .int .i64 0), (4, .int .i64 p0_0), (5, .pointer (some ⟨b2, 1, none⟩))] rfl ⟨rfl, rfl, rfl, rfl, trivial⟩ ?_
    refine WO_loadB tbok 0 rfl rfl rfl rfl (fun _ h => h) rfl rfl ?_
    refine WO_pure tbok 1 [(1, .pointer (some ⟨b2, 0, none⟩)), (2, .int .i64 0), (4, .int .i64 p0_0), (6, .int .i64 p0_1), (7, .pointer (some ⟨b2, 2, none⟩))] rfl ⟨rfl, rfl, rfl, rfl, rfl, trivial⟩ ?_
    refine WO_loadB tbok 0 rfl rfl rfl rfl (fun _ h => h) rfl rfl ?_
    refine WO_pure tbok 3 [(1, .pointer (some ⟨b2, 0, none⟩)), (2, .int .i64 0), (11, .bool (decide ((if p0_2 < (if p0_1 < p0_0 then p0_1 else p0_0) then p0_2 else (if p0_1 < p0_0 then p0_1 else p0_0)) < 1)))] rfl ⟨rfl, rfl, rfl, trivial⟩ ?_
    refine WO_split (d := 11) (b := decide ((if p0_2 < (if p0_1 < p0_0 then p0_1 else p0_0) then p0_2 else (if p0_1 < p0_0 then p0_1 else p0_0)) < 1)) rfl (fun hb8 => ?_) (fun hb8 => ?_)
    · have hx3 := ifT hb8 hx3
      refine WO_pure tbok 23 [(1, .pointer (some ⟨b2, 0, none⟩)), (2, .int .i64 0), (34, .bool true)] rfl ⟨rfl, rfl, rfl, trivial⟩ ?_
      refine WO_end ?_
      cases hx3
      refine WK.sub ?_ (WK.cls (fun _ h => h) hk4)
      exact ⟨rfl, rfl, rfl, trivial⟩
    · have hx3 := ifF hb8 hx3
      refine WO_pure tbok 1 [(1, .pointer (some ⟨b2, 0, none⟩)), (2, .int .i64 0), (11, .bool false), (12, .pointer (some ⟨b2, 0, none⟩))] rfl ⟨rfl, rfl, rfl, rfl, trivial⟩ ?_
      refine WO_loadB tbok 0 rfl rfl rfl rfl (fun _ h => h) rfl rfl ?_
      refine WO_pure tbok 1 [(1, .pointer (some ⟨b2, 0, none⟩)), (2, .int .i64 0), (11, .bool false), (13, .int .i64 p0_0), (14, .pointer (some ⟨b2, 1, none⟩))] rfl ⟨rfl, rfl, rfl, rfl, rfl, trivial⟩ ?_
      refine WO_loadB tbok 0 rfl rfl rfl rfl (fun _ h => h) rfl rfl ?_
      refine WO_pure tbok 4 [(1, .pointer (some ⟨b2, 0, none⟩)), (2, .int .i64 0), (19, .bool (decide (64 < (if p0_0 < p0_1 then p0_1 else p0_0))))] rfl ⟨rfl, rfl, rfl, trivial⟩ ?_
      refine WO_split (d := 19) (b := decide (64 < (if p0_0 < p0_1 then p0_1 else p0_0))) rfl (fun hb9 => ?_) (fun hb9 => ?_)
      · have hx3 := ifT hb9 hx3
        refine WO_pure tbok 15 [(1, .pointer (some ⟨b2, 0, none⟩)), (2, .int .i64 0), (34, .bool true)] rfl ⟨rfl, rfl, rfl, trivial⟩ ?_
        refine WO_end ?_
        cases hx3
        refine WK.sub ?_ (WK.cls (fun _ h => h) hk4)
        exact ⟨rfl, rfl, rfl, trivial⟩
      · have hx3 := ifF hb9 hx3
        refine WO_pure tbok 1 [(1, .pointer (some ⟨b2, 0, none⟩)), (2, .int .i64 0), (19, .bool false), (20, .pointer (some ⟨b2, 2, none⟩))] rfl ⟨rfl, rfl, rfl, rfl, trivial⟩ ?_
        refine WO_loadB tbok 0 rfl rfl rfl rfl (fun _ h => h) rfl rfl ?_
        refine WO_pure tbok 3 [(1, .pointer (some ⟨b2, 0, none⟩)), (2, .int .i64 0), (24, .bool (decide (65535 < p0_2)))] rfl ⟨rfl, rfl, rfl, trivial⟩ ?_
        refine WO_split (d := 24) (b := decide (65535 < p0_2)) rfl (fun hb10 => ?_) (fun hb10 => ?_)
        · have hx3 := ifT hb10 hx3
          refine WO_pure tbok 10 [(1, .pointer (some ⟨b2, 0, none⟩)), (2, .int .i64 0), (34, .bool true)] rfl ⟨rfl, rfl, rfl, trivial⟩ ?_
          refine WO_end ?_
          cases hx3
          refine WK.sub ?_ (WK.cls (fun _ h => h) hk4)
          exact ⟨rfl, rfl, rfl, trivial⟩
        · have hx3 := ifF hb10 hx3
          refine WO_pure tbok 1 [(1, .pointer (some ⟨b2, 0, none⟩)), (2, .int .i64 0), (24, .bool false), (25, .pointer (some ⟨b2, 3, none⟩))] rfl ⟨rfl, rfl, rfl, rfl, trivial⟩ ?_
          refine WO_loadB tbok 0 rfl rfl rfl rfl (fun _ h => h) rfl rfl ?_
          refine WO_pure tbok 2 [(1, .pointer (some ⟨b2, 0, none⟩)), (2, .int .i64 0), (24, .bool false), (27, .int .i64 (p0_3.length : Int)), (28, .pointer (some ⟨b2, 0, none⟩))] rfl ⟨rfl, rfl, rfl, rfl, rfl, trivial⟩ ?_
          refine WO_loadB tbok 0 rfl rfl rfl rfl (fun _ h => h) rfl rfl ?_
          refine WO_pure tbok 1 [(1, .pointer (some ⟨b2, 0, none⟩)), (2, .int .i64 0), (24, .bool false), (27, .int .i64 (p0_3.length : Int)), (29, .int .i64 p0_0), (30, .pointer (some ⟨b2, 1, none⟩))] rfl ⟨rfl, rfl, rfl, rfl, rfl, rfl, trivial⟩ ?_
          refine WO_loadB tbok 0 rfl rfl rfl rfl (fun _ h => h) rfl rfl ?_
          refine WO_pure tbok 3 [(1, .pointer (some ⟨b2, 0, none⟩)), (2, .int .i64 0), (34, .bool ((p0_3.length : Int) != (w64 (p0_0 * p0_1))))] rfl ⟨rfl, rfl, rfl, trivial⟩ ?_
          refine WO_end ?_
          cases hx3
          refine WK.sub ?_ (WK.cls (fun _ h => h) hk4)
          exact ⟨rfl, rfl, rfl, trivial⟩
def census_transform_Q (r : List Int) : Value → List Ent → Prop := fun v L => ∃ (a0 : Option Addr) (q0 c0 : Nat), v = .slice a0 q0 c0 ∧ OwnE 3 1 (I1 .i64) (.slice a0 q0 c0) r L
theorem census_transform_walk {m : Mu} {p0_0 : Int} {p0_1 : Int} {p0_2 : Int} {p0_3 : List Int} {p1 : Int} {a_p0_3 : Option Addr} {q_p0_3 c_p0_3 : Nat} (h_p0_3 : SlR (FE (I1 .i64)) 1 m (.slice a_p0_3 q_p0_3 c_p0_3) p0_3) {r : List Int} (hm : census_transform p0_0 p0_1 p0_2 p0_3 p1 = some r) :
    Go.E.Spec Try.prog 34 [.agg #[.int .i64 p0_0, .int .i64 p0_1, .int .i64 p0_2, .slice a_p0_3 q_p0_3 c_p0_3], .int .i64 p1] m (fun v _ L => census_transform_Q r v L) := by
  refine Spec_enter Try.func34 rfl rfl rfl (fun w0 => ?_)
  refine WK.sub (e' := [(0, .agg #[.int .i64 p0_0, .int .i64 p0_1, .int .i64 p0_2, .slice a_p0_3 q_p0_3 c_p0_3]), (1, .int .i64 p1)]) ⟨rfl, rfl, trivial⟩ ?_
  obtain rfl := SlR.qlen h_p0_3
  refine WK.sub (e' := [(0, .agg #[.int .i64 p0_0, .int .i64 p0_1, .int .i64 p0_2, .slice a_p0_3 p0_3.length c_p0_3]), (1, .int .i64 p1)]) ⟨rfl, rfl, trivial⟩ ?_
  unfold census_transform at hm
  refine WK_seq ?_
  refine WK_region ?_
  refine WO_box [.int .i64 p0_0, .int .i64 p0_1, .int .i64 p0_2, .slice a_p0_3 p0_3.length c_p0_3] rfl rfl trivial rfl rfl rfl (fun b2 => ?_)
  refine WO.cls (C' := St w0 m m [[⟨b2, 24, [.int .i64 p0_0, .int .i64 p0_1, .int .i64 p0_2, .slice a_p0_3 p0_3.length c_p0_3]⟩]]) (fun _ h => h) ?_
  refine WO_pure tbok 1 [(1, .int .i64 p1), (2, .pointer (some ⟨b2, 0, none⟩)), (4, .slice none 0 0)] rfl ⟨rfl, rfl, rfl, trivial⟩ ?_
  refine WO_end ?_
  refine WK_seq ?_
  refine WK_region ?_
  refine WO_pure tbok 1 [(1, .int .i64 p1), (2, .pointer (some ⟨b2, 0, none⟩)), (4, .slice none 0 0), (5, .slice none 0 0)] rfl ⟨rfl, rfl, rfl, rfl, trivial⟩ ?_
  refine WO_end ?_
  refine WK_seq ?_
  refine WK_seq ?_
  refine WK_region ?_
  refine WO_pure tbok 1 [(1, .int .i64 p1), (2, .pointer (some ⟨b2, 0, none⟩)), (4, .slice none 0 0), (5, .slice none 0 0), (12, .pointer (some ⟨b2, 1, none⟩))] rfl ⟨rfl, rfl, rfl, rfl, rfl, trivial⟩ ?_
  refine WO_loadB tbok 0 rfl rfl rfl rfl (fun _ h => h) rfl rfl ?_
  refine WO_pure tbok 1 [(1, .int .i64 p1), (2, .pointer (some ⟨b2, 0, none⟩)), (4, .slice none 0 0), (5, .slice none 0 0), (13, .int .i64 p0_1), (14, .int .i64 0)] rfl ⟨rfl, rfl, rfl, rfl, rfl, rfl, trivial⟩ ?_
  refine WO_end ?_
  refine WK_pad ?_
  obtain ⟨x14, hx15, hm⟩ := bind_some hm
  refine WK_join (β := (List Int) × (Option Addr × Nat × Nat × List Ent)) (fun p => p.1 = x14 ∧ OwnE 3 1 (I1 .i64) (.slice p.2.1 p.2.2.1 p.2.2.2.1) p.1 p.2.2.2.2) (fun p => [(4, .slice none 0 0), (5, .slice p.2.1 p.2.2.1 p.2.2.2.1)]) (fun p => St w0 m m [[⟨b2, 24, [.int .i64 p0_0, .int .i64 p0_1, .int .i64 p0_2, .slice a_p0_3 p0_3.length c_p0_3]⟩], p.2.2.2.2]) ?_ (fun hk16 => ?_)
  · rintro ⟨l_3, ⟨a11, q12, c13, L10⟩⟩ ⟨hq22, hL10⟩
    subst hq22
    have hqq : q12 = l_3.length := OwnE.qlen hL10
    subst hqq
    refine WK.sub (e' := [(4, .slice none 0 0), (5, .slice a11 ((l_3).length) c13)]) ⟨rfl, rfl, trivial⟩ (WK.cls (C' := St w0 m m [[⟨b2, 24, [.int .i64 p0_0, .int .i64 p0_1, .int .i64 p0_2, .slice a_p0_3 p0_3.length c_p0_3]⟩], L10]) (fun _ h => h) ?_)
    refine WK_seq ?_
    refine WK_region ?_
    refine WO_pure tbok 2 [(4, .slice a11 ((l_3).length) c13)] rfl ⟨rfl, trivial⟩ ?_
    refine WO_end ?_
    cases hm
    exact WK_ret (ret_out (L := L10) (RLc_tmp rfl RLc_nil) (seg_sub 1 rfl) ⟨a11, _, c13, rfl, hL10⟩)
  · refine WK_block ?_
    refine WK_loop (S := List Int × Int) (G := Option Addr × Nat × Nat × List Ent) (fun s => census_transform_s1 p0_0 p0_1 p0_3 p1 s.1 s.2) (fun s g => [(1, .int .i64 p1), (2, .pointer (some ⟨b2, 0, none⟩)), (4, .slice none 0 0), (5, .slice g.1 g.2.1 g.2.2.1), (13, .int .i64 p0_1), (14, .int .i64 s.2)]) (fun s g => St w0 m m [[⟨b2, 24, [.int .i64 p0_0, .int .i64 p0_1, .int .i64 p0_2, .slice a_p0_3 p0_3.length c_p0_3]⟩], g.2.2.2]) (fun s g => OwnE 3 1 (I1 .i64) (.slice g.1 g.2.1 g.2.2.1) s.1 g.2.2.2) FUEL (([] : List Int), 0) (none, 0, 0, []) x14 hx15 (OwnE.nil (T := 3) (k := 1) (E := (I1 .i64)) none) ⟨rfl, rfl, rfl, rfl, rfl, rfl, trivial⟩ (fun _ h => h) ?_
    rintro ⟨l_1, s_2⟩ ⟨a6, q7, c8, L5⟩ o18 fl19 hm17 hL5 hn20 hd21
    have hm17 : census_transform_s1 p0_0 p0_1 p0_3 p1 l_1 s_2 = some o18 := hm17
    unfold census_transform_s1 at hm17
    have hqq : q7 = l_1.length := OwnE.qlen hL5
    subst hqq
    refine WK.sub (e' := [(1, .int .i64 p1), (2, .pointer (some ⟨b2, 0, none⟩)), (4, .slice none 0 0), (5, .slice a6 ((l_1).length) c8), (13, .int .i64 p0_1), (14, .int .i64 s_2)]) ⟨rfl, rfl, rfl, rfl, rfl, rfl, trivial⟩ (WK.cls (C' := St w0 m m [[⟨b2, 24, [.int .i64 p0_0, .int .i64 p0_1, .int .i64 p0_2, .slice a_p0_3 p0_3.length c_p0_3]⟩], L5]) (fun _ h => h) ?_)
    refine WK_seq ?_
    refine WK_region ?_
    refine WO_pure tbok 1 [(1, .int .i64 p1), (2, .pointer (some ⟨b2, 0, none⟩)), (4, .slice none 0 0), (5, .slice a6 ((l_1).length) c8), (13, .int .i64 p0_1), (14, .int .i64 s_2), (15, .bool (decide (s_2 < p0_1)))] rfl ⟨rfl, rfl, rfl, rfl, rfl, rfl, rfl, trivial⟩ ?_
    refine WO_end ?_
    refine WK_seq ?_
    refine WK_cond (b := decide (s_2 < p0_1)) rfl (fun hb23 => ?_) (fun hb23 => ?_)
    · have hm17 := ifT hb23 hm17
      refine WK_skip ?_
      refine WK_seq ?_
      refine WK_block ?_
      refine WK_seq ?_
      refine WK_region ?_
      refine WO_pure tbok 2 [(1, .int .i64 p1), (2, .pointer (some ⟨b2, 0, none⟩)), (4, .slice none 0 0), (5, .slice a6 ((l_1).length) c8), (6, .int .i64 s_2), (13, .int .i64 p0_1), (14, .int .i64 s_2)] rfl ⟨rfl, rfl, rfl, rfl, rfl, rfl, rfl, trivial⟩ ?_
      refine WO_end ?_
      refine WK_seq ?_
      refine WK_region ?_
      refine WO_pure tbok 1 [(1, .int .i64 p1), (2, .pointer (some ⟨b2, 0, none⟩)), (4, .slice none 0 0), (5, .slice a6 ((l_1).length) c8), (6, .int .i64 s_2), (13, .int .i64 p0_1), (14, .int .i64 s_2), (17, .pointer (some ⟨b2, 0, none⟩))] rfl ⟨rfl, rfl, rfl, rfl, rfl, rfl, rfl, rfl, trivial⟩ ?_
      refine WO_loadB tbok 0 rfl rfl rfl rfl (fun _ h => h) rfl rfl ?_
      refine WO_pure tbok 1 [(1, .int .i64 p1), (2, .pointer (some ⟨b2, 0, none⟩)), (4, .slice none 0 0), (5, .slice a6 ((l_1).length) c8), (6, .int .i64 s_2), (13, .int .i64 p0_1), (14, .int .i64 s_2), (18, .int .i64 p0_0), (19, .int .i64 0)] rfl ⟨rfl, rfl, rfl, rfl, rfl, rfl, rfl, rfl, rfl, trivial⟩ ?_
      refine WO_end ?_
      obtain ⟨x34, hx35, hm17⟩ := bind_some hm17
      refine WK_join (β := (List Int) × (Option Addr × Nat × Nat × List Ent)) (fun p => p.1 = x34 ∧ OwnE 3 1 (I1 .i64) (.slice p.2.1 p.2.2.1 p.2.2.2.1) p.1 p.2.2.2.2) (fun p => [(1, .int .i64 p1), (2, .pointer (some ⟨b2, 0, none⟩)), (4, .slice none 0 0), (5, .slice p.2.1 p.2.2.1 p.2.2.2.1), (13, .int .i64 p0_1), (14, .int .i64 s_2)]) (fun p => St w0 m m [[⟨b2, 24, [.int .i64 p0_0, .int .i64 p0_1, .int .i64 p0_2, .slice a_p0_3 p0_3.length c_p0_3]⟩], p.2.2.2.2]) ?_ (fun hk36 => ?_)
      · rintro ⟨l_6, ⟨a31, q32, c33, L30⟩⟩ ⟨hq42, hL30⟩
        subst hq42
        have hqq : q32 = l_6.length := OwnE.qlen hL30
        subst hqq
        refine WK.sub (e' := [(1, .int .i64 p1), (2, .pointer (some ⟨b2, 0, none⟩)), (4, .slice none 0 0), (5, .slice a31 ((l_6).length) c33), (13, .int .i64 p0_1), (14, .int .i64 s_2)]) ⟨rfl, rfl, rfl, rfl, rfl, rfl, trivial⟩ (WK.cls (C' := St w0 m m [[⟨b2, 24, [.int .i64 p0_0, .int .i64 p0_1, .int .i64 p0_2, .slice a_p0_3 p0_3.length c_p0_3]⟩], L30]) (fun _ h => h) ?_)
        refine WK_blk ?_
        refine WK_region ?_
        refine WO_pure tbok 2 [(1, .int .i64 p1), (2, .pointer (some ⟨b2, 0, none⟩)), (4, .slice none 0 0), (5, .slice a31 ((l_6).length) c33), (13, .int .i64 p0_1), (14, .int .i64 (w64 (s_2 + 1)))] rfl ⟨rfl, rfl, rfl, rfl, rfl, rfl, trivial⟩ ?_
        refine WO_end ?_
        cases hm17
        refine WK.sub ?_ (WK.cls (fun _ h => h) (hn20 _ (a31, _, c33, L30) rfl hL30))
        exact ⟨rfl, rfl, rfl, rfl, rfl, rfl, trivial⟩
      · refine WK_block ?_
        refine WK_loop (S := List Int × Int) (G := Option Addr × Nat × Nat × List Ent) (fun s => census_transform_s2 p0_0 p0_1 p0_3 p1 s_2 s.1 s.2) (fun s g => [(1, .int .i64 p1), (2, .pointer (some ⟨b2, 0, none⟩)), (4, .slice none 0 0), (5, .slice g.1 g.2.1 g.2.2.1), (6, .int .i64 s_2), (13, .int .i64 p0_1), (14, .int .i64 s_2), (18, .int .i64 p0_0), (19, .int .i64 s.2)]) (fun s g => St w0 m m [[⟨b2, 24, [.int .i64 p0_0, .int .i64 p0_1, .int .i64 p0_2, .slice a_p0_3 p0_3.length c_p0_3]⟩], g.2.2.2]) (fun s g => OwnE 3 1 (I1 .i64) (.slice g.1 g.2.1 g.2.2.1) s.1 g.2.2.2) FUEL (l_1, 0) (a6, _, c8, L5) x34 hx35 hL5 ⟨rfl, rfl, rfl, rfl, rfl, rfl, rfl, rfl, rfl, trivial⟩ (fun _ h => h) ?_
        rintro ⟨l_4, s_5⟩ ⟨a26, q27, c28, L25⟩ o38 fl39 hm37 hL25 hn40 hd41
        have hm37 : census_transform_s2 p0_0 p0_1 p0_3 p1 s_2 l_4 s_5 = some o38 := hm37
        unfold census_transform_s2 at hm37
        have hqq : q27 = l_4.length := OwnE.qlen hL25
        subst hqq
        refine WK.sub (e' := [(1, .int .i64 p1), (2, .pointer (some ⟨b2, 0, none⟩)), (4, .slice none 0 0), (5, .slice a26 ((l_4).length) c28), (6, .int .i64 s_2), (13, .int .i64 p0_1), (14, .int .i64 s_2), (18, .int .i64 p0_0), (19, .int .i64 s_5)]) ⟨rfl, rfl, rfl, rfl, rfl, rfl, rfl, rfl, rfl, trivial⟩ (WK.cls (C' := St w0 m m [[⟨b2, 24, [.int .i64 p0_0, .int .i64 p0_1, .int .i64 p0_2, .slice a_p0_3 p0_3.length c_p0_3]⟩], L25]) (fun _ h => h) ?_)
        refine WK_seq ?_
        refine WK_region ?_
        refine WO_pure tbok 1 [(1, .int .i64 p1), (2, .pointer (some ⟨b2, 0, none⟩)), (4, .slice none 0 0), (5, .slice a26 ((l_4).length) c28), (6, .int .i64 s_2), (13, .int .i64 p0_1), (14, .int .i64 s_2), (18, .int .i64 p0_0), (19, .int .i64 s_5), (20, .bool (decide (s_5 < p0_0)))] rfl ⟨rfl, rfl, rfl, rfl, rfl, rfl, rfl, rfl, rfl, rfl, trivial⟩ ?_
        refine WO_end ?_
        refine WK_seq ?_
        refine WK_cond (b := decide (s_5 < p0_0)) rfl (fun hb43 => ?_) (fun hb43 => ?_)
        · have hm37 := ifT hb43 hm37
          refine WK_skip ?_
          refine WK_seq ?_
          refine WK_block ?_
          refine WK_seq ?_
          refine WK_region ?_
          refine WO_pure tbok 2 [(1, .int .i64 p1), (2, .pointer (some ⟨b2, 0, none⟩)), (4, .slice none 0 0), (5, .slice a26 ((l_4).length) c28), (6, .int .i64 s_2), (7, .int .i64 s_5), (13, .int .i64 p0_1), (14, .int .i64 s_2), (18, .int .i64 p0_0), (19, .int .i64 s_5)] rfl ⟨rfl, rfl, rfl, rfl, rfl, rfl, rfl, rfl, rfl, rfl, trivial⟩ ?_
          refine WO_end ?_
          refine WK_seq ?_
          refine WK_region ?_
          refine WO_pure tbok 2 [(1, .int .i64 p1), (2, .pointer (some ⟨b2, 0, none⟩)), (4, .slice none 0 0), (5, .slice a26 ((l_4).length) c28), (6, .int .i64 s_2), (7, .int .i64 s_5), (8, .int .i64 0), (9, .int .i64 0), (13, .int .i64 p0_1), (14, .int .i64 s_2), (18, .int .i64 p0_0), (19, .int .i64 s_5)] rfl ⟨rfl, rfl, rfl, rfl, rfl, rfl, rfl, rfl, rfl, rfl, rfl, rfl, trivial⟩ ?_
          refine WO_end ?_
          refine WK_seq ?_
          refine WK_seq ?_
          refine WK_region ?_
          refine WO_pure tbok 4 [(1, .int .i64 p1), (2, .pointer (some ⟨b2, 0, none⟩)), (4, .slice none 0 0), (5, .slice a26 ((l_4).length) c28), (6, .int .i64 s_2), (7, .int .i64 s_5), (8, .int .i64 0), (9, .int .i64 0), (10, .int .i64 (w64 (s_2 - p1))), (13, .int .i64 p0_1), (14, .int .i64 s_2), (18, .int .i64 p0_0), (19, .int .i64 s_5)] rfl ⟨rfl, rfl, rfl, rfl, rfl, rfl, rfl, rfl, rfl, rfl, rfl, rfl, rfl, trivial⟩ ?_
          refine WO_end ?_
          obtain ⟨x44, hx45, hm37⟩ := bind_some hm37
          refine WK_join (β := Int × Unit) (fun p => p.1 = x44) (fun p => [(1, .int .i64 p1), (2, .pointer (some ⟨b2, 0, none⟩)), (4, .slice none 0 0), (5, .slice a26 ((l_4).length) c28), (6, .int .i64 s_2), (8, .int .i64 p.1), (13, .int .i64 p0_1), (14, .int .i64 s_2), (18, .int .i64 p0_0), (19, .int .i64 s_5)]) (fun p => St w0 m m [[⟨b2, 24, [.int .i64 p0_0, .int .i64 p0_1, .int .i64 p0_2, .slice a_p0_3 p0_3.length c_p0_3]⟩], L25]) ?_ (fun hk46 => ?_)
          · rintro ⟨s_10, ⟨⟩⟩ hq52
            subst hq52
            refine WK.sub (e' := [(1, .int .i64 p1), (2, .pointer (some ⟨b2, 0, none⟩)), (4, .slice none 0 0), (5, .slice a26 ((l_4).length) c28), (6, .int .i64 s_2), (8, .int .i64 s_10), (13, .int .i64 p0_1), (14, .int .i64 s_2), (18, .int .i64 p0_0), (19, .int .i64 s_5)]) ⟨rfl, rfl, rfl, rfl, rfl, rfl, rfl, rfl, rfl, rfl, trivial⟩ (WK.cls (C' := St w0 m m [[⟨b2, 24, [.int .i64 p0_0, .int .i64 p0_1, .int .i64 p0_2, .slice a_p0_3 p0_3.length c_p0_3]⟩], L25]) (fun _ h => h) ?_)
            refine WK_region ?_
            refine WO_pure tbok 2 [(1, .int .i64 p1), (2, .pointer (some ⟨b2, 0, none⟩)), (4, .slice none 0 0), (5, .slice a26 ((l_4).length) c28), (6, .int .i64 s_2), (13, .int .i64 p0_1), (14, .int .i64 s_2), (18, .int .i64 p0_0), (19, .int .i64 s_5), (97, .slice a26 ((l_4).length) c28), (98, .int .i64 s_10)] rfl ⟨rfl, rfl, rfl, rfl, rfl, rfl, rfl, rfl, rfl, rfl, rfl, trivial⟩ ?_
            refine WO_bslice (E := (I1 .i64)) tbok (fun _ => rfl) (by decide) [.int .i64 s_10] ([s_10] : List Int) rfl rfl trivial rfl rfl rfl rfl rfl rfl rfl rfl rfl rfl rfl rfl (fun b53 hb53 => ?_)
            refine WO.cls (C' := St w0 m m [[⟨b2, 24, [.int .i64 p0_0, .int .i64 p0_1, .int .i64 p0_2, .slice a_p0_3 p0_3.length c_p0_3]⟩], L25, [⟨b53, 3, ([s_10] : List Int).flatMap (I1 .i64)⟩]]) (fun _ h => h) ?_
            obtain ⟨hc55, hm37⟩ := chk_some hm37
            refine WO_append (E := (I1 .i64)) tbok (fun _ => rfl) 1 ([s_10] : List Int) (fun _ _ => rfl) rfl rfl rfl rfl rfl rfl rfl rfl rfl rfl rfl rfl hL25 rfl (src_seg (j := 2) rfl) (ap_ok (by decide) hc55) (ap_max hc55) (fun a56 c57 L58 hL58 => ?_)
            refine WO.cls (C' := St w0 m m [[⟨b2, 24, [.int .i64 p0_0, .int .i64 p0_1, .int .i64 p0_2, .slice a_p0_3 p0_3.length c_p0_3]⟩], L58, [⟨b53, 3, ([s_10] : List Int).flatMap (I1 .i64)⟩]]) (fun _ h => h) ?_
            refine WO_pure tbok 1 [(1, .int .i64 p1), (2, .pointer (some ⟨b2, 0, none⟩)), (4, .slice none 0 0), (5, .slice a56 ((l_4 ++ ([s_10] : List Int)).length) c57), (6, .int .i64 s_2), (13, .int .i64 p0_1), (14, .int .i64 s_2), (18, .int .i64 p0_0), (19, .int .i64 s_5)] rfl ⟨rfl, rfl, rfl, rfl, rfl, rfl, rfl, rfl, rfl, trivial⟩ ?_
            refine WO_end ?_
            refine WK_blk ?_
            refine WK_region ?_
            refine WO_pure tbok 2 [(1, .int .i64 p1), (2, .pointer (some ⟨b2, 0, none⟩)), (4, .slice none 0 0), (5, .slice a56 ((l_4 ++ ([s_10] : List Int)).length) c57), (6, .int .i64 s_2), (13, .int .i64 p0_1), (14, .int .i64 s_2), (18, .int .i64 p0_0), (19, .int .i64 (w64 (s_5 + 1)))] rfl ⟨rfl, rfl, rfl, rfl, rfl, rfl, rfl, rfl, rfl, trivial⟩ ?_
            refine WO_end ?_
            cases hm37
            refine WK.sub ?_ (WK.cls (fun _ h => St.take 2 h) (hn40 _ (a56, (l_4 ++ ([s_10] : List Int)).length, c57, L58) rfl hL58))
            exact ⟨rfl, rfl, rfl, rfl, rfl, rfl, rfl, rfl, rfl, trivial⟩
          · refine WK_block ?_
            refine WK_loop (S := Int × Int × Int) (G := Unit) (fun s => census_transform_s3 p0_0 p0_1 p0_3 p1 s_2 s_5 s.1 s.2.1 s.2.2) (fun s g => [(1, .int .i64 p1), (2, .pointer (some ⟨b2, 0, none⟩)), (4, .slice none 0 0), (5, .slice a26 ((l_4).length) c28), (6, .int .i64 s_2), (7, .int .i64 s_5), (8, .int .i64 s.1), (9, .int .i64 s.2.1), (10, .int .i64 s.2.2), (13, .int .i64 p0_1), (14, .int .i64 s_2), (18, .int .i64 p0_0), (19, .int .i64 s_5)]) (fun s g => St w0 m m [[⟨b2, 24, [.int .i64 p0_0, .int .i64 p0_1, .int .i64 p0_2, .slice a_p0_3 p0_3.length c_p0_3]⟩], L25]) (fun s g => True) FUEL (0, 0, w64 (s_2 - p1)) () x44 hx45 trivial ⟨rfl, rfl, rfl, rfl, rfl, rfl, rfl, rfl, rfl, rfl, rfl, rfl, rfl, trivial⟩ (fun _ h => h) ?_
            rintro ⟨s_7, s_8, s_9⟩ ⟨⟩ o48 fl49 hm47 - hn50 hd51
            have hm47 : census_transform_s3 p0_0 p0_1 p0_3 p1 s_2 s_5 s_7 s_8 s_9 = some o48 := hm47
            unfold census_transform_s3 at hm47
            refine WK.sub (e' := [(1, .int .i64 p1), (2, .pointer (some ⟨b2, 0, none⟩)), (4, .slice none 0 0), (5, .slice a26 ((l_4).length) c28), (6, .int .i64 s_2), (7, .int .i64 s_5), (8, .int .i64 s_7), (9, .int .i64 s_8), (10, .int .i64 s_9), (13, .int .i64 p0_1), (14, .int .i64 s_2), (18, .int .i64 p0_0), (19, .int .i64 s_5)]) ⟨rfl, rfl, rfl, rfl, rfl, rfl, rfl, rfl, rfl, rfl, rfl, rfl, rfl, trivial⟩ (WK.cls (C' := St w0 m m [[⟨b2, 24, [.int .i64 p0_0, .int .i64 p0_1, .int .i64 p0_2, .slice a_p0_3 p0_3.length c_p0_3]⟩], L25]) (fun _ h => h) ?_)
            refine WK_seq ?_
            refine WK_seq ?_
            refine WK_region ?_
            refine WO_pure tbok 5 [(1, .int .i64 p1), (2, .pointer (some ⟨b2, 0, none⟩)), (4, .slice none 0 0), (5, .slice a26 ((l_4).length) c28), (6, .int .i64 s_2), (7, .int .i64 s_5), (8, .int .i64 s_7), (9, .int .i64 s_8), (10, .int .i64 s_9), (13, .int .i64 p0_1), (14, .int .i64 s_2), (18, .int .i64 p0_0), (19, .int .i64 s_5), (29, .bool (decide (s_9 ≤ (w64 (s_2 + p1)))))] rfl ⟨rfl, rfl, rfl, rfl, rfl, rfl, rfl, rfl, rfl, rfl, rfl, rfl, rfl, rfl, trivial⟩ ?_
            refine WO_end ?_
            refine WK_cond (b := decide (s_9 ≤ (w64 (s_2 + p1)))) rfl (fun hb60 => ?_) (fun hb60 => ?_)
            · have hm47 := ifT hb60 hm47
              refine WK_skip ?_
              refine WK_seq ?_
              refine WK_block ?_
              refine WK_seq ?_
              refine WK_region ?_
              refine WO_pure tbok 4 [(1, .int .i64 p1), (2, .pointer (some ⟨b2, 0, none⟩)), (4, .slice none 0 0), (5, .slice a26 ((l_4).length) c28), (6, .int .i64 s_2), (7, .int .i64 s_5), (8, .int .i64 s_7), (9, .int .i64 s_8), (10, .int .i64 s_9), (11, .int .i64 (w64 (s_5 - p1))), (13, .int .i64 p0_1), (14, .int .i64 s_2), (18, .int .i64 p0_0), (19, .int .i64 s_5)] rfl ⟨rfl, rfl, rfl, rfl, rfl, rfl, rfl, rfl, rfl, rfl, rfl, rfl, rfl, rfl, trivial⟩ ?_
              refine WO_end ?_
              obtain ⟨x61, hx62, hm47⟩ := bind_some hm47
              refine WK_join (β := (Int × Int) × Unit) (fun p => p.1 = x61) (fun p => [(1, .int .i64 p1), (2, .pointer (some ⟨b2, 0, none⟩)), (4, .slice none 0 0), (5, .slice a26 ((l_4).length) c28), (6, .int .i64 s_2), (7, .int .i64 s_5), (8, .int .i64 p.1.1), (9, .int .i64 p.1.2), (10, .int .i64 s_9), (13, .int .i64 p0_1), (14, .int .i64 s_2), (18, .int .i64 p0_0), (19, .int .i64 s_5)]) (fun p => St w0 m m [[⟨b2, 24, [.int .i64 p0_0, .int .i64 p0_1, .int .i64 p0_2, .slice a_p0_3 p0_3.length c_p0_3]⟩], L25]) ?_ (fun hk63 => ?_)
              · rintro ⟨⟨s_14, s_15⟩, ⟨⟩⟩ hq69
                subst hq69
                refine WK.sub (e' := [(1, .int .i64 p1), (2, .pointer (some ⟨b2, 0, none⟩)), (4, .slice none 0 0), (5, .slice a26 ((l_4).length) c28), (6, .int .i64 s_2), (7, .int .i64 s_5), (8, .int .i64 s_14), (9, .int .i64 s_15), (10, .int .i64 s_9), (13, .int .i64 p0_1), (14, .int .i64 s_2), (18, .int .i64 p0_0), (19, .int .i64 s_5)]) ⟨rfl, rfl, rfl, rfl, rfl, rfl, rfl, rfl, rfl, rfl, rfl, rfl, rfl, trivial⟩ (WK.cls (C' := St w0 m m [[⟨b2, 24, [.int .i64 p0_0, .int .i64 p0_1, .int .i64 p0_2, .slice a_p0_3 p0_3.length c_p0_3]⟩], L25]) (fun _ h => h) ?_)
                refine WK_blk ?_
                refine WK_region ?_
                refine WO_pure tbok 3 [(1, .int .i64 p1), (2, .pointer (some ⟨b2, 0, none⟩)), (4, .slice none 0 0), (5, .slice a26 ((l_4).length) c28), (6, .int .i64 s_2), (7, .int .i64 s_5), (8, .int .i64 s_14), (9, .int .i64 s_15), (10, .int .i64 (w64 (s_9 + 1))), (13, .int .i64 p0_1), (14, .int .i64 s_2), (18, .int .i64 p0_0), (19, .int .i64 s_5)] rfl ⟨rfl, rfl, rfl, rfl, rfl, rfl, rfl, rfl, rfl, rfl, rfl, rfl, rfl, trivial⟩ ?_
                refine WO_end ?_
                cases hm47
                refine WK.sub ?_ (WK.cls (fun _ h => h) (hn50 _ () rfl trivial))
                exact ⟨rfl, rfl, rfl, rfl, rfl, rfl, rfl, rfl, rfl, rfl, rfl, rfl, rfl, trivial⟩
              · refine WK_block ?_
                refine WK_loop (S := Int × Int × Int) (G := Unit) (fun s => census_transform_s4 p0_0 p0_1 p0_3 p1 s_2 s_5 s_9 s.1 s.2.1 s.2.2) (fun s g => [(1, .int .i64 p1), (2, .pointer (some ⟨b2, 0, none⟩)), (4, .slice none 0 0), (5, .slice a26 ((l_4).length) c28), (6, .int .i64 s_2), (7, .int .i64 s_5), (8, .int .i64 s.1), (9, .int .i64 s.2.1), (10, .int .i64 s_9), (11, .int .i64 s.2.2), (13, .int .i64 p0_1), (14, .int .i64 s_2), (18, .int .i64 p0_0), (19, .int .i64 s_5)]) (fun s g => St w0 m m [[⟨b2, 24, [.int .i64 p0_0, .int .i64 p0_1, .int .i64 p0_2, .slice a_p0_3 p0_3.length c_p0_3]⟩], L25]) (fun s g => True) FUEL (s_7, s_8, w64 (s_5 - p1)) () x61 hx62 trivial ⟨rfl, rfl, rfl, rfl, rfl, rfl, rfl, rfl, rfl, rfl, rfl, rfl, rfl, rfl, trivial⟩ (fun _ h => h) ?_
                rintro ⟨s_11, s_12, s_13⟩ ⟨⟩ o65 fl66 hm64 - hn67 hd68
                have hm64 : census_transform_s4 p0_0 p0_1 p0_3 p1 s_2 s_5 s_9 s_11 s_12 s_13 = some o65 := hm64
                unfold census_transform_s4 at hm64
                refine WK.sub (e' := [(1, .int .i64 p1), (2, .pointer (some ⟨b2, 0, none⟩)), (4, .slice none 0 0), (5, .slice a26 ((l_4).length) c28), (6, .int .i64 s_2), (7, .int .i64 s_5), (8, .int .i64 s_11), (9, .int .i64 s_12), (10, .int .i64 s_9), (11, .int .i64 s_13), (13, .int .i64 p0_1), (14, .int .i64 s_2), (18, .int .i64 p0_0), (19, .int .i64 s_5)]) ⟨rfl, rfl, rfl, rfl, rfl, rfl, rfl, rfl, rfl, rfl, rfl, rfl, rfl, rfl, trivial⟩ (WK.cls (C' := St w0 m m [[⟨b2, 24, [.int .i64 p0_0, .int .i64 p0_1, .int .i64 p0_2, .slice a_p0_3 p0_3.length c_p0_3]⟩], L25]) (fun _ h => h) ?_)
                refine WK_seq ?_
                refine WK_seq ?_
                refine WK_region ?_
                refine WO_pure tbok 5 [(1, .int .i64 p1), (2, .pointer (some ⟨b2, 0, none⟩)), (4, .slice none 0 0), (5, .slice a26 ((l_4).length) c28), (6, .int .i64 s_2), (7, .int .i64 s_5), (8, .int .i64 s_11), (9, .int .i64 s_12), (10, .int .i64 s_9), (11, .int .i64 s_13), (13, .int .i64 p0_1), (14, .int .i64 s_2), (18, .int .i64 p0_0), (19, .int .i64 s_5), (39, .bool (decide (s_13 ≤ (w64 (s_5 + p1)))))] rfl ⟨rfl, rfl, rfl, rfl, rfl, rfl, rfl, rfl, rfl, rfl, rfl, rfl, rfl, rfl, rfl, trivial⟩ ?_
                refine WO_end ?_
                refine WK_cond (b := decide (s_13 ≤ (w64 (s_5 + p1)))) rfl (fun hb70 => ?_) (fun hb70 => ?_)
                · have hm64 := ifT hb70 hm64
                  refine WK_skip ?_
                  refine WK_seq ?_
                  refine WK_block ?_
                  refine WK_seq ?_
                  refine WK_seq ?_
                  obtain ⟨s_16, hx71, hm64⟩ := bind_some hm64
                  refine WK_meet [(1, .int .i64 p1), (2, .pointer (some ⟨b2, 0, none⟩)), (4, .slice none 0 0), (5, .slice a26 ((l_4).length) c28), (6, .int .i64 s_2), (7, .int .i64 s_5), (8, .int .i64 s_11), (9, .int .i64 s_12), (10, .int .i64 s_9), (11, .int .i64 s_13), (13, .int .i64 p0_1), (14, .int .i64 s_2), (18, .int .i64 p0_0), (19, .int .i64 s_5), (49, .bool s_16)] (St w0 m m [[⟨b2, 24, [.int .i64 p0_0, .int .i64 p0_1, .int .i64 p0_2, .slice a_p0_3 p0_3.length c_p0_3]⟩], L25]) ?_ (fun hk72 => ?_)
                  · refine WK_cond (b := s_16) rfl (fun hb73 => ?_) (fun hb73 => ?_)
                    · have hm64 := ifT hb73 hm64
                      refine WK_exit rfl ?_
                      refine WK_region ?_
                      refine WO_pure tbok 3 [(1, .int .i64 p1), (2, .pointer (some ⟨b2, 0, none⟩)), (4, .slice none 0 0), (5, .slice a26 ((l_4).length) c28), (6, .int .i64 s_2), (7, .int .i64 s_5), (8, .int .i64 s_11), (9, .int .i64 s_12), (10, .int .i64 s_9), (11, .int .i64 (w64 (s_13 + 1))), (13, .int .i64 p0_1), (14, .int .i64 s_2), (18, .int .i64 p0_0), (19, .int .i64 s_5)] rfl ⟨rfl, rfl, rfl, rfl, rfl, rfl, rfl, rfl, rfl, rfl, rfl, rfl, rfl, rfl, trivial⟩ ?_
                      refine WO_end ?_
                      cases hm64
                      refine WK.sub ?_ (WK.cls (fun _ h => h) (hn67 _ () rfl trivial))
                      exact ⟨rfl, rfl, rfl, rfl, rfl, rfl, rfl, rfl, rfl, rfl, rfl, rfl, rfl, rfl, trivial⟩
                    · have hm64 := ifF hb73 hm64
                      refine WK_skip ?_
                      refine WK_seq ?_
                      refine WK_seq ?_
                      obtain ⟨s_17, hx74, hm64⟩ := bind_some hm64
                      refine WK_meet [(1, .int .i64 p1), (2, .pointer (some ⟨b2, 0, none⟩)), (4, .slice none 0 0), (5, .slice a26 ((l_4).length) c28), (6, .int .i64 s_2), (7, .int .i64 s_5), (8, .int .i64 s_11), (9, .int .i64 s_12), (10, .int .i64 s_9), (11, .int .i64 s_13), (13, .int .i64 p0_1), (14, .int .i64 s_2), (18, .int .i64 p0_0), (19, .int .i64 s_5), (90, .bool s_17)] (St w0 m m [[⟨b2, 24, [.int .i64 p0_0, .int .i64 p0_1, .int .i64 p0_2, .slice a_p0_3 p0_3.length c_p0_3]⟩], L25]) ?_ (fun hk75 => ?_)
                      · obtain ⟨s_18, hx76, hm64⟩ := bind_some hm64
                        refine WK_meet [(1, .int .i64 p1), (2, .pointer (some ⟨b2, 0, none⟩)), (4, .slice none 0 0), (5, .slice a26 ((l_4).length) c28), (6, .int .i64 s_2), (7, .int .i64 s_5), (8, .int .i64 s_18), (9, .int .i64 s_12), (10, .int .i64 s_9), (11, .int .i64 s_13), (13, .int .i64 p0_1), (14, .int .i64 s_2), (18, .int .i64 p0_0), (19, .int .i64 s_5)] (St w0 m m [[⟨b2, 24, [.int .i64 p0_0, .int .i64 p0_1, .int .i64 p0_2, .slice a_p0_3 p0_3.length c_p0_3]⟩], L25]) ?_ (fun hk77 => ?_)
                        · refine WK_region ?_
                          refine WO_pure tbok 3 [(1, .int .i64 p1), (2, .pointer (some ⟨b2, 0, none⟩)), (4, .slice none 0 0), (5, .slice a26 ((l_4).length) c28), (6, .int .i64 s_2), (7, .int .i64 s_5), (8, .int .i64 s_18), (9, .int .i64 (w64 (s_12 + 1))), (10, .int .i64 s_9), (11, .int .i64 s_13), (13, .int .i64 p0_1), (14, .int .i64 s_2), (18, .int .i64 p0_0), (19, .int .i64 s_5)] rfl ⟨rfl, rfl, rfl, rfl, rfl, rfl, rfl, rfl, rfl, rfl, rfl, rfl, rfl, rfl, trivial⟩ ?_
                          refine WO_end ?_
                          refine WK_blk ?_
                          refine WK_region ?_
                          refine WO_pure tbok 3 [(1, .int .i64 p1), (2, .pointer (some ⟨b2, 0, none⟩)), (4, .slice none 0 0), (5, .slice a26 ((l_4).length) c28), (6, .int .i64 s_2), (7, .int .i64 s_5), (8, .int .i64 s_18), (9, .int .i64 (w64 (s_12 + 1))), (10, .int .i64 s_9), (11, .int .i64 (w64 (s_13 + 1))), (13, .int .i64 p0_1), (14, .int .i64 s_2), (18, .int .i64 p0_0), (19, .int .i64 s_5)] rfl ⟨rfl, rfl, rfl, rfl, rfl, rfl, rfl, rfl, rfl, rfl, rfl, rfl, rfl, rfl, trivial⟩ ?_
                          refine WO_end ?_
                          cases hm64
                          refine WK.sub ?_ (WK.cls (fun _ h => h) (hn67 _ () rfl trivial))
                          exact ⟨rfl, rfl, rfl, rfl, rfl, rfl, rfl, rfl, rfl, rfl, rfl, rfl, rfl, rfl, trivial⟩
                        · refine WK_cond (b := s_17) rfl (fun hb78 => ?_) (fun hb78 => ?_)
                          · have hx76 := ifT hb78 hx76
                            refine WK_region ?_
                            refine WO_pure tbok 2 [(1, .int .i64 p1), (2, .pointer (some ⟨b2, 0, none⟩)), (4, .slice none 0 0), (5, .slice a26 ((l_4).length) c28), (6, .int .i64 s_2), (7, .int .i64 s_5), (8, .int .i64 s_11), (9, .int .i64 s_12), (10, .int .i64 s_9), (11, .int .i64 s_13), (13, .int .i64 p0_1), (14, .int .i64 s_2), (18, .int .i64 p0_0), (19, .int .i64 s_5), (91, .int .i64 s_11), (92, .int .i64 s_12)] rfl ⟨rfl, rfl, rfl, rfl, rfl, rfl, rfl, rfl, rfl, rfl, rfl, rfl, rfl, rfl, rfl, rfl, trivial⟩ ?_
                            obtain ⟨hc79, hx76⟩ := chk_some hx76
                            refine WO_shl rfl rfl rfl rfl rfl hc79 ?_
                            refine WO_pure tbok 2 [(1, .int .i64 p1), (2, .pointer (some ⟨b2, 0, none⟩)), (4, .slice none 0 0), (5, .slice a26 ((l_4).length) c28), (6, .int .i64 s_2), (7, .int .i64 s_5), (8, .int .i64 (w64 (((BitVec.ofInt 64 s_11 ||| BitVec.ofInt 64 (w64 (1 * 2 ^ (min (s_12 : Int).toNat 64)))).toNat : Int)))), (9, .int .i64 s_12), (10, .int .i64 s_9), (11, .int .i64 s_13), (13, .int .i64 p0_1), (14, .int .i64 s_2), (18, .int .i64 p0_0), (19, .int .i64 s_5)] rfl ⟨rfl, rfl, rfl, rfl, rfl, rfl, rfl, rfl, rfl, rfl, rfl, rfl, rfl, rfl, trivial⟩ ?_
                            refine WO_end ?_
                            cases hx76
                            refine WK.sub ?_ (WK.cls (fun _ h => h) hk77)
                            exact ⟨rfl, rfl, rfl, rfl, rfl, rfl, rfl, rfl, rfl, rfl, rfl, rfl, rfl, rfl, trivial⟩
                          · have hx76 := ifF hb78 hx76
                            refine WK_skip ?_
                            cases hx76
                            refine WK.sub ?_ (WK.cls (fun _ h => h) hk77)
                            exact ⟨rfl, rfl, rfl, rfl, rfl, rfl, rfl, rfl, rfl, rfl, rfl, rfl, rfl, rfl, trivial⟩
                      · refine WK_draw 41 [0, 1, 2, 3, 4, 5, 6, 7, 8, 9, 10, 11, 12, 13, 14, 15, 16, 17, 18, 19, 20, 21, 22, 23, 24, 25, 26, 27, 28, 29, 30, 31, 32, 33, 34, 35, 36, 37, 38, 39, 40] follows_ok (by kernel_rfl) St_closed ?_
                        refine WO_pure tbok 3 [(1, .int .i64 p1), (2, .pointer (some ⟨b2, 0, none⟩)), (4, .slice none 0 0), (5, .slice a26 ((l_4).length) c28), (6, .int .i64 s_2), (7, .int .i64 s_5), (8, .int .i64 s_11), (9, .int .i64 s_12), (10, .int .i64 s_9), (11, .int .i64 s_13), (13, .int .i64 p0_1), (14, .int .i64 s_2), (18, .int .i64 p0_0), (19, .int .i64 s_5), (52, .bool (decide (0 ≤ s_13)))] rfl ⟨rfl, rfl, rfl, rfl, rfl, rfl, rfl, rfl, rfl, rfl, rfl, rfl, rfl, rfl, rfl, trivial⟩ ?_
                        refine WO_split (d := 52) (b := decide (0 ≤ s_13)) rfl (fun hb80 => ?_) (fun hb80 => ?_)
                        · have hx74 := ifT hb80 hx74
                          refine WO_pure tbok 4 [(1, .int .i64 p1), (2, .pointer (some ⟨b2, 0, none⟩)), (4, .slice none 0 0), (5, .slice a26 ((l_4).length) c28), (6, .int .i64 s_2), (7, .int .i64 s_5), (8, .int .i64 s_11), (9, .int .i64 s_12), (10, .int .i64 s_9), (11, .int .i64 s_13), (13, .int .i64 p0_1), (14, .int .i64 s_2), (18, .int .i64 p0_0), (19, .int .i64 s_5), (56, .bool (decide (0 ≤ s_9)))] rfl ⟨rfl, rfl, rfl, rfl, rfl, rfl, rfl, rfl, rfl, rfl, rfl, rfl, rfl, rfl, rfl, trivial⟩ ?_
                          refine WO_split (d := 56) (b := decide (0 ≤ s_9)) rfl (fun hb81 => ?_) (fun hb81 => ?_)
                          · have hx74 := ifT hb81 hx74
                            refine WO_pure tbok 2 [(1, .int .i64 p1), (2, .pointer (some ⟨b2, 0, none⟩)), (4, .slice none 0 0), (5, .slice a26 ((l_4).length) c28), (6, .int .i64 s_2), (7, .int .i64 s_5), (8, .int .i64 s_11), (9, .int .i64 s_12), (10, .int .i64 s_9), (11, .int .i64 s_13), (13, .int .i64 p0_1), (14, .int .i64 s_2), (18, .int .i64 p0_0), (19, .int .i64 s_5), (56, .bool true), (57, .int .i64 s_13), (58, .pointer (some ⟨b2, 0, none⟩))] rfl ⟨rfl, rfl, rfl, rfl, rfl, rfl, rfl, rfl, rfl, rfl, rfl, rfl, rfl, rfl, rfl, rfl, rfl, trivial⟩ ?_
                            refine WO_loadB tbok 0 rfl rfl rfl rfl (fun _ h => h) rfl rfl ?_
                            refine WO_pure tbok 3 [(1, .int .i64 p1), (2, .pointer (some ⟨b2, 0, none⟩)), (4, .slice none 0 0), (5, .slice a26 ((l_4).length) c28), (6, .int .i64 s_2), (7, .int .i64 s_5), (8, .int .i64 s_11), (9, .int .i64 s_12), (10, .int .i64 s_9), (11, .int .i64 s_13), (13, .int .i64 p0_1), (14, .int .i64 s_2), (18, .int .i64 p0_0), (19, .int .i64 s_5), (62, .bool (decide (s_13 < p0_0)))] rfl ⟨rfl, rfl, rfl, rfl, rfl, rfl, rfl, rfl, rfl, rfl, rfl, rfl, rfl, rfl, rfl, trivial⟩ ?_
                            refine WO_split (d := 62) (b := decide (s_13 < p0_0)) rfl (fun hb82 => ?_) (fun hb82 => ?_)
                            · have hx74 := ifT hb82 hx74
                              refine WO_pure tbok 2 [(1, .int .i64 p1), (2, .pointer (some ⟨b2, 0, none⟩)), (4, .slice none 0 0), (5, .slice a26 ((l_4).length) c28), (6, .int .i64 s_2), (7, .int .i64 s_5), (8, .int .i64 s_11), (9, .int .i64 s_12), (10, .int .i64 s_9), (11, .int .i64 s_13), (13, .int .i64 p0_1), (14, .int .i64 s_2), (18, .int .i64 p0_0), (19, .int .i64 s_5), (62, .bool true), (63, .int .i64 s_9), (64, .pointer (some ⟨b2, 1, none⟩))] rfl ⟨rfl, rfl, rfl, rfl, rfl, rfl, rfl, rfl, rfl, rfl, rfl, rfl, rfl, rfl, rfl, rfl, rfl, trivial⟩ ?_
                              refine WO_loadB tbok 0 rfl rfl rfl rfl (fun _ h => h) rfl rfl ?_
                              refine WO_pure tbok 3 [(1, .int .i64 p1), (2, .pointer (some ⟨b2, 0, none⟩)), (4, .slice none 0 0), (5, .slice a26 ((l_4).length) c28), (6, .int .i64 s_2), (7, .int .i64 s_5), (8, .int .i64 s_11), (9, .int .i64 s_12), (10, .int .i64 s_9), (11, .int .i64 s_13), (13, .int .i64 p0_1), (14, .int .i64 s_2), (18, .int .i64 p0_0), (19, .int .i64 s_5), (68, .bool (decide (s_9 < p0_1)))] rfl ⟨rfl, rfl, rfl, rfl, rfl, rfl, rfl, rfl, rfl, rfl, rfl, rfl, rfl, rfl, rfl, trivial⟩ ?_
                              refine WO_split (d := 68) (b := decide (s_9 < p0_1)) rfl (fun hb83 => ?_) (fun hb83 => ?_)
                              · have hx74 := ifT hb83 hx74
                                refine WO_pure tbok 1 [(1, .int .i64 p1), (2, .pointer (some ⟨b2, 0, none⟩)), (4, .slice none 0 0), (5, .slice a26 ((l_4).length) c28), (6, .int .i64 s_2), (7, .int .i64 s_5), (8, .int .i64 s_11), (9, .int .i64 s_12), (10, .int .i64 s_9), (11, .int .i64 s_13), (13, .int .i64 p0_1), (14, .int .i64 s_2), (18, .int .i64 p0_0), (19, .int .i64 s_5), (68, .bool true), (69, .pointer (some ⟨b2, 3, none⟩))] rfl ⟨rfl, rfl, rfl, rfl, rfl, rfl, rfl, rfl, rfl, rfl, rfl, rfl, rfl, rfl, rfl, rfl, trivial⟩ ?_
                                refine WO_loadB tbok 0 rfl rfl rfl rfl (fun _ h => h) rfl rfl ?_
                                refine WO_pure tbok 2 [(1, .int .i64 p1), (2, .pointer (some ⟨b2, 0, none⟩)), (4, .slice none 0 0), (5, .slice a26 ((l_4).length) c28), (6, .int .i64 s_2), (7, .int .i64 s_5), (8, .int .i64 s_11), (9, .int .i64 s_12), (10, .int .i64 s_9), (11, .int .i64 s_13), (13, .int .i64 p0_1), (14, .int .i64 s_2), (18, .int .i64 p0_0), (19, .int .i64 s_5), (68, .bool true), (70, .slice a_p0_3 p0_3.length c_p0_3), (71, .int .i64 s_9), (72, .pointer (some ⟨b2, 0, none⟩))] rfl ⟨rfl, rfl, rfl, rfl, rfl, rfl, rfl, rfl, rfl, rfl, rfl, rfl, rfl, rfl, rfl, rfl, rfl, rfl, trivial⟩ ?_
                                refine WO_loadB tbok 0 rfl rfl rfl rfl (fun _ h => h) rfl rfl ?_
                                refine WO_pure tbok 3 [(1, .int .i64 p1), (2, .pointer (some ⟨b2, 0, none⟩)), (4, .slice none 0 0), (5, .slice a26 ((l_4).length) c28), (6, .int .i64 s_2), (7, .int .i64 s_5), (8, .int .i64 s_11), (9, .int .i64 s_12), (10, .int .i64 s_9), (11, .int .i64 s_13), (13, .int .i64 p0_1), (14, .int .i64 s_2), (18, .int .i64 p0_0), (19, .int .i64 s_5), (68, .bool true), (70, .slice a_p0_3 p0_3.length c_p0_3), (76, .int .i64 (w64 ((w64 (s_9 * p0_0)) + s_13)))] rfl ⟨rfl, rfl, rfl, rfl, rfl, rfl, rfl, rfl, rfl, rfl, rfl, rfl, rfl, rfl, rfl, rfl, rfl, trivial⟩ ?_
                                obtain ⟨v_19, hy84, hx74⟩ := bind_some hx74
                                obtain ⟨hc85, hy84⟩ := ix_some hy84
                                refine WO_index tbok rfl rfl rfl rfl rfl rfl rfl rfl (SlR.addr h_p0_3) hc85 ?_
                                refine WO_loadE tbok rfl rfl rfl rfl (fun _ h => St.sat h) h_p0_3 hy84 rfl ?_
                                refine WO_pure tbok 1 [(1, .int .i64 p1), (2, .pointer (some ⟨b2, 0, none⟩)), (4, .slice none 0 0), (5, .slice a26 ((l_4).length) c28), (6, .int .i64 s_2), (7, .int .i64 s_5), (8, .int .i64 s_11), (9, .int .i64 s_12), (10, .int .i64 s_9), (11, .int .i64 s_13), (13, .int .i64 p0_1), (14, .int .i64 s_2), (18, .int .i64 p0_0), (19, .int .i64 s_5), (68, .bool true), (78, .int .i64 v_19), (79, .pointer (some ⟨b2, 3, none⟩))] rfl ⟨rfl, rfl, rfl, rfl, rfl, rfl, rfl, rfl, rfl, rfl, rfl, rfl, rfl, rfl, rfl, rfl, rfl, trivial⟩ ?_
                                refine WO_loadB tbok 0 rfl rfl rfl rfl (fun _ h => h) rfl rfl ?_
                                refine WO_pure tbok 2 [(1, .int .i64 p1), (2, .pointer (some ⟨b2, 0, none⟩)), (4, .slice none 0 0), (5, .slice a26 ((l_4).length) c28), (6, .int .i64 s_2), (7, .int .i64 s_5), (8, .int .i64 s_11), (9, .int .i64 s_12), (10, .int .i64 s_9), (11, .int .i64 s_13), (13, .int .i64 p0_1), (14, .int .i64 s_2), (18, .int .i64 p0_0), (19, .int .i64 s_5), (68, .bool true), (78, .int .i64 v_19), (80, .slice a_p0_3 p0_3.length c_p0_3), (81, .int .i64 s_2), (82, .pointer (some ⟨b2, 0, none⟩))] rfl ⟨rfl, rfl, rfl, rfl, rfl, rfl, rfl, rfl, rfl, rfl, rfl, rfl, rfl, rfl, rfl, rfl, rfl, rfl, rfl, trivial⟩ ?_
                                refine WO_loadB tbok 0 rfl rfl rfl rfl (fun _ h => h) rfl rfl ?_
                                refine WO_pure tbok 3 [(1, .int .i64 p1), (2, .pointer (some ⟨b2, 0, none⟩)), (4, .slice none 0 0), (5, .slice a26 ((l_4).length) c28), (6, .int .i64 s_2), (7, .int .i64 s_5), (8, .int .i64 s_11), (9, .int .i64 s_12), (10, .int .i64 s_9), (11, .int .i64 s_13), (13, .int .i64 p0_1), (14, .int .i64 s_2), (18, .int .i64 p0_0), (19, .int .i64 s_5), (68, .bool true), (78, .int .i64 v_19), (80, .slice a_p0_3 p0_3.length c_p0_3), (86, .int .i64 (w64 ((w64 (s_2 * p0_0)) + s_5)))] rfl ⟨rfl, rfl, rfl, rfl, rfl, rfl, rfl, rfl, rfl, rfl, rfl, rfl, rfl, rfl, rfl, rfl, rfl, rfl, trivial⟩ ?_
                                obtain ⟨v_20, hy86, hx74⟩ := bind_some hx74
                                obtain ⟨hc87, hy86⟩ := ix_some hy86
                                refine WO_index tbok rfl rfl rfl rfl rfl rfl rfl rfl (SlR.addr h_p0_3) hc87 ?_
                                refine WO_loadE tbok rfl rfl rfl rfl (fun _ h => St.sat h) h_p0_3 hy86 rfl ?_
                                refine WO_pure tbok 2 [(1, .int .i64 p1), (2, .pointer (some ⟨b2, 0, none⟩)), (4, .slice none 0 0), (5, .slice a26 ((l_4).length) c28), (6, .int .i64 s_2), (7, .int .i64 s_5), (8, .int .i64 s_11), (9, .int .i64 s_12), (10, .int .i64 s_9), (11, .int .i64 s_13), (13, .int .i64 p0_1), (14, .int .i64 s_2), (18, .int .i64 p0_0), (19, .int .i64 s_5), (90, .bool (decide (v_19 < v_20)))] rfl ⟨rfl, rfl, rfl, rfl, rfl, rfl, rfl, rfl, rfl, rfl, rfl, rfl, rfl, rfl, rfl, trivial⟩ ?_
                                refine WO_tail ?_
                                refine WO_end ?_
                                cases hx74
                                refine WK.sub ?_ (WK.cls (fun _ h => h) hk75)
                                exact ⟨rfl, rfl, rfl, rfl, rfl, rfl, rfl, rfl, rfl, rfl, rfl, rfl, rfl, rfl, rfl, trivial⟩
                              · have hx74 := ifF hb83 hx74
                                refine WO_pure tbok 22 [(1, .int .i64 p1), (2, .pointer (some ⟨b2, 0, none⟩)), (4, .slice none 0 0), (5, .slice a26 ((l_4).length) c28), (6, .int .i64 s_2), (7, .int .i64 s_5), (8, .int .i64 s_11), (9, .int .i64 s_12), (10, .int .i64 s_9), (11, .int .i64 s_13), (13, .int .i64 p0_1), (14, .int .i64 s_2), (18, .int .i64 p0_0), (19, .int .i64 s_5), (90, .bool false)] rfl ⟨rfl, rfl, rfl, rfl, rfl, rfl, rfl, rfl, rfl, rfl, rfl, rfl, rfl, rfl, rfl, trivial⟩ ?_
                                refine WO_tail ?_
                                refine WO_end ?_
                                cases hx74
                                refine WK.sub ?_ (WK.cls (fun _ h => h) hk75)
                                exact ⟨rfl, rfl, rfl, rfl, rfl, rfl, rfl, rfl, rfl, rfl, rfl, rfl, rfl, rfl, rfl, trivial⟩
                            · have hx74 := ifF hb82 hx74
                              refine WO_pure tbok 28 [(1, .int .i64 p1), (2, .pointer (some ⟨b2, 0, none⟩)), (4, .slice none 0 0), (5, .slice a26 ((l_4).length) c28), (6, .int .i64 s_2), (7, .int .i64 s_5), (8, .int .i64 s_11), (9, .int .i64 s_12), (10, .int .i64 s_9), (11, .int .i64 s_13), (13, .int .i64 p0_1), (14, .int .i64 s_2), (18, .int .i64 p0_0), (19, .int .i64 s_5), (90, .bool false)] rfl ⟨rfl, rfl, rfl, rfl, rfl, rfl, rfl, rfl, rfl, rfl, rfl, rfl, rfl, rfl, rfl, trivial⟩ ?_
                              refine WO_tail ?_
                              refine WO_end ?_
                              cases hx74
                              refine WK.sub ?_ (WK.cls (fun _ h => h) hk75)
                              exact ⟨rfl, rfl, rfl, rfl, rfl, rfl, rfl, rfl, rfl, rfl, rfl, rfl, rfl, rfl, rfl, trivial⟩
                          · have hx74 := ifF hb81 hx74
                            refine WO_pure tbok 34 [(1, .int .i64 p1), (2, .pointer (some ⟨b2, 0, none⟩)), (4, .slice none 0 0), (5, .slice a26 ((l_4).length) c28), (6, .int .i64 s_2), (7, .int .i64 s_5), (8, .int .i64 s_11), (9, .int .i64 s_12), (10, .int .i64 s_9), (11, .int .i64 s_13), (13, .int .i64 p0_1), (14, .int .i64 s_2), (18, .int .i64 p0_0), (19, .int .i64 s_5), (90, .bool false)] rfl ⟨rfl, rfl, rfl, rfl, rfl, rfl, rfl, rfl, rfl, rfl, rfl, rfl, rfl, rfl, rfl, trivial⟩ ?_
                            refine WO_tail ?_
                            refine WO_end ?_
                            cases hx74
                            refine WK.sub ?_ (WK.cls (fun _ h => h) hk75)
                            exact ⟨rfl, rfl, rfl, rfl, rfl, rfl, rfl, rfl, rfl, rfl, rfl, rfl, rfl, rfl, rfl, trivial⟩
                        · have hx74 := ifF hb80 hx74
                          refine WO_pure tbok 38 [(1, .int .i64 p1), (2, .pointer (some ⟨b2, 0, none⟩)), (4, .slice none 0 0), (5, .slice a26 ((l_4).length) c28), (6, .int .i64 s_2), (7, .int .i64 s_5), (8, .int .i64 s_11), (9, .int .i64 s_12), (10, .int .i64 s_9), (11, .int .i64 s_13), (13, .int .i64 p0_1), (14, .int .i64 s_2), (18, .int .i64 p0_0), (19, .int .i64 s_5), (90, .bool false)] rfl ⟨rfl, rfl, rfl, rfl, rfl, rfl, rfl, rfl, rfl, rfl, rfl, rfl, rfl, rfl, rfl, trivial⟩ ?_
                          refine WO_tail ?_
                          refine WO_end ?_
                          cases hx74
                          refine WK.sub ?_ (WK.cls (fun _ h => h) hk75)
                          exact ⟨rfl, rfl, rfl, rfl, rfl, rfl, rfl, rfl, rfl, rfl, rfl, rfl, rfl, rfl, rfl, trivial⟩
                  · refine WK_region ?_
                    refine WO_pure tbok 4 [(1, .int .i64 p1), (2, .pointer (some ⟨b2, 0, none⟩)), (4, .slice none 0 0), (5, .slice a26 ((l_4).length) c28), (6, .int .i64 s_2), (7, .int .i64 s_5), (8, .int .i64 s_11), (9, .int .i64 s_12), (10, .int .i64 s_9), (11, .int .i64 s_13), (13, .int .i64 p0_1), (14, .int .i64 s_2), (18, .int .i64 p0_0), (19, .int .i64 s_5), (45, .bool (s_13 == s_5))] rfl ⟨rfl, rfl, rfl, rfl, rfl, rfl, rfl, rfl, rfl, rfl, rfl, rfl, rfl, rfl, rfl, trivial⟩ ?_
                    refine WO_split (d := 45) (b := s_13 == s_5) rfl (fun hb88 => ?_) (fun hb88 => ?_)
                    · have hx71 := ifT hb88 hx71
                      refine WO_pure tbok 4 [(1, .int .i64 p1), (2, .pointer (some ⟨b2, 0, none⟩)), (4, .slice none 0 0), (5, .slice a26 ((l_4).length) c28), (6, .int .i64 s_2), (7, .int .i64 s_5), (8, .int .i64 s_11), (9, .int .i64 s_12), (10, .int .i64 s_9), (11, .int .i64 s_13), (13, .int .i64 p0_1), (14, .int .i64 s_2), (18, .int .i64 p0_0), (19, .int .i64 s_5), (49, .bool (s_9 == s_2))] rfl ⟨rfl, rfl, rfl, rfl, rfl, rfl, rfl, rfl, rfl, rfl, rfl, rfl, rfl, rfl, rfl, trivial⟩ ?_
                      refine WO_end ?_
                      cases hx71
                      refine WK.sub ?_ (WK.cls (fun _ h => h) hk72)
                      exact ⟨rfl, rfl, rfl, rfl, rfl, rfl, rfl, rfl, rfl, rfl, rfl, rfl, rfl, rfl, rfl, trivial⟩
                    · have hx71 := ifF hb88 hx71
                      refine WO_pure tbok 4 [(1, .int .i64 p1), (2, .pointer (some ⟨b2, 0, none⟩)), (4, .slice none 0 0), (5, .slice a26 ((l_4).length) c28), (6, .int .i64 s_2), (7, .int .i64 s_5), (8, .int .i64 s_11), (9, .int .i64 s_12), (10, .int .i64 s_9), (11, .int .i64 s_13), (13, .int .i64 p0_1), (14, .int .i64 s_2), (18, .int .i64 p0_0), (19, .int .i64 s_5), (49, .bool false)] rfl ⟨rfl, rfl, rfl, rfl, rfl, rfl, rfl, rfl, rfl, rfl, rfl, rfl, rfl, rfl, rfl, trivial⟩ ?_
                      refine WO_end ?_
                      cases hx71
                      refine WK.sub ?_ (WK.cls (fun _ h => h) hk72)
                      exact ⟨rfl, rfl, rfl, rfl, rfl, rfl, rfl, rfl, rfl, rfl, rfl, rfl, rfl, rfl, rfl, trivial⟩
                · have hm64 := ifF hb70 hm64
                  refine WK_exit rfl ?_
                  cases hm64
                  refine WK.sub ?_ (WK.cls (fun _ h => h) (hk63 ((s_11, s_12), ()) (hd68 _ rfl)))
                  exact ⟨rfl, rfl, rfl, rfl, rfl, rfl, rfl, rfl, rfl, rfl, rfl, rfl, rfl, trivial⟩
            · have hm47 := ifF hb60 hm47
              refine WK_exit rfl ?_
              cases hm47
              refine WK.sub ?_ (WK.cls (fun _ h => h) (hk46 (s_7, ()) (hd51 _ rfl)))
              exact ⟨rfl, rfl, rfl, rfl, rfl, rfl, rfl, rfl, rfl, rfl, trivial⟩
        · have hm37 := ifF hb43 hm37
          refine WK_exit rfl ?_
          cases hm37
          refine WK.sub ?_ (WK.cls (fun _ h => h) (hk36 (l_4, (a26, _, c28, L25)) ⟨(hd41 _ rfl), hL25⟩))
          exact ⟨rfl, rfl, rfl, rfl, rfl, rfl, trivial⟩
    · have hm17 := ifF hb23 hm17
      refine WK_exit rfl ?_
      cases hm17
      refine WK.sub ?_ (WK.cls (fun _ h => h) (hk16 (l_1, (a6, _, c8, L5)) ⟨(hd21 _ rfl), hL5⟩))
      exact ⟨rfl, rfl, trivial⟩
def census_Transform_Q (r : List Int × Int) : Value → List Ent → Prop := fun v L => ∃ (a0 : Option Addr) (q0 c0 : Nat), v = .tuple #[.slice a0 q0 c0, .int .i64 r.2] ∧ OwnE 3 1 (I1 .i64) (.slice a0 q0 c0) r.1 L
theorem census_Transform_walk {m : Mu} {p0_0 : Int} {p0_1 : Int} {p0_2 : Int} {p0_3 : List Int} {p1 : Int} {a_p0_3 : Option Addr} {q_p0_3 c_p0_3 : Nat} (h_p0_3 : SlR (FE (I1 .i64)) 1 m (.slice a_p0_3 q_p0_3 c_p0_3) p0_3) {r : List Int × Int} (hm : census_Transform p0_0 p0_1 p0_2 p0_3 p1 = some r) :
    Go.E.Spec Try.prog 13 [.agg #[.int .i64 p0_0, .int .i64 p0_1, .int .i64 p0_2, .slice a_p0_3 q_p0_3 c_p0_3], .int .i64 p1] m (fun v _ L => census_Transform_Q r v L) := by
  refine Spec_enter Try.func13 rfl rfl rfl (fun w0 => ?_)
  refine WK.sub (e' := [(0, .agg #[.int .i64 p0_0, .int .i64 p0_1, .int .i64 p0_2, .slice a_p0_3 q_p0_3 c_p0_3]), (1, .int .i64 p1)]) ⟨rfl, rfl, trivial⟩ ?_
  obtain rfl := SlR.qlen h_p0_3
  refine WK.sub (e' := [(0, .agg #[.int .i64 p0_0, .int .i64 p0_1, .int .i64 p0_2, .slice a_p0_3 p0_3.length c_p0_3]), (1, .int .i64 p1)]) ⟨rfl, rfl, trivial⟩ ?_
  unfold census_Transform at hm
  refine WK_seq ?_
  refine WK_region ?_
  refine WO_box [.int .i64 p0_0, .int .i64 p0_1, .int .i64 p0_2, .slice a_p0_3 p0_3.length c_p0_3] rfl rfl trivial rfl rfl rfl (fun b2 => ?_)
  refine WO.cls (C' := St w0 m m [[⟨b2, 24, [.int .i64 p0_0, .int .i64 p0_1, .int .i64 p0_2, .slice a_p0_3 p0_3.length c_p0_3]⟩]]) (fun _ h => h) ?_
  refine WO_pure tbok 2 [(1, .int .i64 p1), (2, .pointer (some ⟨b2, 0, none⟩)), (4, .slice none 0 0), (5, .int .i64 0)] rfl ⟨rfl, rfl, rfl, rfl, trivial⟩ ?_
  refine WO_end ?_
  refine WK_seq ?_
  refine WK_seq ?_
  refine WK_region ?_
  refine WO_loadB tbok 0 rfl rfl rfl rfl (fun _ h => h) rfl rfl ?_
  obtain ⟨y_1, hc3, hm⟩ := bind_some hm
  refine WO_call0 (.int .i64 y_1) rfl rfl trivial rfl rfl rfl rfl St_closed ⟨33, #[], #[], rfl, callable_33, fun w hw => ⟨_, hw.sat, raster_Check_walk h_p0_3 hc3⟩⟩ ?_
  refine WO_pure tbok 1 [(1, .int .i64 p1), (2, .pointer (some ⟨b2, 0, none⟩)), (4, .slice none 0 0), (5, .int .i64 0), (6, .int .i64 y_1)] rfl ⟨rfl, rfl, rfl, rfl, rfl, trivial⟩ ?_
  refine WO_end ?_
  refine WK_seq ?_
  refine WK_region ?_
  refine WO_pure tbok 2 [(1, .int .i64 p1), (2, .pointer (some ⟨b2, 0, none⟩)), (4, .slice none 0 0), (5, .int .i64 0), (6, .int .i64 y_1), (10, .bool (y_1 != 0))] rfl ⟨rfl, rfl, rfl, rfl, rfl, rfl, trivial⟩ ?_
  refine WO_end ?_
  refine WK_cond (b := y_1 != 0) rfl (fun hb4 => ?_) (fun hb4 => ?_)
  · have hm := ifT hb4 hm
    refine WK_seq ?_
    refine WK_region ?_
    refine WO_pure tbok 3 [(1, .int .i64 p1), (2, .pointer (some ⟨b2, 0, none⟩)), (4, .slice none 0 0), (5, .int .i64 y_1)] rfl ⟨rfl, rfl, rfl, rfl, trivial⟩ ?_
    refine WO_end ?_
    cases hm
    exact WK_ret (ret_out (L := []) (RLc_tmp rfl (RLc_tmp rfl RLc_nil)) (List.nil_sublist _) ⟨none, 0, 0, rfl, (OwnE.nil none)⟩)
  · have hm := ifF hb4 hm
    refine WK_skip ?_
    refine WK_seq ?_
    refine WK_seq ?_
    obtain ⟨s_2, hx5, hm⟩ := bind_some hm
    refine WK_meet [(1, .int .i64 p1), (2, .pointer (some ⟨b2, 0, none⟩)), (4, .slice none 0 0), (5, .int .i64 0), (17, .bool s_2)] (St w0 m m [[⟨b2, 24, [.int .i64 p0_0, .int .i64 p0_1, .int .i64 p0_2, .slice a_p0_3 p0_3.length c_p0_3]⟩]]) ?_ (fun hk6 => ?_)
    · refine WK_cond (b := s_2) rfl (fun hb7 => ?_) (fun hb7 => ?_)
      · have hm := ifT hb7 hm
        refine WK_seq ?_
        refine WK_region ?_
        refine WO_pure tbok 2 [(1, .int .i64 p1), (2, .pointer (some ⟨b2, 0, none⟩)), (4, .slice none 0 0), (5, .int .i64 2)] rfl ⟨rfl, rfl, rfl, rfl, trivial⟩ ?_
        refine WO_end ?_
        cases hm
        exact WK_ret (ret_out (L := []) (RLc_tmp rfl (RLc_tmp rfl RLc_nil)) (List.nil_sublist _) ⟨none, 0, 0, rfl, (OwnE.nil none)⟩)
      · have hm := ifF hb7 hm
        refine WK_skip ?_
        refine WK_seq ?_
        refine WK_region ?_
        refine WO_loadB tbok 0 rfl rfl rfl rfl (fun _ h => h) rfl rfl ?_
        refine WO_pure tbok 1 [(4, .slice none 0 0), (5, .int .i64 0), (18, .agg #[.int .i64 p0_0, .int .i64 p0_1, .int .i64 p0_2, .slice a_p0_3 p0_3.length c_p0_3]), (19, .int .i64 p1)] rfl ⟨rfl, rfl, rfl, rfl, trivial⟩ ?_
        obtain ⟨y_3, hc8, hm⟩ := bind_some hm
        refine WO_call1 (census_transform_Q y_3) rfl rfl trivial rfl rfl rfl rfl ⟨34, #[], #[], rfl, callable_34, fun w hw => ⟨_, hw.sat, census_transform_walk h_p0_3 hc8⟩⟩ (fun v13 L12 hq => ?_)
        obtain ⟨a9, qa9, c10, rfl, hL12⟩ := hq
        obtain rfl := OwnE.qlen hL12
        refine WO.cls (C' := St w0 m m [[⟨b2, 24, [.int .i64 p0_0, .int .i64 p0_1, .int .i64 p0_2, .slice a_p0_3 p0_3.length c_p0_3]⟩], L12]) (fun _ h => h) ?_
        refine WO_pure tbok 2 [(4, .slice a9 ((y_3).length) c10), (5, .int .i64 0)] rfl ⟨rfl, rfl, trivial⟩ ?_
        refine WO_end ?_
        cases hm
        exact WK_ret (ret_out (L := L12) (RLc_tmp rfl (RLc_tmp rfl RLc_nil)) (seg_sub 1 rfl) ⟨a9, _, c10, rfl, hL12⟩)
    · refine WK_region ?_
      refine WO_pure tbok 3 [(1, .int .i64 p1), (2, .pointer (some ⟨b2, 0, none⟩)), (4, .slice none 0 0), (5, .int .i64 0), (14, .bool (p1 != 1))] rfl ⟨rfl, rfl, rfl, rfl, rfl, trivial⟩ ?_
      refine WO_split (d := 14) (b := p1 != 1) rfl (fun hb14 => ?_) (fun hb14 => ?_)
      · have hx5 := ifT hb14 hx5
        refine WO_pure tbok 3 [(1, .int .i64 p1), (2, .pointer (some ⟨b2, 0, none⟩)), (4, .slice none 0 0), (5, .int .i64 0), (17, .bool (p1 != 2))] rfl ⟨rfl, rfl, rfl, rfl, rfl, trivial⟩ ?_
        refine WO_end ?_
        cases hx5
        refine WK.sub ?_ (WK.cls (fun _ h => h) hk6)
        exact ⟨rfl, rfl, rfl, rfl, rfl, trivial⟩
      · have hx5 := ifF hb14 hx5
        refine WO_pure tbok 3 [(1, .int .i64 p1), (2, .pointer (some ⟨b2, 0, none⟩)), (4, .slice none 0 0), (5, .int .i64 0), (17, .bool false)] rfl ⟨rfl, rfl, rfl, rfl, rfl, trivial⟩ ?_
        refine WO_end ?_
        cases hx5
        refine WK.sub ?_ (WK.cls (fun _ h => h) hk6)
        exact ⟨rfl, rfl, rfl, rfl, rfl, trivial⟩
theorem census_both_walk {m : Mu} {p0_0 : Int} {p0_1 : Int} {p0_2 : Int} {p0_3 : List Int} {p1_0 : Int} {p1_1 : Int} {p1_2 : Int} {p1_3 : List Int} {a_p0_3 : Option Addr} {q_p0_3 c_p0_3 : Nat} {a_p1_3 : Option Addr} {q_p1_3 c_p1_3 : Nat} (h_p0_3 : SlR (FE (I1 .i64)) 1 m (.slice a_p0_3 q_p0_3 c_p0_3) p0_3) (h_p1_3 : SlR (FE (I1 .i64)) 1 m (.slice a_p1_3 q_p1_3 c_p1_3) p1_3) {r : Int} (hm : census_both p0_0 p0_1 p0_2 p0_3 p1_0 p1_1 p1_2 p1_3 = some r) :
    Go.E.Spec Try.prog 36 [.agg #[.int .i64 p0_0, .int .i64 p0_1, .int .i64 p0_2, .slice a_p0_3 q_p0_3 c_p0_3], .agg #[.int .i64 p1_0, .int .i64 p1_1, .int .i64 p1_2, .slice a_p1_3 q_p1_3 c_p1_3]] m (fun v _ _ => v = .int .i64 r) := by
  refine Spec_enter Try.func36 rfl rfl rfl (fun w0 => ?_)
  refine WK.sub (e' := [(0, .agg #[.int .i64 p0_0, .int .i64 p0_1, .int .i64 p0_2, .slice a_p0_3 q_p0_3 c_p0_3]), (1, .agg #[.int .i64 p1_0, .int .i64 p1_1, .int .i64 p1_2, .slice a_p1_3 q_p1_3 c_p1_3])]) ⟨rfl, rfl, trivial⟩ ?_
  obtain rfl := SlR.qlen h_p0_3
  obtain rfl := SlR.qlen h_p1_3
  refine WK.sub (e' := [(0, .agg #[.int .i64 p0_0, .int .i64 p0_1, .int .i64 p0_2, .slice a_p0_3 p0_3.length c_p0_3]), (1, .agg #[.int .i64 p1_0, .int .i64 p1_1, .int .i64 p1_2, .slice a_p1_3 p1_3.length c_p1_3])]) ⟨rfl, rfl, trivial⟩ ?_
  unfold census_both at hm
  refine WK_seq ?_
  refine WK_region ?_
  refine WO_box [.int .i64 p0_0, .int .i64 p0_1, .int .i64 p0_2, .slice a_p0_3 p0_3.length c_p0_3] rfl rfl trivial rfl rfl rfl (fun b3 => ?_)
  refine WO.cls (C' := St w0 m m [[⟨b3, 24, [.int .i64 p0_0, .int .i64 p0_1, .int .i64 p0_2, .slice a_p0_3 p0_3.length c_p0_3]⟩]]) (fun _ h => h) ?_
  refine WO_box [.int .i64 p1_0, .int .i64 p1_1, .int .i64 p1_2, .slice a_p1_3 p1_3.length c_p1_3] rfl rfl trivial rfl rfl rfl (fun b4 => ?_)
  refine WO.cls (C' := St w0 m m [[⟨b3, 24, [.int .i64 p0_0, .int .i64 p0_1, .int .i64 p0_2, .slice a_p0_3 p0_3.length c_p0_3]⟩], [⟨b4, 24, [.int .i64 p1_0, .int .i64 p1_1, .int .i64 p1_2, .slice a_p1_3 p1_3.length c_p1_3]⟩]]) (fun _ h => h) ?_
  refine WO_pure tbok 1 [(2, .pointer (some ⟨b3, 0, none⟩)), (3, .pointer (some ⟨b4, 0, none⟩)), (4, .int .i64 0)] rfl ⟨rfl, rfl, rfl, trivial⟩ ?_
  refine WO_end ?_
  refine WK_seq ?_
  refine WK_seq ?_
  refine WK_region ?_
  refine WO_loadB tbok 0 rfl rfl rfl rfl (fun _ h => h) rfl rfl ?_
  refine WO_loadB tbok 1 rfl rfl rfl rfl (fun _ h => h) rfl rfl ?_
  refine WO_bsliceX (E := V4) (El := El24) tbok (fun _ => rfl) (by decide) [.agg #[.int .i64 p0_0, .int .i64 p0_1, .int .i64 p0_2, .slice a_p0_3 p0_3.length c_p0_3], .agg #[.int .i64 p1_0, .int .i64 p1_1, .int .i64 p1_2, .slice a_p1_3 p1_3.length c_p1_3]] [(.int .i64 p0_0, .int .i64 p0_1, .int .i64 p0_2, .slice a_p0_3 p0_3.length c_p0_3), (.int .i64 p1_0, .int .i64 p1_1, .int .i64 p1_2, .slice a_p1_3 p1_3.length c_p1_3)] ([(p0_0, p0_1, p0_2, p0_3), (p1_0, p1_1, p1_2, p1_3)] : List (Int × Int × Int × List Int)) rfl rfl trivial rfl rfl rfl rfl rfl rfl rfl rfl rfl rfl rfl rfl ⟨⟨_, _, _, rfl, h_p0_3⟩, ⟨_, _, _, rfl, h_p1_3⟩, trivial⟩ (fun b5 hb5 => ?_)
  refine WO.cls (C' := St w0 m m [[⟨b3, 24, [.int .i64 p0_0, .int .i64 p0_1, .int .i64 p0_2, .slice a_p0_3 p0_3.length c_p0_3]⟩], [⟨b4, 24, [.int .i64 p1_0, .int .i64 p1_1, .int .i64 p1_2, .slice a_p1_3 p1_3.length c_p1_3]⟩], [⟨b5, 24, [.int .i64 p0_0, .int .i64 p0_1, .int .i64 p0_2, .slice a_p0_3 p0_3.length c_p0_3, .int .i64 p1_0, .int .i64 p1_1, .int .i64 p1_2, .slice a_p1_3 p1_3.length c_p1_3]⟩]]) (fun _ h => h) ?_
  refine WO_pure tbok 2 [(2, .pointer (some ⟨b3, 0, none⟩)), (3, .pointer (some ⟨b4, 0, none⟩)), (4, .int .i64 0), (10, .slice (some ⟨b5, 0, none⟩) 2 2), (11, .int .i64 2), (12, .int .i64 0)] rfl ⟨rfl, rfl, rfl, rfl, rfl, rfl, trivial⟩ ?_
  refine WO_end ?_
  obtain ⟨x7, hx8, hm⟩ := bind_some hm
  refine WK_join (β := Unit × Unit) (fun p => Sum.inr p.1 = x7) (fun p => [(2, .pointer (some ⟨b3, 0, none⟩)), (3, .pointer (some ⟨b4, 0, none⟩)), (4, .int .i64 0)]) (fun p => St w0 m m [[⟨b3, 24, [.int .i64 p0_0, .int .i64 p0_1, .int .i64 p0_2, .slice a_p0_3 p0_3.length c_p0_3]⟩], [⟨b4, 24, [.int .i64 p1_0, .int .i64 p1_1, .int .i64 p1_2, .slice a_p1_3 p1_3.length c_p1_3]⟩], [⟨b5, 24, [.int .i64 p0_0, .int .i64 p0_1, .int .i64 p0_2, .slice a_p0_3 p0_3.length c_p0_3, .int .i64 p1_0, .int .i64 p1_1, .int .i64 p1_2, .slice a_p1_3 p1_3.length c_p1_3]⟩]]) ?_ (fun hk9 => ?_)
  · rintro ⟨⟨⟩, ⟨⟩⟩ hq15
    subst hq15
    refine WK.sub (e' := [(2, .pointer (some ⟨b3, 0, none⟩)), (3, .pointer (some ⟨b4, 0, none⟩)), (4, .int .i64 0)]) ⟨rfl, rfl, rfl, trivial⟩ (WK.cls (C' := St w0 m m [[⟨b3, 24, [.int .i64 p0_0, .int .i64 p0_1, .int .i64 p0_2, .slice a_p0_3 p0_3.length c_p0_3]⟩], [⟨b4, 24, [.int .i64 p1_0, .int .i64 p1_1, .int .i64 p1_2, .slice a_p1_3 p1_3.length c_p1_3]⟩], [⟨b5, 24, [.int .i64 p0_0, .int .i64 p0_1, .int .i64 p0_2, .slice a_p0_3 p0_3.length c_p0_3, .int .i64 p1_0, .int .i64 p1_1, .int .i64 p1_2, .slice a_p1_3 p1_3.length c_p1_3]⟩]]) (fun _ h => h) ?_)
    refine WK_seq ?_
    refine WK_seq ?_
    obtain ⟨s_2, hx16, hm⟩ := bind_some hm
    refine WK_meet [(4, .int .i64 0), (40, .bool s_2)] (St w0 m m [[⟨b3, 24, [.int .i64 p0_0, .int .i64 p0_1, .int .i64 p0_2, .slice a_p0_3 p0_3.length c_p0_3]⟩], [⟨b4, 24, [.int .i64 p1_0, .int .i64 p1_1, .int .i64 p1_2, .slice a_p1_3 p1_3.length c_p1_3]⟩], [⟨b5, 24, [.int .i64 p0_0, .int .i64 p0_1, .int .i64 p0_2, .slice a_p0_3 p0_3.length c_p0_3, .int .i64 p1_0, .int .i64 p1_1, .int .i64 p1_2, .slice a_p1_3 p1_3.length c_p1_3]⟩]]) ?_ (fun hk17 => ?_)
    · refine WK_cond (b := s_2) rfl (fun hb18 => ?_) (fun hb18 => ?_)
      · have hm := ifT hb18 hm
        refine WK_seq ?_
        refine WK_region ?_
        refine WO_pure tbok 1 [(4, .int .i64 4)] rfl ⟨rfl, trivial⟩ ?_
        refine WO_end ?_
        cases hm
        exact WK_ret (ret_out (L := []) (RLc_tmp rfl RLc_nil) (List.nil_sublist _) rfl)
      · have hm := ifF hb18 hm
        refine WK_skip ?_
        refine WK_seq ?_
        refine WK_region ?_
        refine WO_pure tbok 1 [(4, .int .i64 0)] rfl ⟨rfl, trivial⟩ ?_
        refine WO_end ?_
        cases hm
        exact WK_ret (ret_out (L := []) (RLc_tmp rfl RLc_nil) (List.nil_sublist _) rfl)
    · refine WK_region ?_
      refine WO_pure tbok 1 [(2, .pointer (some ⟨b3, 0, none⟩)), (3, .pointer (some ⟨b4, 0, none⟩)), (4, .int .i64 0), (22, .pointer (some ⟨b3, 0, none⟩))] rfl ⟨rfl, rfl, rfl, rfl, trivial⟩ ?_
      refine WO_loadB tbok 0 rfl rfl rfl rfl (fun _ h => h) rfl rfl ?_
      refine WO_pure tbok 1 [(2, .pointer (some ⟨b3, 0, none⟩)), (3, .pointer (some ⟨b4, 0, none⟩)), (4, .int .i64 0), (23, .int .i64 p0_0), (24, .pointer (some ⟨b4, 0, none⟩))] rfl ⟨rfl, rfl, rfl, rfl, rfl, trivial⟩ ?_
      refine WO_loadB tbok 1 rfl rfl rfl rfl (fun _ h => h) rfl rfl ?_
      refine WO_pure tbok 2 [(2, .pointer (some ⟨b3, 0, none⟩)), (3, .pointer (some ⟨b4, 0, none⟩)), (4, .int .i64 0), (27, .bool (p0_0 != p1_0))] rfl ⟨rfl, rfl, rfl, rfl, trivial⟩ ?_
      refine WO_split (d := 27) (b := p0_0 != p1_0) rfl (fun hb19 => ?_) (fun hb19 => ?_)
      · have hx16 := ifT hb19 hx16
        refine WO_pure tbok 13 [(4, .int .i64 0), (40, .bool true)] rfl ⟨rfl, rfl, trivial⟩ ?_
        refine WO_end ?_
        cases hx16
        refine WK.sub ?_ (WK.cls (fun _ h => h) hk17)
        exact ⟨rfl, rfl, trivial⟩
      · have hx16 := ifF hb19 hx16
        refine WO_pure tbok 1 [(2, .pointer (some ⟨b3, 0, none⟩)), (3, .pointer (some ⟨b4, 0, none⟩)), (4, .int .i64 0), (27, .bool false), (28, .pointer (some ⟨b3, 1, none⟩))] rfl ⟨rfl, rfl, rfl, rfl, rfl, trivial⟩ ?_
        refine WO_loadB tbok 0 rfl rfl rfl rfl (fun _ h => h) rfl rfl ?_
        refine WO_pure tbok 1 [(2, .pointer (some ⟨b3, 0, none⟩)), (3, .pointer (some ⟨b4, 0, none⟩)), (4, .int .i64 0), (27, .bool false), (29, .int .i64 p0_1), (30, .pointer (some ⟨b4, 1, none⟩))] rfl ⟨rfl, rfl, rfl, rfl, rfl, rfl, trivial⟩ ?_
        refine WO_loadB tbok 1 rfl rfl rfl rfl (fun _ h => h) rfl rfl ?_
        refine WO_pure tbok 3 [(2, .pointer (some ⟨b3, 0, none⟩)), (3, .pointer (some ⟨b4, 0, none⟩)), (4, .int .i64 0), (34, .bool (p0_1 != p1_1))] rfl ⟨rfl, rfl, rfl, rfl, trivial⟩ ?_
        refine WO_split (d := 34) (b := p0_1 != p1_1) rfl (fun hb20 => ?_) (fun hb20 => ?_)
        · have hx16 := ifT hb20 hx16
          refine WO_pure tbok 6 [(4, .int .i64 0), (40, .bool true)] rfl ⟨rfl, rfl, trivial⟩ ?_
          refine WO_end ?_
          cases hx16
          refine WK.sub ?_ (WK.cls (fun _ h => h) hk17)
          exact ⟨rfl, rfl, trivial⟩
        · have hx16 := ifF hb20 hx16
          refine WO_pure tbok 1 [(3, .pointer (some ⟨b4, 0, none⟩)), (4, .int .i64 0), (34, .bool false), (35, .pointer (some ⟨b3, 2, none⟩))] rfl ⟨rfl, rfl, rfl, rfl, trivial⟩ ?_
          refine WO_loadB tbok 0 rfl rfl rfl rfl (fun _ h => h) rfl rfl ?_
          refine WO_pure tbok 1 [(4, .int .i64 0), (34, .bool false), (36, .int .i64 p0_2), (37, .pointer (some ⟨b4, 2, none⟩))] rfl ⟨rfl, rfl, rfl, rfl, trivial⟩ ?_
          refine WO_loadB tbok 1 rfl rfl rfl rfl (fun _ h => h) rfl rfl ?_
          refine WO_pure tbok 2 [(4, .int .i64 0), (40, .bool (p0_2 != p1_2))] rfl ⟨rfl, rfl, trivial⟩ ?_
          refine WO_end ?_
          cases hx16
          refine WK.sub ?_ (WK.cls (fun _ h => h) hk17)
          exact ⟨rfl, rfl, trivial⟩
  · refine WK_block ?_
    refine WK_loop (S := Int) (G := Unit) (fun s => census_both_s1 p0_0 p0_1 p0_2 p0_3 p1_0 p1_1 p1_2 p1_3 s) (fun s g => [(2, .pointer (some ⟨b3, 0, none⟩)), (3, .pointer (some ⟨b4, 0, none⟩)), (4, .int .i64 0), (10, .slice (some ⟨b5, 0, none⟩) 2 2), (11, .int .i64 2), (12, .int .i64 s)]) (fun s g => St w0 m m [[⟨b3, 24, [.int .i64 p0_0, .int .i64 p0_1, .int .i64 p0_2, .slice a_p0_3 p0_3.length c_p0_3]⟩], [⟨b4, 24, [.int .i64 p1_0, .int .i64 p1_1, .int .i64 p1_2, .slice a_p1_3 p1_3.length c_p1_3]⟩], [⟨b5, 24, [.int .i64 p0_0, .int .i64 p0_1, .int .i64 p0_2, .slice a_p0_3 p0_3.length c_p0_3, .int .i64 p1_0, .int .i64 p1_1, .int .i64 p1_2, .slice a_p1_3 p1_3.length c_p1_3]⟩]]) (fun s g => True) FUEL 0 () x7 hx8 trivial ⟨rfl, rfl, rfl, rfl, rfl, rfl, trivial⟩ (fun _ h => h) ?_
    rintro s_1 ⟨⟩ o11 fl12 hm10 - hn13 hd14
    have hm10 : census_both_s1 p0_0 p0_1 p0_2 p0_3 p1_0 p1_1 p1_2 p1_3 s_1 = some o11 := hm10
    unfold census_both_s1 at hm10
    refine WK.sub (e' := [(2, .pointer (some ⟨b3, 0, none⟩)), (3, .pointer (some ⟨b4, 0, none⟩)), (4, .int .i64 0), (10, .slice (some ⟨b5, 0, none⟩) 2 2), (11, .int .i64 2), (12, .int .i64 s_1)]) ⟨rfl, rfl, rfl, rfl, rfl, rfl, trivial⟩ (WK.cls (C' := St w0 m m [[⟨b3, 24, [.int .i64 p0_0, .int .i64 p0_1, .int .i64 p0_2, .slice a_p0_3 p0_3.length c_p0_3]⟩], [⟨b4, 24, [.int .i64 p1_0, .int .i64 p1_1, .int .i64 p1_2, .slice a_p1_3 p1_3.length c_p1_3]⟩], [⟨b5, 24, [.int .i64 p0_0, .int .i64 p0_1, .int .i64 p0_2, .slice a_p0_3 p0_3.length c_p0_3, .int .i64 p1_0, .int .i64 p1_1, .int .i64 p1_2, .slice a_p1_3 p1_3.length c_p1_3]⟩]]) (fun _ h => h) ?_)
    refine WK_seq ?_
    refine WK_region ?_
    refine WO_pure tbok 1 [(2, .pointer (some ⟨b3, 0, none⟩)), (3, .pointer (some ⟨b4, 0, none⟩)), (4, .int .i64 0), (10, .slice (some ⟨b5, 0, none⟩) 2 2), (11, .int .i64 2), (12, .int .i64 s_1), (13, .bool (decide (s_1 < 2)))] rfl ⟨rfl, rfl, rfl, rfl, rfl, rfl, rfl, trivial⟩ ?_
    refine WO_end ?_
    refine WK_seq ?_
    refine WK_cond (b := decide (s_1 < 2)) rfl (fun hb21 => ?_) (fun hb21 => ?_)
    · have hm10 := ifT hb21 hm10
      refine WK_skip ?_
      refine WK_seq ?_
      refine WK_block ?_
      refine WK_seq ?_
      refine WK_region ?_
      obtain ⟨v_3, hy22, hm10⟩ := bind_some hm10
      obtain ⟨hc23, hy22⟩ := ix_some hy22
      refine WO_index tbok rfl rfl rfl rfl rfl rfl rfl rfl (OwnX.addr hb5) (by simpa using hc23) ?_
      refine WO_loadOX (E := V4) tbok (fun _ => rfl) 2 rfl rfl rfl rfl (fun _ h => h) hb5 rfl hy22 (fun cs hcs => ?_)
      obtain ⟨a24, qa24, c25, rfl, h26⟩ := hcs
      obtain rfl := SlR.qlen h26
      refine ⟨_, rfl, ?_⟩
      refine WO_alloc tbok [.int .i64 0, .int .i64 0, .int .i64 0, .slice none 0 0] rfl rfl trivial rfl rfl rfl rfl (fun b28 => ?_)
      refine WO.cls (C' := St w0 m m [[⟨b3, 24, [.int .i64 p0_0, .int .i64 p0_1, .int .i64 p0_2, .slice a_p0_3 p0_3.length c_p0_3]⟩], [⟨b4, 24, [.int .i64 p1_0, .int .i64 p1_1, .int .i64 p1_2, .slice a_p1_3 p1_3.length c_p1_3]⟩], [⟨b5, 24, [.int .i64 p0_0, .int .i64 p0_1, .int .i64 p0_2, .slice a_p0_3 p0_3.length c_p0_3, .int .i64 p1_0, .int .i64 p1_1, .int .i64 p1_2, .slice a_p1_3 p1_3.length c_p1_3]⟩], [⟨b28, 24, [.int .i64 0, .int .i64 0, .int .i64 0, .slice none 0 0]⟩]]) (fun _ h => h) ?_
      refine WO_storeB tbok 3 [.int .i64 v_3.1, .int .i64 v_3.2.1, .int .i64 v_3.2.2.1, .slice a24 ((v_3.2.2.2).length) c25] rfl rfl rfl rfl rfl rfl rfl ?_
      refine WO.cls (C' := St w0 m m [[⟨b3, 24, [.int .i64 p0_0, .int .i64 p0_1, .int .i64 p0_2, .slice a_p0_3 p0_3.length c_p0_3]⟩], [⟨b4, 24, [.int .i64 p1_0, .int .i64 p1_1, .int .i64 p1_2, .slice a_p1_3 p1_3.length c_p1_3]⟩], [⟨b5, 24, [.int .i64 p0_0, .int .i64 p0_1, .int .i64 p0_2, .slice a_p0_3 p0_3.length c_p0_3, .int .i64 p1_0, .int .i64 p1_1, .int .i64 p1_2, .slice a_p1_3 p1_3.length c_p1_3]⟩], [⟨b28, 24, [.int .i64 v_3.1, .int .i64 v_3.2.1, .int .i64 v_3.2.2.1, .slice a24 ((v_3.2.2.2).length) c25]⟩]]) (fun _ h => h) ?_
      refine WO_end ?_
      refine WK_seq ?_
      refine WK_region ?_
      refine WO_loadB tbok 3 rfl rfl rfl rfl (fun _ h => h) rfl rfl ?_
      obtain ⟨y_4, hc29, hm10⟩ := bind_some hm10
      refine WO_call0 (.int .i64 y_4) rfl rfl trivial rfl rfl rfl rfl St_closed ⟨33, #[], #[], rfl, callable_33, fun w hw => ⟨_, hw.sat, raster_Check_walk h26 hc29⟩⟩ ?_
      refine WO_pure tbok 1 [(2, .pointer (some ⟨b3, 0, none⟩)), (3, .pointer (some ⟨b4, 0, none⟩)), (4, .int .i64 0), (7, .int .i64 y_4), (10, .slice (some ⟨b5, 0, none⟩) 2 2), (11, .int .i64 2), (12, .int .i64 s_1)] rfl ⟨rfl, rfl, rfl, rfl, rfl, rfl, rfl, trivial⟩ ?_
      refine WO_end ?_
      refine WK_seq ?_
      refine WK_region ?_
      refine WO_pure tbok 2 [(2, .pointer (some ⟨b3, 0, none⟩)), (3, .pointer (some ⟨b4, 0, none⟩)), (4, .int .i64 0), (7, .int .i64 y_4), (10, .slice (some ⟨b5, 0, none⟩) 2 2), (11, .int .i64 2), (12, .int .i64 s_1), (19, .bool (y_4 != 0))] rfl ⟨rfl, rfl, rfl, rfl, rfl, rfl, rfl, rfl, trivial⟩ ?_
      refine WO_end ?_
      refine WK_cond (b := y_4 != 0) rfl (fun hb30 => ?_) (fun hb30 => ?_)
      · have hm10 := ifT hb30 hm10
        refine WK_seq ?_
        refine WK_region ?_
        refine WO_pure tbok 2 [(2, .pointer (some ⟨b3, 0, none⟩)), (3, .pointer (some ⟨b4, 0, none⟩)), (4, .int .i64 y_4), (10, .slice (some ⟨b5, 0, none⟩) 2 2), (11, .int .i64 2), (12, .int .i64 s_1)] rfl ⟨rfl, rfl, rfl, rfl, rfl, rfl, trivial⟩ ?_
        refine WO_end ?_
        cases hm10
        have hq := hd14 _ rfl
        subst hq
        have hm : some _ = some _ := hm
        cases hm
        exact WK_ret (ret_out (L := []) (RLc_tmp rfl RLc_nil) (List.nil_sublist _) rfl)
      · have hm10 := ifF hb30 hm10
        refine WK_skip ?_
        refine WK_blk ?_
        refine WK_region ?_
        refine WO_pure tbok 2 [(2, .pointer (some ⟨b3, 0, none⟩)), (3, .pointer (some ⟨b4, 0, none⟩)), (4, .int .i64 0), (10, .slice (some ⟨b5, 0, none⟩) 2 2), (11, .int .i64 2), (12, .int .i64 (w64 (s_1 + 1)))] rfl ⟨rfl, rfl, rfl, rfl, rfl, rfl, trivial⟩ ?_
        refine WO_end ?_
        cases hm10
        refine WK.sub ?_ (WK.cls (fun _ h => St.take 3 h) (hn13 _ () rfl trivial))
        exact ⟨rfl, rfl, rfl, rfl, rfl, rfl, trivial⟩
    · have hm10 := ifF hb21 hm10
      refine WK_exit rfl ?_
      cases hm10
      refine WK.sub ?_ (WK.cls (fun _ h => h) (hk9 ((), ()) (hd14 _ rfl)))
      exact ⟨rfl, rfl, rfl, trivial⟩
def census_costs_Q (r : Int × Int × Int × List Int) : Value → List Ent → Prop := fun v L => ∃ (a0 : Option Addr) (q0 c0 : Nat), v = .agg #[.int .i64 r.1, .int .i64 r.2.1, .int .i64 r.2.2.1, .slice a0 q0 c0] ∧ OwnE 3 1 (I1 .i64) (.slice a0 q0 c0) r.2.2.2 L
theorem census_costs_walk {m : Mu} {p0_0 : Int} {p0_1 : Int} {p0_2 : Int} {p0_3 : List Int} {p1 : List Int} {p2 : List Int} {p3 : Int} {p4 : Int} {p5 : Int → Int → Option Int} {a_p0_3 : Option Addr} {q_p0_3 c_p0_3 : Nat} {a_p1 : Option Addr} {q_p1 c_p1 : Nat} {a_p2 : Option Addr} {q_p2 c_p2 : Nat} {p5v : Value} (h_p0_3 : SlR (FE (I1 .i64)) 1 m (.slice a_p0_3 q_p0_3 c_p0_3) p0_3) (h_p1 : SlR (FE (I1 .i64)) 1 m (.slice a_p1 q_p1 c_p1) p1) (h_p2 : SlR (FE (I1 .i64)) 1 m (.slice a_p2 q_p2 c_p2) p2) (hp5 : ∀ (m1 : Mu), Le m m1 → ∀ (u1 : Int), ∀ (u2 : Int), ∀ (r : Int), p5 u1 u2 = some r → SpecV Try.prog p5v [.int .i64 u1, .int .i64 u2] m1 (fun v _ _ => v = .int .i64 r)) {r : Int × Int × Int × List Int} (hm : census_costs p0_0 p0_1 p0_2 p0_3 p1 p2 p3 p4 p5 = some r) :
    Go.E.Spec Try.prog 37 [.agg #[.int .i64 p0_0, .int .i64 p0_1, .int .i64 p0_2, .slice a_p0_3 q_p0_3 c_p0_3], .slice a_p1 q_p1 c_p1, .slice a_p2 q_p2 c_p2, .int .i64 p3, .int .i64 p4, p5v] m (fun v _ L => census_costs_Q r v L) := by
  refine Spec_enter Try.func37 rfl rfl rfl (fun w0 => ?_)
  refine WK.sub (e' := [(0, .agg #[.int .i64 p0_0, .int .i64 p0_1, .int .i64 p0_2, .slice a_p0_3 q_p0_3 c_p0_3]), (1, .slice a_p1 q_p1 c_p1), (2, .slice a_p2 q_p2 c_p2), (3, .int .i64 p3), (4, .int .i64 p4), (5, p5v)]) ⟨rfl, rfl, rfl, rfl, rfl, rfl, trivial⟩ ?_
  obtain rfl := SlR.qlen h_p0_3
  obtain rfl := SlR.qlen h_p1
  obtain rfl := SlR.qlen h_p2
  refine WK.sub (e' := [(0, .agg #[.int .i64 p0_0, .int .i64 p0_1, .int .i64 p0_2, .slice a_p0_3 p0_3.length c_p0_3]), (1, .slice a_p1 p1.length c_p1), (2, .slice a_p2 p2.length c_p2), (3, .int .i64 p3), (4, .int .i64 p4), (5, p5v)]) ⟨rfl, rfl, rfl, rfl, rfl, rfl, trivial⟩ ?_
  unfold census_costs at hm
  refine WK_seq ?_
  refine WK_region ?_
  refine WO_box [.int .i64 p0_0, .int .i64 p0_1, .int .i64 p0_2, .slice a_p0_3 p0_3.length c_p0_3] rfl rfl trivial rfl rfl rfl (fun b4 => ?_)
  refine WO.cls (C' := St w0 m m [[⟨b4, 24, [.int .i64 p0_0, .int .i64 p0_1, .int .i64 p0_2, .slice a_p0_3 p0_3.length c_p0_3]⟩]]) (fun _ h => h) ?_
  refine WO_alloc tbok [.int .i64 0, .int .i64 0, .int .i64 0, .slice none 0 0] rfl rfl trivial rfl rfl rfl rfl (fun b5 => ?_)
  refine WO.cls (C' := St w0 m m [[⟨b4, 24, [.int .i64 p0_0, .int .i64 p0_1, .int .i64 p0_2, .slice a_p0_3 p0_3.length c_p0_3]⟩], [⟨b5, 39, [.int .i64 0, .int .i64 0, .int .i64 0, .slice none 0 0]⟩]]) (fun _ h => h) ?_
  refine WO_end ?_
  refine WK_seq ?_
  refine WK_region ?_
  refine WO_pure tbok 1 [(1, .slice a_p1 p1.length c_p1), (2, .slice a_p2 p2.length c_p2), (3, .int .i64 p3), (4, .int .i64 p4), (5, p5v), (6, .pointer (some ⟨b4, 0, none⟩)), (12, .pointer (some ⟨b5, 0, none⟩)), (18, .pointer (some ⟨b4, 0, none⟩))] rfl ⟨rfl, rfl, rfl, rfl, rfl, rfl, rfl, rfl, trivial⟩ ?_
  refine WO_loadB tbok 0 rfl rfl rfl rfl (fun _ h => h) rfl rfl ?_
  refine WO_pure tbok 1 [(1, .slice a_p1 p1.length c_p1), (2, .slice a_p2 p2.length c_p2), (3, .int .i64 p3), (4, .int .i64 p4), (5, p5v), (6, .pointer (some ⟨b4, 0, none⟩)), (12, .pointer (some ⟨b5, 0, none⟩)), (19, .int .i64 p0_0), (20, .pointer (some ⟨b4, 1, none⟩))] rfl ⟨rfl, rfl, rfl, rfl, rfl, rfl, rfl, rfl, rfl, trivial⟩ ?_
  refine WO_loadB tbok 0 rfl rfl rfl rfl (fun _ h => h) rfl rfl ?_
  refine WO_pure tbok 2 [(1, .slice a_p1 p1.length c_p1), (2, .slice a_p2 p2.length c_p2), (3, .int .i64 p3), (4, .int .i64 p4), (5, p5v), (6, .pointer (some ⟨b4, 0, none⟩)), (12, .pointer (some ⟨b5, 0, none⟩)), (23, .agg #[.int .i64 p0_0, .int .i64 p0_1, .int .i64 p3, .slice none 0 0])] rfl ⟨rfl, rfl, rfl, rfl, rfl, rfl, rfl, rfl, trivial⟩ ?_
  refine WO_alloc tbok [.int .i64 0, .int .i64 0, .int .i64 0, .slice none 0 0] rfl rfl trivial rfl rfl rfl rfl (fun b6 => ?_)
  refine WO.cls (C' := St w0 m m [[⟨b4, 24, [.int .i64 p0_0, .int .i64 p0_1, .int .i64 p0_2, .slice a_p0_3 p0_3.length c_p0_3]⟩], [⟨b5, 39, [.int .i64 0, .int .i64 0, .int .i64 0, .slice none 0 0]⟩], [⟨b6, 39, [.int .i64 0, .int .i64 0, .int .i64 0, .slice none 0 0]⟩]]) (fun _ h => h) ?_
  refine WO_storeB tbok 2 [.int .i64 p0_0, .int .i64 p0_1, .int .i64 p3, .slice none 0 0] rfl rfl rfl rfl rfl rfl rfl ?_
  refine WO.cls (C' := St w0 m m [[⟨b4, 24, [.int .i64 p0_0, .int .i64 p0_1, .int .i64 p0_2, .slice a_p0_3 p0_3.length c_p0_3]⟩], [⟨b5, 39, [.int .i64 0, .int .i64 0, .int .i64 0, .slice none 0 0]⟩], [⟨b6, 39, [.int .i64 p0_0, .int .i64 p0_1, .int .i64 p3, .slice none 0 0]⟩]]) (fun _ h => h) ?_
  refine WO_end ?_
  refine WK_seq ?_
  refine WK_seq ?_
  refine WK_region ?_
  refine WO_pure tbok 3 [(2, .slice a_p2 p2.length c_p2), (3, .int .i64 p3), (4, .int .i64 p4), (5, p5v), (6, .pointer (some ⟨b4, 0, none⟩)), (12, .pointer (some ⟨b5, 0, none⟩)), (13, .pointer (some ⟨b6, 0, none⟩)), (24, .slice a_p1 p1.length c_p1), (25, .int .i64 (p1.length : Int)), (26, .int .i64 0)] rfl ⟨rfl, rfl, rfl, rfl, rfl, rfl, rfl, rfl, rfl, rfl, trivial⟩ ?_
  refine WO_end ?_
  refine WK_pad ?_
  obtain ⟨x18, hx19, hm⟩ := bind_some hm
  refine WK_join (β := (List Int) × (Option Addr × Nat × Nat × List Ent)) (fun p => p.1 = x18 ∧ OwnE 3 1 (I1 .i64) (.slice p.2.1 p.2.2.1 p.2.2.2.1) p.1 p.2.2.2.2) (fun p => [(12, .pointer (some ⟨b5, 0, none⟩)), (13, .pointer (some ⟨b6, 0, none⟩))]) (fun p => St w0 m m [[⟨b4, 24, [.int .i64 p0_0, .int .i64 p0_1, .int .i64 p0_2, .slice a_p0_3 p0_3.length c_p0_3]⟩], [⟨b5, 39, [.int .i64 0, .int .i64 0, .int .i64 0, .slice none 0 0]⟩], [⟨b6, 39, [.int .i64 p0_0, .int .i64 p0_1, .int .i64 p3, .slice p.2.1 p.2.2.1 p.2.2.2.1]⟩], p.2.2.2.2]) ?_ (fun hk20 => ?_)
  · rintro ⟨l_3, ⟨a15, q16, c17, L14⟩⟩ ⟨hq26, hL14⟩
    subst hq26
    have hqq : q16 = l_3.length := OwnE.qlen hL14
    subst hqq
    refine WK.sub (e' := [(12, .pointer (some ⟨b5, 0, none⟩)), (13, .pointer (some ⟨b6, 0, none⟩))]) ⟨rfl, rfl, trivial⟩ (WK.cls (C' := St w0 m m [[⟨b4, 24, [.int .i64 p0_0, .int .i64 p0_1, .int .i64 p0_2, .slice a_p0_3 p0_3.length c_p0_3]⟩], [⟨b5, 39, [.int .i64 0, .int .i64 0, .int .i64 0, .slice none 0 0]⟩], [⟨b6, 39, [.int .i64 p0_0, .int .i64 p0_1, .int .i64 p3, .slice a15 ((l_3).length) c17]⟩], L14]) (fun _ h => h) ?_)
    refine WK_seq ?_
    refine WK_region ?_
    refine WO_loadB tbok 2 rfl rfl rfl rfl (fun _ h => h) rfl rfl ?_
    refine WO_storeB tbok 1 [.int .i64 p0_0, .int .i64 p0_1, .int .i64 p3, .slice a15 ((l_3).length) c17] rfl rfl rfl rfl rfl rfl rfl ?_
    refine WO.cls (C' := St w0 m m [[⟨b4, 24, [.int .i64 p0_0, .int .i64 p0_1, .int .i64 p0_2, .slice a_p0_3 p0_3.length c_p0_3]⟩], [⟨b5, 39, [.int .i64 p0_0, .int .i64 p0_1, .int .i64 p3, .slice a15 ((l_3).length) c17]⟩], [⟨b6, 39, [.int .i64 p0_0, .int .i64 p0_1, .int .i64 p3, .slice a15 ((l_3).length) c17]⟩], L14]) (fun _ h => h) ?_
    refine WO_end ?_
    cases hm
    exact WK_ret (ret_out (L := L14) (RLc_cell tbok 1 rfl rfl rfl RLc_nil) (seg_sub 3 rfl) ⟨a15, _, c17, rfl, hL14⟩)
  · refine WK_block ?_
    refine WK_loop (S := List Int × Int) (G := Option Addr × Nat × Nat × List Ent) (fun s => census_costs_s1 p0_0 p1 p2 p3 p4 p5 s.1 s.2) (fun s g => [(2, .slice a_p2 p2.length c_p2), (3, .int .i64 p3), (4, .int .i64 p4), (5, p5v), (6, .pointer (some ⟨b4, 0, none⟩)), (12, .pointer (some ⟨b5, 0, none⟩)), (13, .pointer (some ⟨b6, 0, none⟩)), (24, .slice a_p1 p1.length c_p1), (25, .int .i64 (p1.length : Int)), (26, .int .i64 s.2)]) (fun s g => St w0 m m [[⟨b4, 24, [.int .i64 p0_0, .int .i64 p0_1, .int .i64 p0_2, .slice a_p0_3 p0_3.length c_p0_3]⟩], [⟨b5, 39, [.int .i64 0, .int .i64 0, .int .i64 0, .slice none 0 0]⟩], [⟨b6, 39, [.int .i64 p0_0, .int .i64 p0_1, .int .i64 p3, .slice g.1 g.2.1 g.2.2.1]⟩], g.2.2.2]) (fun s g => OwnE 3 1 (I1 .i64) (.slice g.1 g.2.1 g.2.2.1) s.1 g.2.2.2) FUEL (([] : List Int), 0) (none, 0, 0, []) x18 hx19 (OwnE.nil (T := 3) (k := 1) (E := (I1 .i64)) none) ⟨rfl, rfl, rfl, rfl, rfl, rfl, rfl, rfl, rfl, rfl, trivial⟩ (fun _ h => h) ?_
    rintro ⟨l_1, s_2⟩ ⟨a10, q11, c12, L9⟩ o22 fl23 hm21 hL9 hn24 hd25
    have hm21 : census_costs_s1 p0_0 p1 p2 p3 p4 p5 l_1 s_2 = some o22 := hm21
    unfold census_costs_s1 at hm21
    have hqq : q11 = l_1.length := OwnE.qlen hL9
    subst hqq
    refine WK.sub (e' := [(2, .slice a_p2 p2.length c_p2), (3, .int .i64 p3), (4, .int .i64 p4), (5, p5v), (6, .pointer (some ⟨b4, 0, none⟩)), (12, .pointer (some ⟨b5, 0, none⟩)), (13, .pointer (some ⟨b6, 0, none⟩)), (24, .slice a_p1 p1.length c_p1), (25, .int .i64 (p1.length : Int)), (26, .int .i64 s_2)]) ⟨rfl, rfl, rfl, rfl, rfl, rfl, rfl, rfl, rfl, rfl, trivial⟩ (WK.cls (C' := St w0 m m [[⟨b4, 24, [.int .i64 p0_0, .int .i64 p0_1, .int .i64 p0_2, .slice a_p0_3 p0_3.length c_p0_3]⟩], [⟨b5, 39, [.int .i64 0, .int .i64 0, .int .i64 0, .slice none 0 0]⟩], [⟨b6, 39, [.int .i64 p0_0, .int .i64 p0_1, .int .i64 p3, .slice a10 ((l_1).length) c12]⟩], L9]) (fun _ h => h) ?_)
    refine WK_seq ?_
    refine WK_region ?_
    refine WO_pure tbok 1 [(2, .slice a_p2 p2.length c_p2), (3, .int .i64 p3), (4, .int .i64 p4), (5, p5v), (6, .pointer (some ⟨b4, 0, none⟩)), (12, .pointer (some ⟨b5, 0, none⟩)), (13, .pointer (some ⟨b6, 0, none⟩)), (24, .slice a_p1 p1.length c_p1), (25, .int .i64 (p1.length : Int)), (26, .int .i64 s_2), (27, .bool (decide (s_2 < (p1.length : Int))))] rfl ⟨rfl, rfl, rfl, rfl, rfl, rfl, rfl, rfl, rfl, rfl, rfl, trivial⟩ ?_
    refine WO_end ?_
    refine WK_seq ?_
    refine WK_cond (b := decide (s_2 < (p1.length : Int))) rfl (fun hb27 => ?_) (fun hb27 => ?_)
    · have hm21 := ifT hb27 hm21
      refine WK_skip ?_
      refine WK_seq ?_
      refine WK_block ?_
      refine WK_seq ?_
      refine WK_region ?_
      refine WO_pure tbok 1 [(2, .slice a_p2 p2.length c_p2), (3, .int .i64 p3), (4, .int .i64 p4), (5, p5v), (6, .pointer (some ⟨b4, 0, none⟩)), (12, .pointer (some ⟨b5, 0, none⟩)), (13, .pointer (some ⟨b6, 0, none⟩)), (24, .slice a_p1 p1.length c_p1), (25, .int .i64 (p1.length : Int)), (26, .int .i64 s_2), (28, .int .i64 s_2)] rfl ⟨rfl, rfl, rfl, rfl, rfl, rfl, rfl, rfl, rfl, rfl, rfl, trivial⟩ ?_
      obtain ⟨v_4, hy28, hm21⟩ := bind_some hm21
      obtain ⟨hc29, hy28⟩ := ix_some hy28
      refine WO_index tbok rfl rfl rfl rfl rfl rfl rfl rfl (SlR.addr h_p1) hc29 ?_
      refine WO_loadE tbok rfl rfl rfl rfl (fun _ h => St.sat h) h_p1 hy28 rfl ?_
      refine WO_pure tbok 2 [(2, .slice a_p2 p2.length c_p2), (3, .int .i64 p3), (4, .int .i64 p4), (5, p5v), (6, .pointer (some ⟨b4, 0, none⟩)), (12, .pointer (some ⟨b5, 0, none⟩)), (13, .pointer (some ⟨b6, 0, none⟩)), (14, .int .i64 s_2), (15, .int .i64 v_4), (24, .slice a_p1 p1.length c_p1), (25, .int .i64 (p1.length : Int)), (26, .int .i64 s_2)] rfl ⟨rfl, rfl, rfl, rfl, rfl, rfl, rfl, rfl, rfl, rfl, rfl, rfl, trivial⟩ ?_
      refine WO_end ?_
      refine WK_seq ?_
      refine WK_region ?_
      refine WO_pure tbok 2 [(2, .slice a_p2 p2.length c_p2), (3, .int .i64 p3), (4, .int .i64 p4), (5, p5v), (6, .pointer (some ⟨b4, 0, none⟩)), (12, .pointer (some ⟨b5, 0, none⟩)), (13, .pointer (some ⟨b6, 0, none⟩)), (14, .int .i64 s_2), (15, .int .i64 v_4), (24, .slice a_p1 p1.length c_p1), (25, .int .i64 (p1.length : Int)), (26, .int .i64 s_2), (31, .int .i64 p3), (32, .int .i64 0)] rfl ⟨rfl, rfl, rfl, rfl, rfl, rfl, rfl, rfl, rfl, rfl, rfl, rfl, rfl, rfl, trivial⟩ ?_
      refine WO_end ?_
      obtain ⟨x40, hx41, hm21⟩ := bind_some hm21
      refine WK_join (β := (List Int) × (Option Addr × Nat × Nat × List Ent)) (fun p => p.1 = x40 ∧ OwnE 3 1 (I1 .i64) (.slice p.2.1 p.2.2.1 p.2.2.2.1) p.1 p.2.2.2.2) (fun p => [(2, .slice a_p2 p2.length c_p2), (3, .int .i64 p3), (4, .int .i64 p4), (5, p5v), (6, .pointer (some ⟨b4, 0, none⟩)), (12, .pointer (some ⟨b5, 0, none⟩)), (13, .pointer (some ⟨b6, 0, none⟩)), (24, .slice a_p1 p1.length c_p1), (25, .int .i64 (p1.length : Int)), (26, .int .i64 s_2)]) (fun p => St w0 m m [[⟨b4, 24, [.int .i64 p0_0, .int .i64 p0_1, .int .i64 p0_2, .slice a_p0_3 p0_3.length c_p0_3]⟩], [⟨b5, 39, [.int .i64 0, .int .i64 0, .int .i64 0, .slice none 0 0]⟩], [⟨b6, 39, [.int .i64 p0_0, .int .i64 p0_1, .int .i64 p3, .slice p.2.1 p.2.2.1 p.2.2.2.1]⟩], p.2.2.2.2]) ?_ (fun hk42 => ?_)
      · rintro ⟨l_7, ⟨a37, q38, c39, L36⟩⟩ ⟨hq48, hL36⟩
        subst hq48
        have hqq : q38 = l_7.length := OwnE.qlen hL36
        subst hqq
        refine WK.sub (e' := [(2, .slice a_p2 p2.length c_p2), (3, .int .i64 p3), (4, .int .i64 p4), (5, p5v), (6, .pointer (some ⟨b4, 0, none⟩)), (12, .pointer (some ⟨b5, 0, none⟩)), (13, .pointer (some ⟨b6, 0, none⟩)), (24, .slice a_p1 p1.length c_p1), (25, .int .i64 (p1.length : Int)), (26, .int .i64 s_2)]) ⟨rfl, rfl, rfl, rfl, rfl, rfl, rfl, rfl, rfl, rfl, trivial⟩ (WK.cls (C' := St w0 m m [[⟨b4, 24, [.int .i64 p0_0, .int .i64 p0_1, .int .i64 p0_2, .slice a_p0_3 p0_3.length c_p0_3]⟩], [⟨b5, 39, [.int .i64 0, .int .i64 0, .int .i64 0, .slice none 0 0]⟩], [⟨b6, 39, [.int .i64 p0_0, .int .i64 p0_1, .int .i64 p3, .slice a37 ((l_7).length) c39]⟩], L36]) (fun _ h => h) ?_)
        refine WK_blk ?_
        refine WK_region ?_
        refine WO_pure tbok 2 [(2, .slice a_p2 p2.length c_p2), (3, .int .i64 p3), (4, .int .i64 p4), (5, p5v), (6, .pointer (some ⟨b4, 0, none⟩)), (12, .pointer (some ⟨b5, 0, none⟩)), (13, .pointer (some ⟨b6, 0, none⟩)), (24, .slice a_p1 p1.length c_p1), (25, .int .i64 (p1.length : Int)), (26, .int .i64 (w64 (s_2 + 1)))] rfl ⟨rfl, rfl, rfl, rfl, rfl, rfl, rfl, rfl, rfl, rfl, trivial⟩ ?_
        refine WO_end ?_
        cases hm21
        refine WK.sub ?_ (WK.cls (fun _ h => h) (hn24 _ (a37, _, c39, L36) rfl hL36))
        exact ⟨rfl, rfl, rfl, rfl, rfl, rfl, rfl, rfl, rfl, rfl, trivial⟩
      · refine WK_block ?_
        refine WK_loop (S := List Int × Int) (G := Option Addr × Nat × Nat × List Ent) (fun s => census_costs_s2 p0_0 p2 p3 p4 p5 s_2 v_4 s.1 s.2) (fun s g => [(2, .slice a_p2 p2.length c_p2), (3, .int .i64 p3), (4, .int .i64 p4), (5, p5v), (6, .pointer (some ⟨b4, 0, none⟩)), (12, .pointer (some ⟨b5, 0, none⟩)), (13, .pointer (some ⟨b6, 0, none⟩)), (14, .int .i64 s_2), (15, .int .i64 v_4), (24, .slice a_p1 p1.length c_p1), (25, .int .i64 (p1.length : Int)), (26, .int .i64 s_2), (31, .int .i64 p3), (32, .int .i64 s.2)]) (fun s g => St w0 m m [[⟨b4, 24, [.int .i64 p0_0, .int .i64 p0_1, .int .i64 p0_2, .slice a_p0_3 p0_3.length c_p0_3]⟩], [⟨b5, 39, [.int .i64 0, .int .i64 0, .int .i64 0, .slice none 0 0]⟩], [⟨b6, 39, [.int .i64 p0_0, .int .i64 p0_1, .int .i64 p3, .slice g.1 g.2.1 g.2.2.1]⟩], g.2.2.2]) (fun s g => OwnE 3 1 (I1 .i64) (.slice g.1 g.2.1 g.2.2.1) s.1 g.2.2.2) FUEL (l_1, 0) (a10, _, c12, L9) x40 hx41 hL9 ⟨rfl, rfl, rfl, rfl, rfl, rfl, rfl, rfl, rfl, rfl, rfl, rfl, rfl, rfl, trivial⟩ (fun _ h => h) ?_
        rintro ⟨l_5, s_6⟩ ⟨a32, q33, c34, L31⟩ o44 fl45 hm43 hL31 hn46 hd47
        have hm43 : census_costs_s2 p0_0 p2 p3 p4 p5 s_2 v_4 l_5 s_6 = some o44 := hm43
        unfold census_costs_s2 at hm43
        have hqq : q33 = l_5.length := OwnE.qlen hL31
        subst hqq
        refine WK.sub (e' := [(2, .slice a_p2 p2.length c_p2), (3, .int .i64 p3), (4, .int .i64 p4), (5, p5v), (6, .pointer (some ⟨b4, 0, none⟩)), (12, .pointer (some ⟨b5, 0, none⟩)), (13, .pointer (some ⟨b6, 0, none⟩)), (14, .int .i64 s_2), (15, .int .i64 v_4), (24, .slice a_p1 p1.length c_p1), (25, .int .i64 (p1.length : Int)), (26, .int .i64 s_2), (31, .int .i64 p3), (32, .int .i64 s_6)]) ⟨rfl, rfl, rfl, rfl, rfl, rfl, rfl, rfl, rfl, rfl, rfl, rfl, rfl, rfl, trivial⟩ (WK.cls (C' := St w0 m m [[⟨b4, 24, [.int .i64 p0_0, .int .i64 p0_1, .int .i64 p0_2, .slice a_p0_3 p0_3.length c_p0_3]⟩], [⟨b5, 39, [.int .i64 0, .int .i64 0, .int .i64 0, .slice none 0 0]⟩], [⟨b6, 39, [.int .i64 p0_0, .int .i64 p0_1, .int .i64 p3, .slice a32 ((l_5).length) c34]⟩], L31]) (fun _ h => h) ?_)
        refine WK_seq ?_
        refine WK_region ?_
        refine WO_pure tbok 1 [(2, .slice a_p2 p2.length c_p2), (3, .int .i64 p3), (4, .int .i64 p4), (5, p5v), (6, .pointer (some ⟨b4, 0, none⟩)), (12, .pointer (some ⟨b5, 0, none⟩)), (13, .pointer (some ⟨b6, 0, none⟩)), (14, .int .i64 s_2), (15, .int .i64 v_4), (24, .slice a_p1 p1.length c_p1), (25, .int .i64 (p1.length : Int)), (26, .int .i64 s_2), (31, .int .i64 p3), (32, .int .i64 s_6), (33, .bool (decide (s_6 < p3)))] rfl ⟨rfl, rfl, rfl, rfl, rfl, rfl, rfl, rfl, rfl, rfl, rfl, rfl, rfl, rfl, rfl, trivial⟩ ?_
        refine WO_end ?_
        refine WK_seq ?_
        refine WK_cond (b := decide (s_6 < p3)) rfl (fun hb49 => ?_) (fun hb49 => ?_)
        · have hm43 := ifT hb49 hm43
          refine WK_skip ?_
          refine WK_seq ?_
          refine WK_block ?_
          refine WK_seq ?_
          refine WK_region ?_
          refine WO_pure tbok 2 [(2, .slice a_p2 p2.length c_p2), (3, .int .i64 p3), (4, .int .i64 p4), (5, p5v), (6, .pointer (some ⟨b4, 0, none⟩)), (12, .pointer (some ⟨b5, 0, none⟩)), (13, .pointer (some ⟨b6, 0, none⟩)), (14, .int .i64 s_2), (15, .int .i64 v_4), (16, .int .i64 s_6), (24, .slice a_p1 p1.length c_p1), (25, .int .i64 (p1.length : Int)), (26, .int .i64 s_2), (31, .int .i64 p3), (32, .int .i64 s_6)] rfl ⟨rfl, rfl, rfl, rfl, rfl, rfl, rfl, rfl, rfl, rfl, rfl, rfl, rfl, rfl, rfl, trivial⟩ ?_
          refine WO_end ?_
          refine WK_seq ?_
          refine WK_region ?_
          refine WO_pure tbok 2 [(2, .slice a_p2 p2.length c_p2), (3, .int .i64 p3), (4, .int .i64 p4), (5, p5v), (6, .pointer (some ⟨b4, 0, none⟩)), (12, .pointer (some ⟨b5, 0, none⟩)), (13, .pointer (some ⟨b6, 0, none⟩)), (14, .int .i64 s_2), (15, .int .i64 v_4), (16, .int .i64 s_6), (17, .int .i64 p4), (24, .slice a_p1 p1.length c_p1), (25, .int .i64 (p1.length : Int)), (26, .int .i64 s_2), (31, .int .i64 p3), (32, .int .i64 s_6)] rfl ⟨rfl, rfl, rfl, rfl, rfl, rfl, rfl, rfl, rfl, rfl, rfl, rfl, rfl, rfl, rfl, rfl, trivial⟩ ?_
          refine WO_end ?_
          refine WK_seq ?_
          refine WK_seq ?_
          refine WK_region ?_
          refine WO_pure tbok 2 [(2, .slice a_p2 p2.length c_p2), (3, .int .i64 p3), (4, .int .i64 p4), (5, p5v), (6, .pointer (some ⟨b4, 0, none⟩)), (12, .pointer (some ⟨b5, 0, none⟩)), (13, .pointer (some ⟨b6, 0, none⟩)), (14, .int .i64 s_2), (15, .int .i64 v_4), (16, .int .i64 s_6), (17, .int .i64 p4), (24, .slice a_p1 p1.length c_p1), (25, .int .i64 (p1.length : Int)), (26, .int .i64 s_2), (31, .int .i64 p3), (32, .int .i64 s_6), (36, .int .i64 s_2), (37, .pointer (some ⟨b4, 0, none⟩))] rfl ⟨rfl, rfl, rfl, rfl, rfl, rfl, rfl, rfl, rfl, rfl, rfl, rfl, rfl, rfl, rfl, rfl, rfl, rfl, trivial⟩ ?_
          refine WO_loadB tbok 0 rfl rfl rfl rfl (fun _ h => h) rfl rfl ?_
          obtain ⟨hc50, hm43⟩ := chk_some hm43
          refine WO_rem rfl rfl rfl rfl rfl hc50 ?_
          refine WO_pure tbok 2 [(2, .slice a_p2 p2.length c_p2), (3, .int .i64 p3), (4, .int .i64 p4), (5, p5v), (6, .pointer (some ⟨b4, 0, none⟩)), (12, .pointer (some ⟨b5, 0, none⟩)), (13, .pointer (some ⟨b6, 0, none⟩)), (14, .int .i64 s_2), (15, .int .i64 v_4), (16, .int .i64 s_6), (17, .int .i64 p4), (24, .slice a_p1 p1.length c_p1), (25, .int .i64 (p1.length : Int)), (26, .int .i64 s_2), (31, .int .i64 p3), (32, .int .i64 s_6), (41, .bool (decide (s_6 ≤ (Int.tmod s_2 p0_0))))] rfl ⟨rfl, rfl, rfl, rfl, rfl, rfl, rfl, rfl, rfl, rfl, rfl, rfl, rfl, rfl, rfl, rfl, rfl, trivial⟩ ?_
          refine WO_end ?_
          obtain ⟨s_8, hx51, hm43⟩ := bind_some hm43
          refine WK_meet [(2, .slice a_p2 p2.length c_p2), (3, .int .i64 p3), (4, .int .i64 p4), (5, p5v), (6, .pointer (some ⟨b4, 0, none⟩)), (12, .pointer (some ⟨b5, 0, none⟩)), (13, .pointer (some ⟨b6, 0, none⟩)), (14, .int .i64 s_2), (15, .int .i64 v_4), (17, .int .i64 s_8), (24, .slice a_p1 p1.length c_p1), (25, .int .i64 (p1.length : Int)), (26, .int .i64 s_2), (31, .int .i64 p3), (32, .int .i64 s_6)] (St w0 m m [[⟨b4, 24, [.int .i64 p0_0, .int .i64 p0_1, .int .i64 p0_2, .slice a_p0_3 p0_3.length c_p0_3]⟩], [⟨b5, 39, [.int .i64 0, .int .i64 0, .int .i64 0, .slice none 0 0]⟩], [⟨b6, 39, [.int .i64 p0_0, .int .i64 p0_1, .int .i64 p3, .slice a32 ((l_5).length) c34]⟩], L31]) ?_ (fun hk52 => ?_)
          · refine WK_region ?_
            refine WO_pure tbok 1 [(2, .slice a_p2 p2.length c_p2), (3, .int .i64 p3), (4, .int .i64 p4), (5, p5v), (6, .pointer (some ⟨b4, 0, none⟩)), (12, .pointer (some ⟨b5, 0, none⟩)), (13, .pointer (some ⟨b6, 0, none⟩)), (14, .int .i64 s_2), (15, .int .i64 v_4), (17, .int .i64 s_8), (24, .slice a_p1 p1.length c_p1), (25, .int .i64 (p1.length : Int)), (26, .int .i64 s_2), (31, .int .i64 p3), (32, .int .i64 s_6), (51, .pointer (some ⟨b6, 3, none⟩))] rfl ⟨rfl, rfl, rfl, rfl, rfl, rfl, rfl, rfl, rfl, rfl, rfl, rfl, rfl, rfl, rfl, rfl, trivial⟩ ?_
            refine WO_loadB tbok 2 rfl rfl rfl rfl (fun _ h => h) rfl rfl ?_
            refine WO_pure tbok 1 [(2, .slice a_p2 p2.length c_p2), (3, .int .i64 p3), (4, .int .i64 p4), (5, p5v), (6, .pointer (some ⟨b4, 0, none⟩)), (12, .pointer (some ⟨b5, 0, none⟩)), (13, .pointer (some ⟨b6, 0, none⟩)), (14, .int .i64 s_2), (15, .int .i64 v_4), (24, .slice a_p1 p1.length c_p1), (25, .int .i64 (p1.length : Int)), (26, .int .i64 s_2), (31, .int .i64 p3), (32, .int .i64 s_6), (52, .slice a32 ((l_5).length) c34), (53, .int .i64 s_8)] rfl ⟨rfl, rfl, rfl, rfl, rfl, rfl, rfl, rfl, rfl, rfl, rfl, rfl, rfl, rfl, rfl, rfl, trivial⟩ ?_
            refine WO_bslice (E := (I1 .i64)) tbok (fun _ => rfl) (by decide) [.int .i64 s_8] ([s_8] : List Int) rfl rfl trivial rfl rfl rfl rfl rfl rfl rfl rfl rfl rfl rfl rfl (fun b53 hb53 => ?_)
            refine WO.cls (C' := St w0 m m [[⟨b4, 24, [.int .i64 p0_0, .int .i64 p0_1, .int .i64 p0_2, .slice a_p0_3 p0_3.length c_p0_3]⟩], [⟨b5, 39, [.int .i64 0, .int .i64 0, .int .i64 0, .slice none 0 0]⟩], [⟨b6, 39, [.int .i64 p0_0, .int .i64 p0_1, .int .i64 p3, .slice a32 ((l_5).length) c34]⟩], L31, [⟨b53, 3, ([s_8] : List Int).flatMap (I1 .i64)⟩]]) (fun _ h => h) ?_
            obtain ⟨hc55, hm43⟩ := chk_some hm43
            refine WO_append (E := (I1 .i64)) tbok (fun _ => rfl) 3 ([s_8] : List Int) (fun _ _ => rfl) rfl rfl rfl rfl rfl rfl rfl rfl rfl rfl rfl rfl hL31 rfl (src_seg (j := 4) rfl) (ap_ok (by decide) hc55) (ap_max hc55) (fun a56 c57 L58 hL58 => ?_)
            refine WO.cls (C' := St w0 m m [[⟨b4, 24, [.int .i64 p0_0, .int .i64 p0_1, .int .i64 p0_2, .slice a_p0_3 p0_3.length c_p0_3]⟩], [⟨b5, 39, [.int .i64 0, .int .i64 0, .int .i64 0, .slice none 0 0]⟩], [⟨b6, 39, [.int .i64 p0_0, .int .i64 p0_1, .int .i64 p3, .slice a32 ((l_5).length) c34]⟩], L58, [⟨b53, 3, ([s_8] : List Int).flatMap (I1 .i64)⟩]]) (fun _ h => h) ?_
            refine WO_pure tbok 1 [(2, .slice a_p2 p2.length c_p2), (3, .int .i64 p3), (4, .int .i64 p4), (5, p5v), (6, .pointer (some ⟨b4, 0, none⟩)), (12, .pointer (some ⟨b5, 0, none⟩)), (13, .pointer (some ⟨b6, 0, none⟩)), (14, .int .i64 s_2), (15, .int .i64 v_4), (24, .slice a_p1 p1.length c_p1), (25, .int .i64 (p1.length : Int)), (26, .int .i64 s_2), (31, .int .i64 p3), (32, .int .i64 s_6), (55, .slice a56 ((l_5 ++ ([s_8] : List Int)).length) c57), (56, .pointer (some ⟨b6, 3, none⟩))] rfl ⟨rfl, rfl, rfl, rfl, rfl, rfl, rfl, rfl, rfl, rfl, rfl, rfl, rfl, rfl, rfl, rfl, trivial⟩ ?_
            refine WO_storeB tbok 2 [.int .i64 p0_0, .int .i64 p0_1, .int .i64 p3, .slice a56 ((l_5 ++ ([s_8] : List Int)).length) c57] rfl rfl rfl rfl rfl rfl rfl ?_
            refine WO.cls (C' := St w0 m m [[⟨b4, 24, [.int .i64 p0_0, .int .i64 p0_1, .int .i64 p0_2, .slice a_p0_3 p0_3.length c_p0_3]⟩], [⟨b5, 39, [.int .i64 0, .int .i64 0, .int .i64 0, .slice none 0 0]⟩], [⟨b6, 39, [.int .i64 p0_0, .int .i64 p0_1, .int .i64 p3, .slice a56 ((l_5 ++ ([s_8] : List Int)).length) c57]⟩], L58, [⟨b53, 3, ([s_8] : List Int).flatMap (I1 .i64)⟩]]) (fun _ h => h) ?_
            refine WO_end ?_
            refine WK_blk ?_
            refine WK_region ?_
            refine WO_pure tbok 2 [(2, .slice a_p2 p2.length c_p2), (3, .int .i64 p3), (4, .int .i64 p4), (5, p5v), (6, .pointer (some ⟨b4, 0, none⟩)), (12, .pointer (some ⟨b5, 0, none⟩)), (13, .pointer (some ⟨b6, 0, none⟩)), (14, .int .i64 s_2), (15, .int .i64 v_4), (24, .slice a_p1 p1.length c_p1), (25, .int .i64 (p1.length : Int)), (26, .int .i64 s_2), (31, .int .i64 p3), (32, .int .i64 (w64 (s_6 + 1)))] rfl ⟨rfl, rfl, rfl, rfl, rfl, rfl, rfl, rfl, rfl, rfl, rfl, rfl, rfl, rfl, trivial⟩ ?_
            refine WO_end ?_
            cases hm43
            refine WK.sub ?_ (WK.cls (fun _ h => St.take 4 h) (hn46 _ (a56, (l_5 ++ ([s_8] : List Int)).length, c57, L58) rfl hL58))
            exact ⟨rfl, rfl, rfl, rfl, rfl, rfl, rfl, rfl, rfl, rfl, rfl, rfl, rfl, rfl, trivial⟩
          · refine WK_cond (b := decide (s_6 ≤ (Int.tmod s_2 p0_0))) rfl (fun hb60 => ?_) (fun hb60 => ?_)
            · have hx51 := ifT hb60 hx51
              refine WK_region ?_
              refine WO_pure tbok 6 [(2, .slice a_p2 p2.length c_p2), (3, .int .i64 p3), (4, .int .i64 p4), (5, p5v), (6, .pointer (some ⟨b4, 0, none⟩)), (12, .pointer (some ⟨b5, 0, none⟩)), (13, .pointer (some ⟨b6, 0, none⟩)), (14, .int .i64 s_2), (15, .int .i64 v_4), (17, .int .i64 p4), (24, .slice a_p1 p1.length c_p1), (25, .int .i64 (p1.length : Int)), (26, .int .i64 s_2), (31, .int .i64 p3), (32, .int .i64 s_6), (42, p5v), (43, .int .i64 v_4), (44, .slice a_p2 p2.length c_p2), (47, .int .i64 (w64 (s_2 - s_6)))] rfl ⟨rfl, rfl, rfl, rfl, rfl, rfl, rfl, rfl, rfl, rfl, rfl, rfl, rfl, rfl, rfl, rfl, rfl, rfl, rfl, trivial⟩ ?_
              obtain ⟨v_9, hy61, hx51⟩ := bind_some hx51
              obtain ⟨hc62, hy61⟩ := ix_some hy61
              refine WO_index tbok rfl rfl rfl rfl rfl rfl rfl rfl (SlR.addr h_p2) hc62 ?_
              refine WO_loadE tbok rfl rfl rfl rfl (fun _ h => St.sat h) h_p2 hy61 rfl ?_
              obtain ⟨y_10, hc63, hx51⟩ := bind_some hx51
              obtain ⟨f0, first0, cap0, hf0, hcal0, hsp0⟩ := hp5 _ (Le.refl _) v_4 v_9 _ hc63
              refine WO_call0 (.int .i64 y_10) rfl rfl trivial rfl rfl rfl rfl St_closed ⟨f0, first0, cap0, hf0, hcal0, fun w hw => ⟨m, hw.sat, hsp0⟩⟩ ?_
              refine WO_pure tbok 1 [(2, .slice a_p2 p2.length c_p2), (3, .int .i64 p3), (4, .int .i64 p4), (5, p5v), (6, .pointer (some ⟨b4, 0, none⟩)), (12, .pointer (some ⟨b5, 0, none⟩)), (13, .pointer (some ⟨b6, 0, none⟩)), (14, .int .i64 s_2), (15, .int .i64 v_4), (17, .int .i64 y_10), (24, .slice a_p1 p1.length c_p1), (25, .int .i64 (p1.length : Int)), (26, .int .i64 s_2), (31, .int .i64 p3), (32, .int .i64 s_6)] rfl ⟨rfl, rfl, rfl, rfl, rfl, rfl, rfl, rfl, rfl, rfl, rfl, rfl, rfl, rfl, rfl, trivial⟩ ?_
              refine WO_end ?_
              cases hx51
              refine WK.sub ?_ (WK.cls (fun _ h => h) hk52)
              exact ⟨rfl, rfl, rfl, rfl, rfl, rfl, rfl, rfl, rfl, rfl, rfl, rfl, rfl, rfl, rfl, trivial⟩
            · have hx51 := ifF hb60 hx51
              refine WK_skip ?_
              cases hx51
              refine WK.sub ?_ (WK.cls (fun _ h => h) hk52)
              exact ⟨rfl, rfl, rfl, rfl, rfl, rfl, rfl, rfl, rfl, rfl, rfl, rfl, rfl, rfl, rfl, trivial⟩
        · have hm43 := ifF hb49 hm43
          refine WK_exit rfl ?_
          cases hm43
          refine WK.sub ?_ (WK.cls (fun _ h => h) (hk42 (l_5, (a32, _, c34, L31)) ⟨(hd47 _ rfl), hL31⟩))
          exact ⟨rfl, rfl, rfl, rfl, rfl, rfl, rfl, rfl, rfl, rfl, trivial⟩
    · have hm21 := ifF hb27 hm21
      refine WK_exit rfl ?_
      cases hm21
      refine WK.sub ?_ (WK.cls (fun _ h => h) (hk20 (l_1, (a10, _, c12, L9)) ⟨(hd25 _ rfl), hL9⟩))
      exact ⟨rfl, rfl, trivial⟩
theorem census_Plain_c1_walk {m : Mu} {p0 : Int} {p1 : Int}   {r : Int} (hm : census_Plain_c1 p0 p1 = some r) :
    Go.E.Spec Try.prog 38 [.int .i64 p0, .int .i64 p1] m (fun v _ _ => v = .int .i64 r) := by
  refine Spec_enter Try.func38 rfl rfl rfl (fun w0 => ?_)
  refine WK.sub (e' := [(0, .int .i64 p0), (1, .int .i64 p1)]) ⟨rfl, rfl, trivial⟩ ?_
  refine WK.sub (e' := [(0, .int .i64 p0), (1, .int .i64 p1)]) ⟨rfl, rfl, trivial⟩ ?_
  unfold census_Plain_c1 at hm
  refine WK_seq ?_
  refine WK_region ?_
  refine WO_pure tbok 1 [(0, .int .i64 p0), (1, .int .i64 p1), (4, .int .i64 0)] rfl ⟨rfl, rfl, rfl, trivial⟩ ?_
  refine WO_end ?_
  refine WK_seq ?_
  refine WK_region ?_
  refine WO_pure tbok 8 [(4, .int .i64 (if (w64 (p0 - p1)) < (w64 (p1 - p0)) then (w64 (p1 - p0)) else (w64 (p0 - p1))))] rfl ⟨rfl, trivial⟩ ?_
  refine WO_end ?_
  cases hm
  exact WK_ret (ret_out (L := []) (RLc_tmp rfl RLc_nil) (List.nil_sublist _) rfl)
def census_Plain_Q (r : Int × Int × Int × List Int × Int) : Value → List Ent → Prop := fun v L => ∃ (a0 : Option Addr) (q0 c0 : Nat), v = .tuple #[.agg #[.int .i64 r.1, .int .i64 r.2.1, .int .i64 r.2.2.1, .slice a0 q0 c0], .int .i64 r.2.2.2.2] ∧ OwnE 3 1 (I1 .i64) (.slice a0 q0 c0) r.2.2.2.1 L
theorem census_Plain_walk {m : Mu} {p0_0 : Int} {p0_1 : Int} {p0_2 : Int} {p0_3 : List Int} {p1_0 : Int} {p1_1 : Int} {p1_2 : Int} {p1_3 : List Int} {p2 : Int} {a_p0_3 : Option Addr} {q_p0_3 c_p0_3 : Nat} {a_p1_3 : Option Addr} {q_p1_3 c_p1_3 : Nat} (h_p0_3 : SlR (FE (I1 .i64)) 1 m (.slice a_p0_3 q_p0_3 c_p0_3) p0_3) (h_p1_3 : SlR (FE (I1 .i64)) 1 m (.slice a_p1_3 q_p1_3 c_p1_3) p1_3) {r : Int × Int × Int × List Int × Int} (hm : census_Plain p0_0 p0_1 p0_2 p0_3 p1_0 p1_1 p1_2 p1_3 p2 = some r) :
    Go.E.Spec Try.prog 18 [.agg #[.int .i64 p0_0, .int .i64 p0_1, .int .i64 p0_2, .slice a_p0_3 q_p0_3 c_p0_3], .agg #[.int .i64 p1_0, .int .i64 p1_1, .int .i64 p1_2, .slice a_p1_3 q_p1_3 c_p1_3], .int .i64 p2] m (fun v _ L => census_Plain_Q r v L) := by
  refine Spec_enter Try.func18 rfl rfl rfl (fun w0 => ?_)
  refine WK.sub (e' := [(0, .agg #[.int .i64 p0_0, .int .i64 p0_1, .int .i64 p0_2, .slice a_p0_3 q_p0_3 c_p0_3]), (1, .agg #[.int .i64 p1_0, .int .i64 p1_1, .int .i64 p1_2, .slice a_p1_3 q_p1_3 c_p1_3]), (2, .int .i64 p2)]) ⟨rfl, rfl, rfl, trivial⟩ ?_
  obtain rfl := SlR.qlen h_p0_3
  obtain rfl := SlR.qlen h_p1_3
  refine WK.sub (e' := [(0, .agg #[.int .i64 p0_0, .int .i64 p0_1, .int .i64 p0_2, .slice a_p0_3 p0_3.length c_p0_3]), (1, .agg #[.int .i64 p1_0, .int .i64 p1_1, .int .i64 p1_2, .slice a_p1_3 p1_3.length c_p1_3]), (2, .int .i64 p2)]) ⟨rfl, rfl, rfl, trivial⟩ ?_
  unfold census_Plain at hm
  refine WK_seq ?_
  refine WK_region ?_
  refine WO_box [.int .i64 p0_0, .int .i64 p0_1, .int .i64 p0_2, .slice a_p0_3 p0_3.length c_p0_3] rfl rfl trivial rfl rfl rfl (fun b3 => ?_)
  refine WO.cls (C' := St w0 m m [[⟨b3, 24, [.int .i64 p0_0, .int .i64 p0_1, .int .i64 p0_2, .slice a_p0_3 p0_3.length c_p0_3]⟩]]) (fun _ h => h) ?_
  refine WO_box [.int .i64 p1_0, .int .i64 p1_1, .int .i64 p1_2, .slice a_p1_3 p1_3.length c_p1_3] rfl rfl trivial rfl rfl rfl (fun b4 => ?_)
  refine WO.cls (C' := St w0 m m [[⟨b3, 24, [.int .i64 p0_0, .int .i64 p0_1, .int .i64 p0_2, .slice a_p0_3 p0_3.length c_p0_3]⟩], [⟨b4, 24, [.int .i64 p1_0, .int .i64 p1_1, .int .i64 p1_2, .slice a_p1_3 p1_3.length c_p1_3]⟩]]) (fun _ h => h) ?_
  refine WO_alloc tbok [.int .i64 0, .int .i64 0, .int .i64 0, .slice none 0 0] rfl rfl trivial rfl rfl rfl rfl (fun b5 => ?_)
  refine WO.cls (C' := St w0 m m [[⟨b3, 24, [.int .i64 p0_0, .int .i64 p0_1, .int .i64 p0_2, .slice a_p0_3 p0_3.length c_p0_3]⟩], [⟨b4, 24, [.int .i64 p1_0, .int .i64 p1_1, .int .i64 p1_2, .slice a_p1_3 p1_3.length c_p1_3]⟩], [⟨b5, 39, [.int .i64 0, .int .i64 0, .int .i64 0, .slice none 0 0]⟩]]) (fun _ h => h) ?_
  refine WO_pure tbok 1 [(2, .int .i64 p2), (3, .pointer (some ⟨b3, 0, none⟩)), (4, .pointer (some ⟨b4, 0, none⟩)), (6, .pointer (some ⟨b5, 0, none⟩)), (7, .int .i64 0)] rfl ⟨rfl, rfl, rfl, rfl, rfl, trivial⟩ ?_
  refine WO_end ?_
  refine WK_seq ?_
  refine WK_seq ?_
  refine WK_region ?_
  refine WO_loadB tbok 0 rfl rfl rfl rfl (fun _ h => h) rfl rfl ?_
  refine WO_loadB tbok 1 rfl rfl rfl rfl (fun _ h => h) rfl rfl ?_
  obtain ⟨y_1, hc6, hm⟩ := bind_some hm
  refine WO_call0 (.int .i64 y_1) rfl rfl trivial rfl rfl rfl rfl St_closed ⟨36, #[], #[], rfl, callable_36, fun w hw => ⟨_, hw.sat, census_both_walk h_p0_3 h_p1_3 hc6⟩⟩ ?_
  refine WO_pure tbok 1 [(2, .int .i64 p2), (3, .pointer (some ⟨b3, 0, none⟩)), (4, .pointer (some ⟨b4, 0, none⟩)), (6, .pointer (some ⟨b5, 0, none⟩)), (7, .int .i64 0), (8, .int .i64 y_1)] rfl ⟨rfl, rfl, rfl, rfl, rfl, rfl, trivial⟩ ?_
  refine WO_end ?_
  refine WK_seq ?_
  refine WK_region ?_
  refine WO_pure tbok 2 [(2, .int .i64 p2), (3, .pointer (some ⟨b3, 0, none⟩)), (4, .pointer (some ⟨b4, 0, none⟩)), (6, .pointer (some ⟨b5, 0, none⟩)), (7, .int .i64 0), (8, .int .i64 y_1), (13, .bool (y_1 != 0))] rfl ⟨rfl, rfl, rfl, rfl, rfl, rfl, rfl, trivial⟩ ?_
  refine WO_end ?_
  refine WK_cond (b := y_1 != 0) rfl (fun hb7 => ?_) (fun hb7 => ?_)
  · have hm := ifT hb7 hm
    refine WK_seq ?_
    refine WK_region ?_
    refine WO_pure tbok 2 [(2, .int .i64 p2), (3, .pointer (some ⟨b3, 0, none⟩)), (4, .pointer (some ⟨b4, 0, none⟩)), (6, .pointer (some ⟨b5, 0, none⟩)), (7, .int .i64 0), (14, .agg #[.int .i64 0, .int .i64 0, .int .i64 0, .slice none 0 0]), (15, .int .i64 y_1)] rfl ⟨rfl, rfl, rfl, rfl, rfl, rfl, rfl, trivial⟩ ?_
    refine WO_storeB tbok 2 [.int .i64 0, .int .i64 0, .int .i64 0, .slice none 0 0] rfl rfl rfl rfl rfl rfl rfl ?_
    refine WO.cls (C' := St w0 m m [[⟨b3, 24, [.int .i64 p0_0, .int .i64 p0_1, .int .i64 p0_2, .slice a_p0_3 p0_3.length c_p0_3]⟩], [⟨b4, 24, [.int .i64 p1_0, .int .i64 p1_1, .int .i64 p1_2, .slice a_p1_3 p1_3.length c_p1_3]⟩], [⟨b5, 39, [.int .i64 0, .int .i64 0, .int .i64 0, .slice none 0 0]⟩]]) (fun _ h => h) ?_
    refine WO_pure tbok 1 [(2, .int .i64 p2), (3, .pointer (some ⟨b3, 0, none⟩)), (4, .pointer (some ⟨b4, 0, none⟩)), (6, .pointer (some ⟨b5, 0, none⟩)), (7, .int .i64 y_1)] rfl ⟨rfl, rfl, rfl, rfl, rfl, trivial⟩ ?_
    refine WO_end ?_
    cases hm
    exact WK_ret (ret_out (L := []) (RLc_cell tbok 2 rfl rfl rfl (RLc_tmp rfl RLc_nil)) (List.nil_sublist _) ⟨none, 0, 0, rfl, (OwnE.nil none)⟩)
  · have hm := ifF hb7 hm
    refine WK_skip ?_
    refine WK_seq ?_
    refine WK_seq ?_
    obtain ⟨s_2, hx8, hm⟩ := bind_some hm
    refine WK_meet [(2, .int .i64 p2), (3, .pointer (some ⟨b3, 0, none⟩)), (4, .pointer (some ⟨b4, 0, none⟩)), (6, .pointer (some ⟨b5, 0, none⟩)), (7, .int .i64 0), (21, .bool s_2)] (St w0 m m [[⟨b3, 24, [.int .i64 p0_0, .int .i64 p0_1, .int .i64 p0_2, .slice a_p0_3 p0_3.length c_p0_3]⟩], [⟨b4, 24, [.int .i64 p1_0, .int .i64 p1_1, .int .i64 p1_2, .slice a_p1_3 p1_3.length c_p1_3]⟩], [⟨b5, 39, [.int .i64 0, .int .i64 0, .int .i64 0, .slice none 0 0]⟩]]) ?_ (fun hk9 => ?_)
    · refine WK_cond (b := s_2) rfl (fun hb10 => ?_) (fun hb10 => ?_)
      · have hm := ifT hb10 hm
        refine WK_seq ?_
        refine WK_region ?_
        refine WO_pure tbok 1 [(2, .int .i64 p2), (3, .pointer (some ⟨b3, 0, none⟩)), (4, .pointer (some ⟨b4, 0, none⟩)), (6, .pointer (some ⟨b5, 0, none⟩)), (7, .int .i64 0), (22, .agg #[.int .i64 0, .int .i64 0, .int .i64 0, .slice none 0 0])] rfl ⟨rfl, rfl, rfl, rfl, rfl, rfl, trivial⟩ ?_
        refine WO_storeB tbok 2 [.int .i64 0, .int .i64 0, .int .i64 0, .slice none 0 0] rfl rfl rfl rfl rfl rfl rfl ?_
        refine WO.cls (C' := St w0 m m [[⟨b3, 24, [.int .i64 p0_0, .int .i64 p0_1, .int .i64 p0_2, .slice a_p0_3 p0_3.length c_p0_3]⟩], [⟨b4, 24, [.int .i64 p1_0, .int .i64 p1_1, .int .i64 p1_2, .slice a_p1_3 p1_3.length c_p1_3]⟩], [⟨b5, 39, [.int .i64 0, .int .i64 0, .int .i64 0, .slice none 0 0]⟩]]) (fun _ h => h) ?_
        refine WO_pure tbok 1 [(2, .int .i64 p2), (3, .pointer (some ⟨b3, 0, none⟩)), (4, .pointer (some ⟨b4, 0, none⟩)), (6, .pointer (some ⟨b5, 0, none⟩)), (7, .int .i64 2)] rfl ⟨rfl, rfl, rfl, rfl, rfl, trivial⟩ ?_
        refine WO_end ?_
        cases hm
        exact WK_ret (ret_out (L := []) (RLc_cell tbok 2 rfl rfl rfl (RLc_tmp rfl RLc_nil)) (List.nil_sublist _) ⟨none, 0, 0, rfl, (OwnE.nil none)⟩)
      · have hm := ifF hb10 hm
        refine WK_skip ?_
        refine WK_seq ?_
        refine WK_region ?_
        refine WO_loadB tbok 0 rfl rfl rfl rfl (fun _ h => h) rfl rfl ?_
        refine WO_pure tbok 1 [(2, .int .i64 p2), (3, .pointer (some ⟨b3, 0, none⟩)), (4, .pointer (some ⟨b4, 0, none⟩)), (6, .pointer (some ⟨b5, 0, none⟩)), (7, .int .i64 0), (23, .agg #[.int .i64 p0_0, .int .i64 p0_1, .int .i64 p0_2, .slice a_p0_3 p0_3.length c_p0_3]), (24, .pointer (some ⟨b3, 3, none⟩))] rfl ⟨rfl, rfl, rfl, rfl, rfl, rfl, rfl, trivial⟩ ?_
        refine WO_loadB tbok 0 rfl rfl rfl rfl (fun _ h => h) rfl rfl ?_
        refine WO_pure tbok 1 [(2, .int .i64 p2), (3, .pointer (some ⟨b3, 0, none⟩)), (6, .pointer (some ⟨b5, 0, none⟩)), (7, .int .i64 0), (23, .agg #[.int .i64 p0_0, .int .i64 p0_1, .int .i64 p0_2, .slice a_p0_3 p0_3.length c_p0_3]), (25, .slice a_p0_3 p0_3.length c_p0_3), (26, .pointer (some ⟨b4, 3, none⟩))] rfl ⟨rfl, rfl, rfl, rfl, rfl, rfl, rfl, trivial⟩ ?_
        refine WO_loadB tbok 1 rfl rfl rfl rfl (fun _ h => h) rfl rfl ?_
        refine WO_pure tbok 2 [(6, .pointer (some ⟨b5, 0, none⟩)), (7, .int .i64 0), (23, .agg #[.int .i64 p0_0, .int .i64 p0_1, .int .i64 p0_2, .slice a_p0_3 p0_3.length c_p0_3]), (25, .slice a_p0_3 p0_3.length c_p0_3), (27, .slice a_p1_3 p1_3.length c_p1_3), (28, .int .i64 p2), (29, .pointer (some ⟨b3, 2, none⟩))] rfl ⟨rfl, rfl, rfl, rfl, rfl, rfl, rfl, trivial⟩ ?_
        refine WO_loadB tbok 0 rfl rfl rfl rfl (fun _ h => h) rfl rfl ?_
        refine WO_pure tbok 1 [(6, .pointer (some ⟨b5, 0, none⟩)), (7, .int .i64 0), (23, .agg #[.int .i64 p0_0, .int .i64 p0_1, .int .i64 p0_2, .slice a_p0_3 p0_3.length c_p0_3]), (25, .slice a_p0_3 p0_3.length c_p0_3), (27, .slice a_p1_3 p1_3.length c_p1_3), (28, .int .i64 p2), (31, .int .i64 (w64 (p0_2 + 1)))] rfl ⟨rfl, rfl, rfl, rfl, rfl, rfl, rfl, trivial⟩ ?_
        obtain ⟨⟨y_5, y_6, y_7, y_8⟩, hc11, hm⟩ := bind_some hm
        refine WO_call1 (census_costs_Q (y_5, y_6, y_7, y_8)) rfl rfl trivial rfl rfl rfl rfl ⟨37, #[], #[], rfl, callable_37, fun w hw => ⟨_, hw.sat, census_costs_walk h_p0_3 h_p0_3 h_p1_3 (fun m1 hm1 z_3 z_4 _ h => specV_cap callable_38 (census_Plain_c1_walk h)) hc11⟩⟩ (fun v16 L15 hq => ?_)
        obtain ⟨a12, qa12, c13, rfl, hL15⟩ := hq
        obtain rfl := OwnE.qlen hL15
        refine WO.cls (C' := St w0 m m [[⟨b3, 24, [.int .i64 p0_0, .int .i64 p0_1, .int .i64 p0_2, .slice a_p0_3 p0_3.length c_p0_3]⟩], [⟨b4, 24, [.int .i64 p1_0, .int .i64 p1_1, .int .i64 p1_2, .slice a_p1_3 p1_3.length c_p1_3]⟩], [⟨b5, 39, [.int .i64 0, .int .i64 0, .int .i64 0, .slice none 0 0]⟩], L15]) (fun _ h => h) ?_
        refine WO_storeB tbok 2 [.int .i64 y_5, .int .i64 y_6, .int .i64 y_7, .slice a12 ((y_8).length) c13] rfl rfl rfl rfl rfl rfl rfl ?_
        refine WO.cls (C' := St w0 m m [[⟨b3, 24, [.int .i64 p0_0, .int .i64 p0_1, .int .i64 p0_2, .slice a_p0_3 p0_3.length c_p0_3]⟩], [⟨b4, 24, [.int .i64 p1_0, .int .i64 p1_1, .int .i64 p1_2, .slice a_p1_3 p1_3.length c_p1_3]⟩], [⟨b5, 39, [.int .i64 y_5, .int .i64 y_6, .int .i64 y_7, .slice a12 ((y_8).length) c13]⟩], L15]) (fun _ h => h) ?_
        refine WO_pure tbok 1 [(6, .pointer (some ⟨b5, 0, none⟩)), (7, .int .i64 0)] rfl ⟨rfl, rfl, trivial⟩ ?_
        refine WO_end ?_
        cases hm
        exact WK_ret (ret_out (L := L15) (RLc_cell tbok 2 rfl rfl rfl (RLc_tmp rfl RLc_nil)) (seg_sub 3 rfl) ⟨a12, _, c13, rfl, hL15⟩)
    · refine WK_region ?_
      refine WO_pure tbok 3 [(2, .int .i64 p2), (3, .pointer (some ⟨b3, 0, none⟩)), (4, .pointer (some ⟨b4, 0, none⟩)), (6, .pointer (some ⟨b5, 0, none⟩)), (7, .int .i64 0), (18, .bool (decide (p2 < 1)))] rfl ⟨rfl, rfl, rfl, rfl, rfl, rfl, trivial⟩ ?_
      refine WO_split (d := 18) (b := decide (p2 < 1)) rfl (fun hb17 => ?_) (fun hb17 => ?_)
      · have hx8 := ifT hb17 hx8
        refine WO_pure tbok 3 [(2, .int .i64 p2), (3, .pointer (some ⟨b3, 0, none⟩)), (4, .pointer (some ⟨b4, 0, none⟩)), (6, .pointer (some ⟨b5, 0, none⟩)), (7, .int .i64 0), (21, .bool true)] rfl ⟨rfl, rfl, rfl, rfl, rfl, rfl, trivial⟩ ?_
        refine WO_end ?_
        cases hx8
        refine WK.sub ?_ (WK.cls (fun _ h => h) hk9)
        exact ⟨rfl, rfl, rfl, rfl, rfl, rfl, trivial⟩
      · have hx8 := ifF hb17 hx8
        refine WO_pure tbok 3 [(2, .int .i64 p2), (3, .pointer (some ⟨b3, 0, none⟩)), (4, .pointer (some ⟨b4, 0, none⟩)), (6, .pointer (some ⟨b5, 0, none⟩)), (7, .int .i64 0), (21, .bool (decide (64 < p2)))] rfl ⟨rfl, rfl, rfl, rfl, rfl, rfl, trivial⟩ ?_
        refine WO_end ?_
        cases hx8
        refine WK.sub ?_ (WK.cls (fun _ h => h) hk9)
        exact ⟨rfl, rfl, rfl, rfl, rfl, rfl, trivial⟩
theorem census_Check_c1_walk {m : Mu} {p0 : Int}   {r : Bool} (hm : census_Check_c1 p0 = some r) :
    Go.E.Spec Try.prog 42 [.int .i64 p0] m (fun v _ _ => v = .bool r) := by
  refine Spec_enter Try.func42 rfl rfl rfl (fun w0 => ?_)
  refine WK.sub (e' := [(0, .int .i64 p0)]) ⟨rfl, trivial⟩ ?_
  refine WK.sub (e' := [(0, .int .i64 p0)]) ⟨rfl, trivial⟩ ?_
  unfold census_Check_c1 at hm
  refine WK_seq ?_
  refine WK_region ?_
  refine WO_pure tbok 1 [(0, .int .i64 p0), (2, .bool false)] rfl ⟨rfl, rfl, trivial⟩ ?_
  refine WO_end ?_
  refine WK_seq ?_
  refine WK_region ?_
  refine WO_pure tbok 3 [(0, .int .i64 p0), (2, .bool false), (5, .bool (decide (p0 < 0)))] rfl ⟨rfl, rfl, rfl, trivial⟩ ?_
  refine WO_split (d := 5) (b := decide (p0 < 0)) rfl (fun hb1 => ?_) (fun hb1 => ?_)
  · have hm := ifT hb1 hm
    refine WO_pure tbok 4 [(2, .bool true)] rfl ⟨rfl, trivial⟩ ?_
    refine WO_end ?_
    cases hm
    exact WK_ret (ret_out (L := []) (RLc_tmp rfl RLc_nil) (List.nil_sublist _) rfl)
  · have hm := ifF hb1 hm
    refine WO_pure tbok 4 [(2, .bool (decide (1048576 < p0)))] rfl ⟨rfl, trivial⟩ ?_
    refine WO_end ?_
    cases hm
    exact WK_ret (ret_out (L := []) (RLc_tmp rfl RLc_nil) (List.nil_sublist _) rfl)
theorem census_Check_walk {m : Mu} {p0_0 : Int} {p0_1 : Int} {p0_2 : Int} {p0_3 : List Int} {a_p0_3 : Option Addr} {q_p0_3 c_p0_3 : Nat} (h_p0_3 : SlR (FE (I1 .i64)) 1 m (.slice a_p0_3 q_p0_3 c_p0_3) p0_3) {r : Int} (hm : census_Check p0_0 p0_1 p0_2 p0_3 = some r) :
    Go.E.Spec Try.prog 21 [.agg #[.int .i64 p0_0, .int .i64 p0_1, .int .i64 p0_2, .slice a_p0_3 q_p0_3 c_p0_3]] m (fun v _ _ => v = .int .i64 r) := by
  refine Spec_enter Try.func21 rfl rfl rfl (fun w0 => ?_)
  refine WK.sub (e' := [(0, .agg #[.int .i64 p0_0, .int .i64 p0_1, .int .i64 p0_2, .slice a_p0_3 q_p0_3 c_p0_3])]) ⟨rfl, trivial⟩ ?_
  obtain rfl := SlR.qlen h_p0_3
  refine WK.sub (e' := [(0, .agg #[.int .i64 p0_0, .int .i64 p0_1, .int .i64 p0_2, .slice a_p0_3 p0_3.length c_p0_3])]) ⟨rfl, trivial⟩ ?_
  unfold census_Check at hm
  refine WK_seq ?_
  refine WK_region ?_
  refine WO_box [.int .i64 p0_0, .int .i64 p0_1, .int .i64 p0_2, .slice a_p0_3 p0_3.length c_p0_3] rfl rfl trivial rfl rfl rfl (fun b2 => ?_)
  refine WO.cls (C' := St w0 m m [[⟨b2, 39, [.int .i64 p0_0, .int .i64 p0_1, .int .i64 p0_2, .slice a_p0_3 p0_3.length c_p0_3]⟩]]) (fun _ h => h) ?_
  refine WO_pure tbok 1 [(1, .pointer (some ⟨b2, 0, none⟩)), (2, .int .i64 0)] rfl ⟨rfl, rfl, trivial⟩ ?_
  refine WO_end ?_
  refine WK_seq ?_
  refine WK_seq ?_
  obtain ⟨s_1, hx3, hm⟩ := bind_some hm
  refine WK_meet [(1, .pointer (some ⟨b2, 0, none⟩)), (2, .int .i64 0), (44, .bool s_1)] (St w0 m m [[⟨b2, 39, [.int .i64 p0_0, .int .i64 p0_1, .int .i64 p0_2, .slice a_p0_3 p0_3.length c_p0_3]⟩]]) ?_ (fun hk4 => ?_)
  · refine WK_cond (b := s_1) rfl (fun hb5 => ?_) (fun hb5 => ?_)
    · have hm := ifT hb5 hm
      refine WK_seq ?_
      refine WK_region ?_
      refine WO_pure tbok 1 [(1, .pointer (some ⟨b2, 0, none⟩)), (2, .int .i64 1)] rfl ⟨rfl, rfl, trivial⟩ ?_
      refine WO_end ?_
      cases hm
      exact WK_ret (ret_out (L := []) (RLc_tmp rfl RLc_nil) (List.nil_sublist _) rfl)
    · have hm := ifF hb5 hm
      refine WK_skip ?_
      refine WK_seq ?_
      refine WK_seq ?_
      refine WK_region ?_
      refine WO_pure tbok 1 [(2, .int .i64 0), (45, .pointer (some ⟨b2, 3, none⟩))] rfl ⟨rfl, rfl, trivial⟩ ?_
      refine WO_loadB tbok 0 rfl rfl rfl rfl (fun _ h => h) rfl rfl ?_
      obtain ⟨y_3, hc6, hm⟩ := bind_some hm
      refine WO_call0 (.bool y_3) rfl rfl trivial rfl rfl rfl rfl St_closed ⟨41, #[], #[], rfl, callable_41, fun w hw => ⟨_, hw.sat, slices_ContainsFunc_sint_walk h_p0_3 (fun m1 hm1 z_2 _ h => specV_cap callable_42 (census_Check_c1_walk h)) hc6⟩⟩ ?_
      refine WO_end ?_
      refine WK_cond (b := y_3) rfl (fun hb7 => ?_) (fun hb7 => ?_)
      · have hm := ifT hb7 hm
        refine WK_seq ?_
        refine WK_region ?_
        refine WO_pure tbok 1 [(2, .int .i64 1)] rfl ⟨rfl, trivial⟩ ?_
        refine WO_end ?_
        cases hm
        exact WK_ret (ret_out (L := []) (RLc_tmp rfl RLc_nil) (List.nil_sublist _) rfl)
      · have hm := ifF hb7 hm
        refine WK_skip ?_
        refine WK_seq ?_
        refine WK_region ?_
        refine WO_pure tbok 1 [(2, .int .i64 0)] rfl ⟨rfl, trivial⟩ ?_
        refine WO_end ?_
        cases hm
        exact WK_ret (ret_out (L := []) (RLc_tmp rfl RLc_nil) (List.nil_sublist _) rfl)
  · refine WK_region ?_
    refine WO_pure tbok 1 [(1, .pointer (some ⟨b2, 0, none⟩)), (2, .int .i64 0), (3, .pointer (some ⟨b2, 0, none⟩))] rfl ⟨rfl, rfl, rfl, trivial⟩ ?_
    refine WO_loadB tbok 0 rfl rfl rfl rfl (fun _ h => h) rfl rfl ?_
    refine WO_pure tbok 2 [(1, .pointer (some ⟨b2, 0, none⟩)), (2, .int .i64 0), (6, .bool (decide (p0_0 < 1)))] rfl ⟨rfl, rfl, rfl, trivial⟩ ?_
    refine WO_split (d := 6) (b := decide (p0_0 < 1)) rfl (fun hb8 => ?_) (fun hb8 => ?_)
    · have hx3 := ifT hb8 hx3
      refine WO_pure tbok 38 [(1, .pointer (some ⟨b2, 0, none⟩)), (2, .int .i64 0), (44, .bool true)] rfl ⟨rfl, rfl, rfl, trivial⟩ ?_
      refine WO_end ?_
      cases hx3
      refine WK.sub ?_ (WK.cls (fun _ h => h) hk4)
      exact ⟨rfl, rfl, rfl, trivial⟩
    · have hx3 := ifF hb8 hx3
      refine WO_pure tbok 1 [(1, .pointer (some ⟨b2, 0, none⟩)), (2, .int .i64 0), (6, .bool false), (7, .pointer (some ⟨b2, 0, none⟩))] rfl ⟨rfl, rfl, rfl, rfl, trivial⟩ ?_
      refine WO_loadB tbok 0 rfl rfl rfl rfl (fun _ h => h) rfl rfl ?_
      refine WO_pure tbok 3 [(1, .pointer (some ⟨b2, 0, none⟩)), (2, .int .i64 0), (11, .bool (decide (64 < p0_0)))] rfl ⟨rfl, rfl, rfl, trivial⟩ ?_
      refine WO_split (d := 11) (b := decide (64 < p0_0)) rfl (fun hb9 => ?_) (fun hb9 => ?_)
      · have hx3 := ifT hb9 hx3
        refine WO_pure tbok 33 [(1, .pointer (some ⟨b2, 0, none⟩)), (2, .int .i64 0), (44, .bool true)] rfl ⟨rfl, rfl, rfl, trivial⟩ ?_
        refine WO_end ?_
        cases hx3
        refine WK.sub ?_ (WK.cls (fun _ h => h) hk4)
        exact ⟨rfl, rfl, rfl, trivial⟩
      · have hx3 := ifF hb9 hx3
        refine WO_pure tbok 1 [(1, .pointer (some ⟨b2, 0, none⟩)), (2, .int .i64 0), (11, .bool false), (12, .pointer (some ⟨b2, 1, none⟩))] rfl ⟨rfl, rfl, rfl, rfl, trivial⟩ ?_
        refine WO_loadB tbok 0 rfl rfl rfl rfl (fun _ h => h) rfl rfl ?_
        refine WO_pure tbok 3 [(1, .pointer (some ⟨b2, 0, none⟩)), (2, .int .i64 0), (16, .bool (decide (p0_1 < 1)))] rfl ⟨rfl, rfl, rfl, trivial⟩ ?_
        refine WO_split (d := 16) (b := decide (p0_1 < 1)) rfl (fun hb10 => ?_) (fun hb10 => ?_)
        · have hx3 := ifT hb10 hx3
          refine WO_pure tbok 28 [(1, .pointer (some ⟨b2, 0, none⟩)), (2, .int .i64 0), (44, .bool true)] rfl ⟨rfl, rfl, rfl, trivial⟩ ?_
          refine WO_end ?_
          cases hx3
          refine WK.sub ?_ (WK.cls (fun _ h => h) hk4)
          exact ⟨rfl, rfl, rfl, trivial⟩
        · have hx3 := ifF hb10 hx3
          refine WO_pure tbok 1 [(1, .pointer (some ⟨b2, 0, none⟩)), (2, .int .i64 0), (16, .bool false), (17, .pointer (some ⟨b2, 1, none⟩))] rfl ⟨rfl, rfl, rfl, rfl, trivial⟩ ?_
          refine WO_loadB tbok 0 rfl rfl rfl rfl (fun _ h => h) rfl rfl ?_
          refine WO_pure tbok 3 [(1, .pointer (some ⟨b2, 0, none⟩)), (2, .int .i64 0), (21, .bool (decide (64 < p0_1)))] rfl ⟨rfl, rfl, rfl, trivial⟩ ?_
          refine WO_split (d := 21) (b := decide (64 < p0_1)) rfl (fun hb11 => ?_) (fun hb11 => ?_)
          · have hx3 := ifT hb11 hx3
            refine WO_pure tbok 23 [(1, .pointer (some ⟨b2, 0, none⟩)), (2, .int .i64 0), (44, .bool true)] rfl ⟨rfl, rfl, rfl, trivial⟩ ?_
            refine WO_end ?_
            cases hx3
            refine WK.sub ?_ (WK.cls (fun _ h => h) hk4)
            exact ⟨rfl, rfl, rfl, trivial⟩
          · have hx3 := ifF hb11 hx3
            refine WO_pure tbok 1 [(1, .pointer (some ⟨b2, 0, none⟩)), (2, .int .i64 0), (21, .bool false), (22, .pointer (some ⟨b2, 2, none⟩))] rfl ⟨rfl, rfl, rfl, rfl, trivial⟩ ?_
            refine WO_loadB tbok 0 rfl rfl rfl rfl (fun _ h => h) rfl rfl ?_
            refine WO_pure tbok 3 [(1, .pointer (some ⟨b2, 0, none⟩)), (2, .int .i64 0), (26, .bool (decide (p0_2 < 1)))] rfl ⟨rfl, rfl, rfl, trivial⟩ ?_
            refine WO_split (d := 26) (b := decide (p0_2 < 1)) rfl (fun hb12 => ?_) (fun hb12 => ?_)
            · have hx3 := ifT hb12 hx3
              refine WO_pure tbok 18 [(1, .pointer (some ⟨b2, 0, none⟩)), (2, .int .i64 0), (44, .bool true)] rfl ⟨rfl, rfl, rfl, trivial⟩ ?_
              refine WO_end ?_
              cases hx3
              refine WK.sub ?_ (WK.cls (fun _ h => h) hk4)
              exact ⟨rfl, rfl, rfl, trivial⟩
            · have hx3 := ifF hb12 hx3
              refine WO_pure tbok 1 [(1, .pointer (some ⟨b2, 0, none⟩)), (2, .int .i64 0), (26, .bool false), (27, .pointer (some ⟨b2, 2, none⟩))] rfl ⟨rfl, rfl, rfl, rfl, trivial⟩ ?_
              refine WO_loadB tbok 0 rfl rfl rfl rfl (fun _ h => h) rfl rfl ?_
              refine WO_pure tbok 3 [(1, .pointer (some ⟨b2, 0, none⟩)), (2, .int .i64 0), (31, .bool (decide (64 < p0_2)))] rfl ⟨rfl, rfl, rfl, trivial⟩ ?_
              refine WO_split (d := 31) (b := decide (64 < p0_2)) rfl (fun hb13 => ?_) (fun hb13 => ?_)
              · have hx3 := ifT hb13 hx3
                refine WO_pure tbok 13 [(1, .pointer (some ⟨b2, 0, none⟩)), (2, .int .i64 0), (44, .bool true)] rfl ⟨rfl, rfl, rfl, trivial⟩ ?_
                refine WO_end ?_
                cases hx3
                refine WK.sub ?_ (WK.cls (fun _ h => h) hk4)
                exact ⟨rfl, rfl, rfl, trivial⟩
              · have hx3 := ifF hb13 hx3
                refine WO_pure tbok 1 [(1, .pointer (some ⟨b2, 0, none⟩)), (2, .int .i64 0), (31, .bool false), (32, .pointer (some ⟨b2, 3, none⟩))] rfl ⟨rfl, rfl, rfl, rfl, trivial⟩ ?_
                refine WO_loadB tbok 0 rfl rfl rfl rfl (fun _ h => h) rfl rfl ?_
                refine WO_pure tbok 2 [(1, .pointer (some ⟨b2, 0, none⟩)), (2, .int .i64 0), (31, .bool false), (34, .int .i64 (p0_3.length : Int)), (35, .pointer (some ⟨b2, 0, none⟩))] rfl ⟨rfl, rfl, rfl, rfl, rfl, trivial⟩ ?_
                refine WO_loadB tbok 0 rfl rfl rfl rfl (fun _ h => h) rfl rfl ?_
                refine WO_pure tbok 1 [(1, .pointer (some ⟨b2, 0, none⟩)), (2, .int .i64 0), (31, .bool false), (34, .int .i64 (p0_3.length : Int)), (36, .int .i64 p0_0), (37, .pointer (some ⟨b2, 1, none⟩))] rfl ⟨rfl, rfl, rfl, rfl, rfl, rfl, trivial⟩ ?_
                refine WO_loadB tbok 0 rfl rfl rfl rfl (fun _ h => h) rfl rfl ?_
                refine WO_pure tbok 2 [(1, .pointer (some ⟨b2, 0, none⟩)), (2, .int .i64 0), (31, .bool false), (34, .int .i64 (p0_3.length : Int)), (39, .int .i64 (w64 (p0_0 * p0_1))), (40, .pointer (some ⟨b2, 2, none⟩))] rfl ⟨rfl, rfl, rfl, rfl, rfl, rfl, trivial⟩ ?_
                refine WO_loadB tbok 0 rfl rfl rfl rfl (fun _ h => h) rfl rfl ?_
                refine WO_pure tbok 3 [(1, .pointer (some ⟨b2, 0, none⟩)), (2, .int .i64 0), (44, .bool ((p0_3.length : Int) != (w64 ((w64 (p0_0 * p0_1)) * p0_2))))] rfl ⟨rfl, rfl, rfl, trivial⟩ ?_
                refine WO_end ?_
                cases hx3
                refine WK.sub ?_ (WK.cls (fun _ h => h) hk4)
                exact ⟨rfl, rfl, rfl, trivial⟩
theorem slices_Min_sint_walk {m : Mu} {p0 : List Int} {a_p0 : Option Addr} {q_p0 c_p0 : Nat} (h_p0 : SlR (FE (I1 .i64)) 1 m (.slice a_p0 q_p0 c_p0) p0) {r : Int} (hm : slices_Min_sint p0 = some r) :
    Go.E.Spec Try.prog 46 [.slice a_p0 q_p0 c_p0] m (fun v _ _ => v = .int .i64 r) := by
  refine Spec_enter Try.func46 rfl rfl rfl (fun w0 => ?_)
  refine WK.sub (e' := [(0, .slice a_p0 q_p0 c_p0)]) ⟨rfl, trivial⟩ ?_
  obtain rfl := SlR.qlen h_p0
  refine WK.sub (e' := [(0, .slice a_p0 p0.length c_p0)]) ⟨rfl, trivial⟩ ?_
  unfold slices_Min_sint at hm
  refine WK_seq ?_
  refine WK_region ?_
  refine WO_pure tbok 1 [(0, .slice a_p0 p0.length c_p0), (2, .int .i64 0)] rfl ⟨rfl, rfl, trivial⟩ ?_
  refine WO_end ?_
  refine WK_seq ?_
  refine WK_seq ?_
  refine WK_region ?_
  refine WO_pure tbok 3 [(0, .slice a_p0 p0.length c_p0), (2, .int .i64 0), (7, .bool (decide ((p0.length : Int) < 1)))] rfl ⟨rfl, rfl, rfl, trivial⟩ ?_
  refine WO_end ?_
  refine WK_cond (b := decide ((p0.length : Int) < 1)) rfl (fun hb2 => ?_) (fun hb2 => ?_)
  · have hm := ifT hb2 hm
    refine WK_region ?_
    cases hm
  · have hm := ifF hb2 hm
    refine WK_skip ?_
    refine WK_seq ?_
    refine WK_region ?_
    refine WO_pure tbok 1 [(0, .slice a_p0 p0.length c_p0), (2, .int .i64 0), (9, .slice a_p0 p0.length c_p0)] rfl ⟨rfl, rfl, rfl, trivial⟩ ?_
    obtain ⟨v_1, hy3, hm⟩ := bind_some hm
    obtain ⟨hc4, hy3⟩ := ix_some hy3
    refine WO_index tbok rfl rfl rfl rfl rfl rfl rfl rfl (SlR.addr h_p0) hc4 ?_
    refine WO_loadE tbok rfl rfl rfl rfl (fun _ h => St.sat h) h_p0 hy3 rfl ?_
    refine WO_pure tbok 1 [(0, .slice a_p0 p0.length c_p0), (2, .int .i64 0), (3, .int .i64 v_1)] rfl ⟨rfl, rfl, rfl, trivial⟩ ?_
    refine WO_end ?_
    refine WK_seq ?_
    refine WK_seq ?_
    refine WK_region ?_
    refine WO_pure tbok 1 [(0, .slice a_p0 p0.length c_p0), (2, .int .i64 0), (3, .int .i64 v_1), (4, .int .i64 1)] rfl ⟨rfl, rfl, rfl, rfl, trivial⟩ ?_
    refine WO_end ?_
    obtain ⟨x5, hx6, hm⟩ := bind_some hm
    refine WK_join (β := Int × Unit) (fun p => p.1 = x5) (fun p => [(2, .int .i64 0), (3, .int .i64 p.1)]) (fun p => St w0 m m []) ?_ (fun hk7 => ?_)
    · rintro ⟨s_4, ⟨⟩⟩ hq13
      subst hq13
      refine WK.sub (e' := [(2, .int .i64 0), (3, .int .i64 s_4)]) ⟨rfl, rfl, trivial⟩ (WK.cls (C' := St w0 m m []) (fun _ h => h) ?_)
      refine WK_seq ?_
      refine WK_region ?_
      refine WO_pure tbok 2 [(2, .int .i64 s_4)] rfl ⟨rfl, trivial⟩ ?_
      refine WO_end ?_
      cases hm
      exact WK_ret (ret_out (L := []) (RLc_tmp rfl RLc_nil) (List.nil_sublist _) rfl)
    · refine WK_block ?_
      refine WK_loop (S := Int × Int) (G := Unit) (fun s => slices_Min_sint_s1 p0 s.1 s.2) (fun s g => [(0, .slice a_p0 p0.length c_p0), (2, .int .i64 0), (3, .int .i64 s.1), (4, .int .i64 s.2)]) (fun s g => St w0 m m []) (fun s g => True) FUEL (v_1, 1) () x5 hx6 trivial ⟨rfl, rfl, rfl, rfl, trivial⟩ (fun _ h => h) ?_
      rintro ⟨s_2, s_3⟩ ⟨⟩ o9 fl10 hm8 - hn11 hd12
      have hm8 : slices_Min_sint_s1 p0 s_2 s_3 = some o9 := hm8
      unfold slices_Min_sint_s1 at hm8
      refine WK.sub (e' := [(0, .slice a_p0 p0.length c_p0), (2, .int .i64 0), (3, .int .i64 s_2), (4, .int .i64 s_3)]) ⟨rfl, rfl, rfl, rfl, trivial⟩ (WK.cls (C' := St w0 m m []) (fun _ h => h) ?_)
      refine WK_seq ?_
      refine WK_seq ?_
      refine WK_region ?_
      refine WO_pure tbok 4 [(0, .slice a_p0 p0.length c_p0), (2, .int .i64 0), (3, .int .i64 s_2), (4, .int .i64 s_3), (15, .bool (decide (s_3 < (p0.length : Int))))] rfl ⟨rfl, rfl, rfl, rfl, rfl, trivial⟩ ?_
      refine WO_end ?_
      refine WK_cond (b := decide (s_3 < (p0.length : Int))) rfl (fun hb14 => ?_) (fun hb14 => ?_)
      · have hm8 := ifT hb14 hm8
        refine WK_skip ?_
        refine WK_seq ?_
        refine WK_block ?_
        refine WK_region ?_
        refine WO_pure tbok 3 [(0, .slice a_p0 p0.length c_p0), (2, .int .i64 0), (3, .int .i64 s_2), (4, .int .i64 s_3), (18, .int .i64 s_2), (19, .slice a_p0 p0.length c_p0), (20, .int .i64 s_3)] rfl ⟨rfl, rfl, rfl, rfl, rfl, rfl, rfl, trivial⟩ ?_
        obtain ⟨v_5, hy15, hm8⟩ := bind_some hm8
        obtain ⟨hc16, hy15⟩ := ix_some hy15
        refine WO_index tbok rfl rfl rfl rfl rfl rfl rfl rfl (SlR.addr h_p0) hc16 ?_
        refine WO_loadE tbok rfl rfl rfl rfl (fun _ h => St.sat h) h_p0 hy15 rfl ?_
        refine WO_pure tbok 2 [(0, .slice a_p0 p0.length c_p0), (2, .int .i64 0), (3, .int .i64 (if v_5 < s_2 then v_5 else s_2)), (4, .int .i64 s_3)] rfl ⟨rfl, rfl, rfl, rfl, trivial⟩ ?_
        refine WO_end ?_
        refine WK_blk ?_
        refine WK_region ?_
        refine WO_pure tbok 3 [(0, .slice a_p0 p0.length c_p0), (2, .int .i64 0), (3, .int .i64 (if v_5 < s_2 then v_5 else s_2)), (4, .int .i64 (w64 (s_3 + 1)))] rfl ⟨rfl, rfl, rfl, rfl, trivial⟩ ?_
        refine WO_end ?_
        cases hm8
        refine WK.sub ?_ (WK.cls (fun _ h => h) (hn11 _ () rfl trivial))
        exact ⟨rfl, rfl, rfl, rfl, trivial⟩
      · have hm8 := ifF hb14 hm8
        refine WK_exit rfl ?_
        cases hm8
        refine WK.sub ?_ (WK.cls (fun _ h => h) (hk7 (s_2, ()) (hd12 _ rfl)))
        exact ⟨rfl, rfl, trivial⟩
theorem slices_Index_sint_walk {m : Mu} {p0 : List Int} {p1 : Int} {a_p0 : Option Addr} {q_p0 c_p0 : Nat} (h_p0 : SlR (FE (I1 .i64)) 1 m (.slice a_p0 q_p0 c_p0) p0) {r : Int} (hm : slices_Index_sint p0 p1 = some r) :
    Go.E.Spec Try.prog 45 [.slice a_p0 q_p0 c_p0, .int .i64 p1] m (fun v _ _ => v = .int .i64 r) := by
  refine Spec_enter Try.func45 rfl rfl rfl (fun w0 => ?_)
  refine WK.sub (e' := [(0, .slice a_p0 q_p0 c_p0), (1, .int .i64 p1)]) ⟨rfl, rfl, trivial⟩ ?_
  obtain rfl := SlR.qlen h_p0
  refine WK.sub (e' := [(0, .slice a_p0 p0.length c_p0), (1, .int .i64 p1)]) ⟨rfl, rfl, trivial⟩ ?_
  unfold slices_Index_sint at hm
  refine WK_seq ?_
  refine WK_region ?_
  refine WO_pure tbok 1 [(0, .slice a_p0 p0.length c_p0), (1, .int .i64 p1), (4, .int .i64 0)] rfl ⟨rfl, rfl, rfl, trivial⟩ ?_
  refine WO_end ?_
  refine WK_seq ?_
  refine WK_seq ?_
  refine WK_region ?_
  refine WO_pure tbok 3 [(0, .slice a_p0 p0.length c_p0), (1, .int .i64 p1), (4, .int .i64 0), (7, .int .i64 (p0.length : Int)), (8, .int .i64 0)] rfl ⟨rfl, rfl, rfl, rfl, rfl, trivial⟩ ?_
  refine WO_end ?_
  obtain ⟨x2, hx3, hm⟩ := bind_some hm
  refine WK_join (β := Unit × Unit) (fun p => Sum.inr p.1 = x2) (fun p => [(4, .int .i64 0)]) (fun p => St w0 m m []) ?_ (fun hk4 => ?_)
  · rintro ⟨⟨⟩, ⟨⟩⟩ hq10
    subst hq10
    refine WK.sub (e' := [(4, .int .i64 0)]) ⟨rfl, trivial⟩ (WK.cls (C' := St w0 m m []) (fun _ h => h) ?_)
    refine WK_seq ?_
    refine WK_region ?_
    refine WO_pure tbok 1 [(4, .int .i64 (-1))] rfl ⟨rfl, trivial⟩ ?_
    refine WO_end ?_
    cases hm
    exact WK_ret (ret_out (L := []) (RLc_tmp rfl RLc_nil) (List.nil_sublist _) rfl)
  · refine WK_block ?_
    refine WK_loop (S := Int) (G := Unit) (fun s => slices_Index_sint_s1 p0 p1 s) (fun s g => [(0, .slice a_p0 p0.length c_p0), (1, .int .i64 p1), (4, .int .i64 0), (7, .int .i64 (p0.length : Int)), (8, .int .i64 s)]) (fun s g => St w0 m m []) (fun s g => True) FUEL 0 () x2 hx3 trivial ⟨rfl, rfl, rfl, rfl, rfl, trivial⟩ (fun _ h => h) ?_
    rintro s_1 ⟨⟩ o6 fl7 hm5 - hn8 hd9
    have hm5 : slices_Index_sint_s1 p0 p1 s_1 = some o6 := hm5
    unfold slices_Index_sint_s1 at hm5
    refine WK.sub (e' := [(0, .slice a_p0 p0.length c_p0), (1, .int .i64 p1), (4, .int .i64 0), (7, .int .i64 (p0.length : Int)), (8, .int .i64 s_1)]) ⟨rfl, rfl, rfl, rfl, rfl, trivial⟩ (WK.cls (C' := St w0 m m []) (fun _ h => h) ?_)
    refine WK_seq ?_
    refine WK_region ?_
    refine WO_pure tbok 1 [(0, .slice a_p0 p0.length c_p0), (1, .int .i64 p1), (4, .int .i64 0), (7, .int .i64 (p0.length : Int)), (8, .int .i64 s_1), (9, .bool (decide (s_1 < (p0.length : Int))))] rfl ⟨rfl, rfl, rfl, rfl, rfl, rfl, trivial⟩ ?_
    refine WO_end ?_
    refine WK_seq ?_
    refine WK_cond (b := decide (s_1 < (p0.length : Int))) rfl (fun hb11 => ?_) (fun hb11 => ?_)
    · have hm5 := ifT hb11 hm5
      refine WK_skip ?_
      refine WK_seq ?_
      refine WK_block ?_
      refine WK_seq ?_
      refine WK_region ?_
      refine WO_pure tbok 2 [(0, .slice a_p0 p0.length c_p0), (1, .int .i64 p1), (4, .int .i64 0), (5, .int .i64 s_1), (7, .int .i64 (p0.length : Int)), (8, .int .i64 s_1)] rfl ⟨rfl, rfl, rfl, rfl, rfl, rfl, trivial⟩ ?_
      refine WO_end ?_
      refine WK_seq ?_
      refine WK_region ?_
      refine WO_pure tbok 3 [(0, .slice a_p0 p0.length c_p0), (1, .int .i64 p1), (4, .int .i64 0), (5, .int .i64 s_1), (7, .int .i64 (p0.length : Int)), (8, .int .i64 s_1), (11, .int .i64 p1), (12, .slice a_p0 p0.length c_p0), (13, .int .i64 s_1)] rfl ⟨rfl, rfl, rfl, rfl, rfl, rfl, rfl, rfl, rfl, trivial⟩ ?_
      obtain ⟨v_2, hy12, hm5⟩ := bind_some hm5
      obtain ⟨hc13, hy12⟩ := ix_some hy12
      refine WO_index tbok rfl rfl rfl rfl rfl rfl rfl rfl (SlR.addr h_p0) hc13 ?_
      refine WO_loadE tbok rfl rfl rfl rfl (fun _ h => St.sat h) h_p0 hy12 rfl ?_
      refine WO_pure tbok 1 [(0, .slice a_p0 p0.length c_p0), (1, .int .i64 p1), (4, .int .i64 0), (5, .int .i64 s_1), (7, .int .i64 (p0.length : Int)), (8, .int .i64 s_1), (16, .bool (p1 == v_2))] rfl ⟨rfl, rfl, rfl, rfl, rfl, rfl, rfl, trivial⟩ ?_
      refine WO_end ?_
      refine WK_cond (b := p1 == v_2) rfl (fun hb14 => ?_) (fun hb14 => ?_)
      · have hm5 := ifT hb14 hm5
        refine WK_seq ?_
        refine WK_region ?_
        refine WO_pure tbok 2 [(0, .slice a_p0 p0.length c_p0), (1, .int .i64 p1), (4, .int .i64 s_1), (7, .int .i64 (p0.length : Int)), (8, .int .i64 s_1)] rfl ⟨rfl, rfl, rfl, rfl, rfl, trivial⟩ ?_
        refine WO_end ?_
        cases hm5
        have hq := hd9 _ rfl
        subst hq
        have hm : some _ = some _ := hm
        cases hm
        exact WK_ret (ret_out (L := []) (RLc_tmp rfl RLc_nil) (List.nil_sublist _) rfl)
      · have hm5 := ifF hb14 hm5
        refine WK_skip ?_
        refine WK_blk ?_
        refine WK_region ?_
        refine WO_pure tbok 2 [(0, .slice a_p0 p0.length c_p0), (1, .int .i64 p1), (4, .int .i64 0), (7, .int .i64 (p0.length : Int)), (8, .int .i64 (w64 (s_1 + 1)))] rfl ⟨rfl, rfl, rfl, rfl, rfl, trivial⟩ ?_
        refine WO_end ?_
        cases hm5
        refine WK.sub ?_ (WK.cls (fun _ h => h) (hn8 _ () rfl trivial))
        exact ⟨rfl, rfl, rfl, rfl, rfl, trivial⟩
    · have hm5 := ifF hb11 hm5
      refine WK_exit rfl ?_
      cases hm5
      refine WK.sub ?_ (WK.cls (fun _ h => h) (hk4 ((), ()) (hd9 _ rfl)))
      exact ⟨rfl, trivial⟩
def census_Best_Q (r : List Int × Int) : Value → List Ent → Prop := fun v L => ∃ (a0 : Option Addr) (q0 c0 : Nat), v = .tuple #[.slice a0 q0 c0, .int .i64 r.2] ∧ OwnE 3 1 (I1 .i64) (.slice a0 q0 c0) r.1 L
theorem census_Best_walk {m : Mu} {p0_0 : Int} {p0_1 : Int} {p0_2 : Int} {p0_3 : List Int} {a_p0_3 : Option Addr} {q_p0_3 c_p0_3 : Nat} (h_p0_3 : SlR (FE (I1 .i64)) 1 m (.slice a_p0_3 q_p0_3 c_p0_3) p0_3) {r : List Int × Int} (hm : census_Best p0_0 p0_1 p0_2 p0_3 = some r) :
    Go.E.Spec Try.prog 27 [.agg #[.int .i64 p0_0, .int .i64 p0_1, .int .i64 p0_2, .slice a_p0_3 q_p0_3 c_p0_3]] m (fun v _ L => census_Best_Q r v L) := by
  refine Spec_enterM Try.func27 rfl rfl rfl (fun w0 => ?_)
  refine WK.sub (e' := [(0, .agg #[.int .i64 p0_0, .int .i64 p0_1, .int .i64 p0_2, .slice a_p0_3 q_p0_3 c_p0_3])]) ⟨rfl, trivial⟩ ?_
  obtain rfl := SlR.qlen h_p0_3
  refine WK.sub (e' := [(0, .agg #[.int .i64 p0_0, .int .i64 p0_1, .int .i64 p0_2, .slice a_p0_3 p0_3.length c_p0_3])]) ⟨rfl, trivial⟩ ?_
  unfold census_Best at hm
  refine WK_seq ?_
  refine WK_region ?_
  refine WO_box [.int .i64 p0_0, .int .i64 p0_1, .int .i64 p0_2, .slice a_p0_3 p0_3.length c_p0_3] rfl rfl trivial rfl rfl rfl (fun b2 => ?_)
  refine WO.cls (C' := St w0 m m [[⟨b2, 39, [.int .i64 p0_0, .int .i64 p0_1, .int .i64 p0_2, .slice a_p0_3 p0_3.length c_p0_3]⟩]]) (fun _ h => h) ?_
  refine WO_pure tbok 2 [(1, .pointer (some ⟨b2, 0, none⟩)), (2, .slice none 0 0), (3, .int .i64 0)] rfl ⟨rfl, rfl, rfl, trivial⟩ ?_
  refine WO_end ?_
  refine WK_seq ?_
  refine WK_seq ?_
  refine WK_region ?_
  refine WO_loadB tbok 0 rfl rfl rfl rfl (fun _ h => h) rfl rfl ?_
  obtain ⟨y_1, hc3, hm⟩ := bind_some hm
  refine WO_call0 (.int .i64 y_1) rfl rfl trivial rfl rfl rfl rfl St_closed ⟨21, #[], #[], rfl, callable_21, fun w hw => ⟨_, hw.sat, census_Check_walk h_p0_3 hc3⟩⟩ ?_
  refine WO_pure tbok 1 [(1, .pointer (some ⟨b2, 0, none⟩)), (2, .slice none 0 0), (3, .int .i64 0), (4, .int .i64 y_1)] rfl ⟨rfl, rfl, rfl, rfl, trivial⟩ ?_
  refine WO_end ?_
  refine WK_seq ?_
  refine WK_region ?_
  refine WO_pure tbok 2 [(1, .pointer (some ⟨b2, 0, none⟩)), (2, .slice none 0 0), (3, .int .i64 0), (4, .int .i64 y_1), (10, .bool (y_1 != 0))] rfl ⟨rfl, rfl, rfl, rfl, rfl, trivial⟩ ?_
  refine WO_end ?_
  refine WK_cond (b := y_1 != 0) rfl (fun hb4 => ?_) (fun hb4 => ?_)
  · have hm := ifT hb4 hm
    refine WK_seq ?_
    refine WK_region ?_
    refine WO_pure tbok 3 [(1, .pointer (some ⟨b2, 0, none⟩)), (2, .slice none 0 0), (3, .int .i64 y_1)] rfl ⟨rfl, rfl, rfl, trivial⟩ ?_
    refine WO_end ?_
    cases hm
    exact WK_ret (ret_out0 (L := []) (RLc_tmp rfl (RLc_tmp rfl RLc_nil)) (List.nil_sublist _) ⟨none, 0, 0, rfl, (OwnE.nil none)⟩)
  · have hm := ifF hb4 hm
    refine WK_skip ?_
    refine WK_seq ?_
    refine WK_region ?_
    refine WO_alloc tbok [.slice none 0 0] rfl rfl trivial rfl rfl rfl rfl (fun b5 => ?_)
    refine WO.cls (C' := St w0 m m [[⟨b2, 39, [.int .i64 p0_0, .int .i64 p0_1, .int .i64 p0_2, .slice a_p0_3 p0_3.length c_p0_3]⟩], [⟨b5, 22, [.slice none 0 0]⟩]]) (fun _ h => h) ?_
    refine WO_end ?_
    refine WK_seq ?_
    refine WK_seq ?_
    refine WK_region ?_
    refine WO_pure tbok 1 [(1, .pointer (some ⟨b2, 0, none⟩)), (2, .slice none 0 0), (3, .int .i64 0), (5, .pointer (some ⟨b5, 0, none⟩)), (12, .pointer (some ⟨b2, 3, none⟩))] rfl ⟨rfl, rfl, rfl, rfl, rfl, trivial⟩ ?_
    refine WO_loadB tbok 0 rfl rfl rfl rfl (fun _ h => h) rfl rfl ?_
    refine WO_pure tbok 1 [(2, .slice none 0 0), (3, .int .i64 0), (5, .pointer (some ⟨b5, 0, none⟩)), (13, .slice a_p0_3 p0_3.length c_p0_3), (14, .pointer (some ⟨b2, 2, none⟩))] rfl ⟨rfl, rfl, rfl, rfl, rfl, trivial⟩ ?_
    refine WO_loadB tbok 0 rfl rfl rfl rfl (fun _ h => h) rfl rfl ?_
    refine WO_inline rfl rfl rfl rfl rfl rfl callable_44 Try.func44 rfl rfl rfl ?_
    refine WK.sub (e' := [(0, .slice a_p0_3 p0_3.length c_p0_3), (1, .int .i64 p0_2)]) ⟨rfl, rfl, trivial⟩ ?_
    refine WK_seq ?_
    refine WK_region ?_
    refine WO_box [.slice a_p0_3 p0_3.length c_p0_3] rfl rfl trivial rfl rfl rfl (fun b6 => ?_)
    refine WO.cls (C' := St w0 m m [[⟨b2, 39, [.int .i64 p0_0, .int .i64 p0_1, .int .i64 p0_2, .slice a_p0_3 p0_3.length c_p0_3]⟩], [⟨b5, 22, [.slice none 0 0]⟩], [⟨b6, 22, [.slice a_p0_3 p0_3.length c_p0_3]⟩]]) (fun _ h => h) ?_
    refine WO_box [.int .i64 p0_2] rfl rfl trivial rfl rfl rfl (fun b7 => ?_)
    refine WO.cls (C' := St w0 m m [[⟨b2, 39, [.int .i64 p0_0, .int .i64 p0_1, .int .i64 p0_2, .slice a_p0_3 p0_3.length c_p0_3]⟩], [⟨b5, 22, [.slice none 0 0]⟩], [⟨b6, 22, [.slice a_p0_3 p0_3.length c_p0_3]⟩], [⟨b7, 3, [.int .i64 p0_2]⟩]]) (fun _ h => h) ?_
    refine WO_pure tbok 1 [(2, .pointer (some ⟨b6, 0, none⟩)), (3, .pointer (some ⟨b7, 0, none⟩)), (4, .nilFunc)] rfl ⟨rfl, rfl, rfl, trivial⟩ ?_
    refine WO_end ?_
    refine WK_seq ?_
    refine WK_seq ?_
    refine WK_region ?_
    refine WO_loadB tbok 3 rfl rfl rfl rfl (fun _ h => h) rfl rfl ?_
    refine WO_pure tbok 1 [(2, .pointer (some ⟨b6, 0, none⟩)), (3, .pointer (some ⟨b7, 0, none⟩)), (4, .nilFunc), (6, .bool (decide (p0_2 < 1)))] rfl ⟨rfl, rfl, rfl, rfl, trivial⟩ ?_
    refine WO_end ?_
    refine WK_cond (b := decide (p0_2 < 1)) rfl (fun hb8 => ?_) (fun hb8 => ?_)
    · have hm := ifT hb8 hm
      refine WK_region ?_
      cases hm
    · have hm := ifF hb8 hm
      refine WK_skip ?_
      refine WK_seq ?_
      refine WK_region ?_
      refine WO_pure tbok 2 [(4, .func (.func 52) #[] #[.pointer (some ⟨b6, 0, none⟩), .pointer (some ⟨b7, 0, none⟩)])] rfl ⟨rfl, trivial⟩ ?_
      refine WO_end ?_
      refine WK_retI (RLc_tmp rfl RLc_nil) (fun _ _ => trivial) ?_
      refine WO_end ?_
      refine WK_block ?_
      refine WK_freeze 2 rfl (fun m9 hle10 hmm11 => ?_)
      refine WK.cls (C' := St w0 m m9 [[⟨b2, 39, [.int .i64 p0_0, .int .i64 p0_1, .int .i64 p0_2, .slice a_p0_3 p0_3.length c_p0_3]⟩], [⟨b5, 22, [.slice none 0 0]⟩], [], [⟨b7, 3, [.int .i64 p0_2]⟩]]) (fun _ h => h) ?_
      refine WK_freeze 3 rfl (fun m13 hle14 hmm15 => ?_)
      refine WK.cls (C' := St w0 m m13 [[⟨b2, 39, [.int .i64 p0_0, .int .i64 p0_1, .int .i64 p0_2, .slice a_p0_3 p0_3.length c_p0_3]⟩], [⟨b5, 22, [.slice none 0 0]⟩], [], []]) (fun _ h => h) ?_
      obtain ⟨hc17, hm⟩ := chk_some hm
      refine WK_pad ?_
      obtain ⟨l_3, hx30, hm⟩ := bind_some hm
      refine WK.sub (e' := [(2, .slice none 0 0), (3, .int .i64 0), (5, .pointer (some ⟨b5, 0, none⟩)), (16, .func (.func 52) #[] #[.pointer (some ⟨b6, 0, none⟩), .pointer (some ⟨b7, 0, none⟩)])]) ⟨rfl, rfl, rfl, rfl, trivial⟩ (WK.cls (C' := St w0 m m13 [[⟨b2, 39, [.int .i64 p0_0, .int .i64 p0_1, .int .i64 p0_2, .slice a_p0_3 p0_3.length c_p0_3]⟩], [⟨b5, 22, [.slice none 0 0]⟩], [], [], []]) (fun _ h => h) ?_)
      refine WK_range (S := List Int) (G := Option Addr × Nat × Nat × List Ent) (gf := 52) (lb := [.pointer (some ⟨b6, 0, none⟩), .pointer (some ⟨b7, 0, none⟩)]) (chunksOf p0_2.toNat p0_3) (EvSl (FE (I1 .i64)) 1 m13) (fun (s : List Int) (x : List Int) => census_Best_s1 s x) (fun s g => [[⟨b2, 39, [.int .i64 p0_0, .int .i64 p0_1, .int .i64 p0_2, .slice a_p0_3 p0_3.length c_p0_3]⟩], [⟨b5, 22, [.slice g.1 ((s).length) g.2.2.1]⟩], [], [], g.2.2.2]) (fun s g => OwnE 3 1 (I1 .i64) (.slice g.1 g.2.1 g.2.2.1) s g.2.2.2) (fun v => [(5, .pointer (some ⟨b5, 0, none⟩)), (6, v)]) rfl callable_52 rfl (chunk_iter (hle14 _ _ (hmm11 _ (List.mem_singleton.2 rfl))) (hmm15 _ (List.mem_singleton.2 rfl)) ((h_p0_3.mono (mono_FE _) hle10).mono (mono_FE _) hle14) hc17) ([] : List Int) (none, 0, 0, []) l_3 hx30 (OwnE.nil (T := 3) (k := 1) (E := (I1 .i64)) none) ?_ ?_
      · rintro D31 m32 ⟨a27, q28, c29, L26⟩ hD33 hDn34 hle35 hmD36 hL26
        have hqq : q28 = l_3.length := OwnE.qlen hL26
        subst hqq
        refine WKx.sub (e' := [(2, .slice none 0 0), (3, .int .i64 0), (5, .pointer (some ⟨b5, 0, none⟩))]) ⟨rfl, rfl, rfl, trivial⟩ (WKx.cls (C' := St w0 m m32 [[⟨b2, 39, [.int .i64 p0_0, .int .i64 p0_1, .int .i64 p0_2, .slice a_p0_3 p0_3.length c_p0_3]⟩], [⟨b5, 22, [.slice a27 ((l_3).length) c29]⟩], [], [], L26]) (fun _ h => h) ?_)
        refine WKx_blk ?_
        refine WKx_seq ?_
        refine WKx_region (by kernel_rfl) ?_
        refine WO_loadB tbok 1 rfl rfl rfl rfl (fun _ h => h) rfl rfl ?_
        refine WO_pure tbok 2 [(2, .slice a27 ((l_3).length) c29), (3, .int .i64 0)] rfl ⟨rfl, rfl, trivial⟩ ?_
        refine WO_end ?_
        refine WK_back ?_
        cases hm
        exact WKx_ret (ret_outM (L := L26) hD33 hmD36 (none_le (hle10.trans hle14) hDn34) (fun _ => (RLc_tmp rfl (RLc_tmp rfl RLc_nil))) (seg_sub 4 rfl) (fun _ => ⟨a27, _, c29, rfl, hL26⟩))
      · rintro lp37 x_4 _ l_2 o ⟨a22, q23, c24, L21⟩ hmem41 ⟨a38, q39, c40, rfl, h42⟩ hs43 hL21
        obtain rfl := SlR.qlen h42
        have hs43 : census_Best_s1 l_2 x_4 = some o := hs43
        unfold census_Best_s1 at hs43
        have hqq : q23 = l_2.length := OwnE.qlen hL21
        subst hqq
        refine ⟨fun mb44 Ra hle45 hk46 => ?_, fun mb44 Rb hle45 hk46 => ?_⟩
        · refine WKx.sub (e' := [(2, .slice none 0 0), (3, .int .i64 0), (5, .pointer (some ⟨b5, 0, none⟩)), (16, .func (.func 52) #[] #[.pointer (some ⟨b6, 0, none⟩), .pointer (some ⟨b7, 0, none⟩)]), (17, .slice a38 x_4.length c40)]) ⟨rfl, rfl, rfl, rfl, rfl, trivial⟩ (WKx.cls (C' := St w0 m mb44 [[⟨b2, 39, [.int .i64 p0_0, .int .i64 p0_1, .int .i64 p0_2, .slice a_p0_3 p0_3.length c_p0_3]⟩], [⟨b5, 22, [.slice a22 ((l_2).length) c24]⟩], [], [], L21]) (fun _ h => h) ?_)
          refine WKx_region (by kernel_rfl) ?_
          refine WO_pure tbok 1 [(2, .slice none 0 0), (3, .int .i64 0), (5, .pointer (some ⟨b5, 0, none⟩)), (6, .slice a38 x_4.length c40)] rfl ⟨rfl, rfl, rfl, rfl, trivial⟩ ?_
          refine WO_end ?_
          refine WK_back ?_
          refine WKx.sub ?_ hk46
          exact ⟨rfl, rfl, trivial⟩
        · refine WKx.sub (e' := [(5, .pointer (some ⟨b5, 0, none⟩)), (6, .slice a38 x_4.length c40)]) ⟨rfl, rfl, trivial⟩ (WKx.cls (C' := St w0 m mb44 [[⟨b2, 39, [.int .i64 p0_0, .int .i64 p0_1, .int .i64 p0_2, .slice a_p0_3 p0_3.length c_p0_3]⟩], [⟨b5, 22, [.slice a22 ((l_2).length) c24]⟩], [], [], L21]) (fun _ h => h) ?_)
          refine WKx_block ?_
          refine WKx_draw (by kernel_rfl) 6 [0, 1, 2, 3, 4, 5] follows_ok (by kernel_rfl) St_closed ?_
          refine WO_loadB tbok 1 rfl rfl rfl rfl (fun _ h => h) rfl rfl ?_
          refine WO_pure tbok 2 [(5, .pointer (some ⟨b5, 0, none⟩)), (18, .slice a22 ((l_2).length) c24), (19, .slice a38 x_4.length c40), (20, .slice a38 x_4.length c40)] rfl ⟨rfl, rfl, rfl, rfl, trivial⟩ ?_
          obtain ⟨y_5, hc47, hs43⟩ := bind_some hs43
          refine WO_call0 (.int .i64 y_5) rfl rfl St_closed rfl rfl rfl rfl St_closed ⟨46, #[], #[], rfl, callable_46, fun w hw => ⟨_, hw.sat, slices_Min_sint_walk (h42.mono (mono_FE _) hle45) hc47⟩⟩ ?_
          obtain ⟨y_6, hc48, hs43⟩ := bind_some hs43
          refine WO_call0 (.int .i64 y_6) rfl rfl St_closed rfl rfl rfl rfl St_closed ⟨45, #[], #[], rfl, callable_45, fun w hw => ⟨_, hw.sat, slices_Index_sint_walk (h42.mono (mono_FE _) hle45) hc48⟩⟩ ?_
          refine WO_bslice (E := (I1 .i64)) tbok (fun _ => rfl) (by decide) [.int .i64 y_6] ([y_6] : List Int) rfl rfl St_closed rfl rfl rfl rfl rfl rfl rfl rfl rfl rfl rfl rfl (fun b49 hb49 => ?_)
          refine WO.cls (C' := St w0 m mb44 [[⟨b2, 39, [.int .i64 p0_0, .int .i64 p0_1, .int .i64 p0_2, .slice a_p0_3 p0_3.length c_p0_3]⟩], [⟨b5, 22, [.slice a22 ((l_2).length) c24]⟩], [], [], L21, [⟨b49, 3, ([y_6] : List Int).flatMap (I1 .i64)⟩]]) (fun _ h => h) ?_
          refine WO_tail ?_
          obtain ⟨hc51, hs43⟩ := chk_some hs43
          refine WO_append (E := (I1 .i64)) tbok (fun _ => rfl) 4 ([y_6] : List Int) (fun _ _ => rfl) rfl rfl rfl rfl rfl rfl rfl rfl rfl rfl rfl rfl hL21 rfl (src_seg (j := 5) rfl) (ap_ok (by decide) hc51) (ap_max hc51) (fun a52 c53 L54 hL54 => ?_)
          refine WO.cls (C' := St w0 m mb44 [[⟨b2, 39, [.int .i64 p0_0, .int .i64 p0_1, .int .i64 p0_2, .slice a_p0_3 p0_3.length c_p0_3]⟩], [⟨b5, 22, [.slice a22 ((l_2).length) c24]⟩], [], [], L54, [⟨b49, 3, ([y_6] : List Int).flatMap (I1 .i64)⟩]]) (fun _ h => h) ?_
          refine WO_storeB tbok 1 [.slice a52 ((l_2 ++ ([y_6] : List Int)).length) c53] rfl rfl rfl rfl rfl rfl rfl ?_
          refine WO.cls (C' := St w0 m mb44 [[⟨b2, 39, [.int .i64 p0_0, .int .i64 p0_1, .int .i64 p0_2, .slice a_p0_3 p0_3.length c_p0_3]⟩], [⟨b5, 22, [.slice a52 ((l_2 ++ ([y_6] : List Int)).length) c53]⟩], [], [], L54, [⟨b49, 3, ([y_6] : List Int).flatMap (I1 .i64)⟩]]) (fun _ h => h) ?_
          refine WO_end ?_
          refine WK_back ?_
          refine WKx_blk ?_
          cases hs43
          refine WKx.sub ?_ (WKx.cls (fun _ h => St.take 5 h) (hk46 (a52, (l_2 ++ ([y_6] : List Int)).length, c53, L54) hL54))
          exact trivial
theorem slices_Equal_sint_walk {m : Mu} {p0 : List Int} {p1 : List Int} {a_p0 : Option Addr} {q_p0 c_p0 : Nat} {a_p1 : Option Addr} {q_p1 c_p1 : Nat} (h_p0 : SlR (FE (I1 .i64)) 1 m (.slice a_p0 q_p0 c_p0) p0) (h_p1 : SlR (FE (I1 .i64)) 1 m (.slice a_p1 q_p1 c_p1) p1) {r : Bool} (hm : slices_Equal_sint p0 p1 = some r) :
    Go.E.Spec Try.prog 15 [.slice a_p0 q_p0 c_p0, .slice a_p1 q_p1 c_p1] m (fun v _ _ => v = .bool r) := by
  refine Spec_enter Try.func15 rfl rfl rfl (fun w0 => ?_)
  refine WK.sub (e' := [(0, .slice a_p0 q_p0 c_p0), (1, .slice a_p1 q_p1 c_p1)]) ⟨rfl, rfl, trivial⟩ ?_
  obtain rfl := SlR.qlen h_p0
  obtain rfl := SlR.qlen h_p1
  refine WK.sub (e' := [(0, .slice a_p0 p0.length c_p0), (1, .slice a_p1 p1.length c_p1)]) ⟨rfl, rfl, trivial⟩ ?_
  unfold slices_Equal_sint at hm
  refine WK_seq ?_
  refine WK_region ?_
  refine WO_pure tbok 1 [(0, .slice a_p0 p0.length c_p0), (1, .slice a_p1 p1.length c_p1), (4, .bool false)] rfl ⟨rfl, rfl, rfl, trivial⟩ ?_
  refine WO_end ?_
  refine WK_seq ?_
  refine WK_seq ?_
  refine WK_region ?_
  refine WO_pure tbok 5 [(0, .slice a_p0 p0.length c_p0), (1, .slice a_p1 p1.length c_p1), (4, .bool false), (10, .bool ((p0.length : Int) != (p1.length : Int)))] rfl ⟨rfl, rfl, rfl, rfl, trivial⟩ ?_
  refine WO_end ?_
  refine WK_cond (b := (p0.length : Int) != (p1.length : Int)) rfl (fun hb3 => ?_) (fun hb3 => ?_)
  · have hm := ifT hb3 hm
    refine WK_seq ?_
    refine WK_region ?_
    refine WO_pure tbok 1 [(0, .slice a_p0 p0.length c_p0), (1, .slice a_p1 p1.length c_p1), (4, .bool false)] rfl ⟨rfl, rfl, rfl, trivial⟩ ?_
    refine WO_end ?_
    cases hm
    exact WK_ret (ret_out (L := []) (RLc_tmp rfl RLc_nil) (List.nil_sublist _) rfl)
  · have hm := ifF hb3 hm
    refine WK_skip ?_
    refine WK_seq ?_
    refine WK_seq ?_
    refine WK_region ?_
    refine WO_pure tbok 3 [(0, .slice a_p0 p0.length c_p0), (1, .slice a_p1 p1.length c_p1), (4, .bool false), (12, .int .i64 (p0.length : Int)), (13, .int .i64 0)] rfl ⟨rfl, rfl, rfl, rfl, rfl, trivial⟩ ?_
    refine WO_end ?_
    obtain ⟨x4, hx5, hm⟩ := bind_some hm
    refine WK_join (β := Unit × Unit) (fun p => Sum.inr p.1 = x4) (fun p => [(4, .bool false)]) (fun p => St w0 m m []) ?_ (fun hk6 => ?_)
    · rintro ⟨⟨⟩, ⟨⟩⟩ hq12
      subst hq12
      refine WK.sub (e' := [(4, .bool false)]) ⟨rfl, trivial⟩ (WK.cls (C' := St w0 m m []) (fun _ h => h) ?_)
      refine WK_seq ?_
      refine WK_region ?_
      refine WO_pure tbok 1 [(4, .bool true)] rfl ⟨rfl, trivial⟩ ?_
      refine WO_end ?_
      cases hm
      exact WK_ret (ret_out (L := []) (RLc_tmp rfl RLc_nil) (List.nil_sublist _) rfl)
    · refine WK_block ?_
      refine WK_loop (S := Int) (G := Unit) (fun s => slices_Equal_sint_s1 p0 p1 s) (fun s g => [(0, .slice a_p0 p0.length c_p0), (1, .slice a_p1 p1.length c_p1), (4, .bool false), (12, .int .i64 (p0.length : Int)), (13, .int .i64 s)]) (fun s g => St w0 m m []) (fun s g => True) FUEL 0 () x4 hx5 trivial ⟨rfl, rfl, rfl, rfl, rfl, trivial⟩ (fun _ h => h) ?_
      rintro s_1 ⟨⟩ o8 fl9 hm7 - hn10 hd11
      have hm7 : slices_Equal_sint_s1 p0 p1 s_1 = some o8 := hm7
      unfold slices_Equal_sint_s1 at hm7
      refine WK.sub (e' := [(0, .slice a_p0 p0.length c_p0), (1, .slice a_p1 p1.length c_p1), (4, .bool false), (12, .int .i64 (p0.length : Int)), (13, .int .i64 s_1)]) ⟨rfl, rfl, rfl, rfl, rfl, trivial⟩ (WK.cls (C' := St w0 m m []) (fun _ h => h) ?_)
      refine WK_seq ?_
      refine WK_region ?_
      refine WO_pure tbok 1 [(0, .slice a_p0 p0.length c_p0), (1, .slice a_p1 p1.length c_p1), (4, .bool false), (12, .int .i64 (p0.length : Int)), (13, .int .i64 s_1), (14, .bool (decide (s_1 < (p0.length : Int))))] rfl ⟨rfl, rfl, rfl, rfl, rfl, rfl, trivial⟩ ?_
      refine WO_end ?_
      refine WK_seq ?_
      refine WK_cond (b := decide (s_1 < (p0.length : Int))) rfl (fun hb13 => ?_) (fun hb13 => ?_)
      · have hm7 := ifT hb13 hm7
        refine WK_skip ?_
        refine WK_seq ?_
        refine WK_block ?_
        refine WK_seq ?_
        refine WK_region ?_
        refine WO_pure tbok 2 [(0, .slice a_p0 p0.length c_p0), (1, .slice a_p1 p1.length c_p1), (4, .bool false), (5, .int .i64 s_1), (12, .int .i64 (p0.length : Int)), (13, .int .i64 s_1)] rfl ⟨rfl, rfl, rfl, rfl, rfl, rfl, trivial⟩ ?_
        refine WO_end ?_
        refine WK_seq ?_
        refine WK_draw 9 [0, 1, 2, 3, 4, 5, 6, 7, 8] follows_ok (by kernel_rfl) St_closed ?_
        refine WO_pure tbok 2 [(0, .slice a_p0 p0.length c_p0), (1, .slice a_p1 p1.length c_p1), (4, .bool false), (5, .int .i64 s_1), (12, .int .i64 (p0.length : Int)), (13, .int .i64 s_1), (16, .slice a_p0 p0.length c_p0), (17, .int .i64 s_1)] rfl ⟨rfl, rfl, rfl, rfl, rfl, rfl, rfl, rfl, trivial⟩ ?_
        obtain ⟨v_2, hy14, hm7⟩ := bind_some hm7
        obtain ⟨hc15, hy14⟩ := ix_some hy14
        refine WO_index tbok rfl rfl rfl rfl rfl rfl rfl rfl (SlR.addr h_p0) hc15 ?_
        refine WO_loadE tbok rfl rfl rfl rfl (fun _ h => St.sat h) h_p0 hy14 rfl ?_
        refine WO_pure tbok 2 [(0, .slice a_p0 p0.length c_p0), (1, .slice a_p1 p1.length c_p1), (4, .bool false), (12, .int .i64 (p0.length : Int)), (13, .int .i64 s_1), (19, .int .i64 v_2), (20, .slice a_p1 p1.length c_p1), (21, .int .i64 s_1)] rfl ⟨rfl, rfl, rfl, rfl, rfl, rfl, rfl, rfl, trivial⟩ ?_
        obtain ⟨v_3, hy16, hm7⟩ := bind_some hm7
        obtain ⟨hc17, hy16⟩ := ix_some hy16
        refine WO_index tbok rfl rfl rfl rfl rfl rfl rfl rfl (SlR.addr h_p1) hc17 ?_
        refine WO_loadE tbok rfl rfl rfl rfl (fun _ h => St.sat h) h_p1 hy16 rfl ?_
        refine WO_pure tbok 1 [(0, .slice a_p0 p0.length c_p0), (1, .slice a_p1 p1.length c_p1), (4, .bool false), (12, .int .i64 (p0.length : Int)), (13, .int .i64 s_1), (24, .bool (v_2 != v_3))] rfl ⟨rfl, rfl, rfl, rfl, rfl, rfl, trivial⟩ ?_
        refine WO_tail ?_
        refine WO_end ?_
        refine WK_cond (b := v_2 != v_3) rfl (fun hb18 => ?_) (fun hb18 => ?_)
        · have hm7 := ifT hb18 hm7
          refine WK_seq ?_
          refine WK_region ?_
          refine WO_pure tbok 1 [(0, .slice a_p0 p0.length c_p0), (1, .slice a_p1 p1.length c_p1), (4, .bool false), (12, .int .i64 (p0.length : Int)), (13, .int .i64 s_1)] rfl ⟨rfl, rfl, rfl, rfl, rfl, trivial⟩ ?_
          refine WO_end ?_
          cases hm7
          have hq := hd11 _ rfl
          subst hq
          have hm : some _ = some _ := hm
          cases hm
          exact WK_ret (ret_out (L := []) (RLc_tmp rfl RLc_nil) (List.nil_sublist _) rfl)
        · have hm7 := ifF hb18 hm7
          refine WK_skip ?_
          refine WK_blk ?_
          refine WK_region ?_
          refine WO_pure tbok 2 [(0, .slice a_p0 p0.length c_p0), (1, .slice a_p1 p1.length c_p1), (4, .bool false), (12, .int .i64 (p0.length : Int)), (13, .int .i64 (w64 (s_1 + 1)))] rfl ⟨rfl, rfl, rfl, rfl, rfl, trivial⟩ ?_
          refine WO_end ?_
          cases hm7
          refine WK.sub ?_ (WK.cls (fun _ h => h) (hn10 _ () rfl trivial))
          exact ⟨rfl, rfl, rfl, rfl, rfl, trivial⟩
      · have hm7 := ifF hb13 hm7
        refine WK_exit rfl ?_
        cases hm7
        refine WK.sub ?_ (WK.cls (fun _ h => h) (hk6 ((), ()) (hd11 _ rfl)))
        exact ⟨rfl, trivial⟩
end Go.Proofs.Ytmeopehknkfnbaa
