import Derived.Test.YtdgmeplpkehdnaaTab
import Derived.Test.YtdgmeplpkehdnaaM
set_option linter.unusedVariables false
set_option maxRecDepth 100000
set_option maxHeartbeats 4000000
namespace Go.Proofs.Ytdgmeplpkehdnaa
open Go.E Go.RowKit
attribute [local irreducible] Go.E.WO Go.E.WK
theorem slices_IndexFunc_sint_walk {m : Mu} {p0 : List Int} {p1 : Int → Option Bool} {a_p0 : Option Addr} {q_p0 c_p0 : Nat} {p1v : Value} (h_p0 : SlR (FE (I1 .i64)) 1 m (.slice a_p0 q_p0 c_p0) p0) (hp1 : ∀ (u1 : Int), ∀ (r : Bool), p1 u1 = some r → SpecV Try.prog p1v [.int .i64 u1] m (fun v _ _ => v = .bool r)) {r : Int} (hm : slices_IndexFunc_sint p0 p1 = some r) :
    Go.E.Spec Try.prog 65 [.slice a_p0 q_p0 c_p0, p1v] m (fun v _ _ => v = .int .i64 r) := by
  refine Spec_enter Try.func65 rfl rfl rfl (fun w0 => ?_)
  refine WK.sub (e' := [(0, .slice a_p0 q_p0 c_p0), (1, p1v)]) ⟨rfl, rfl, trivial⟩ ?_
  obtain rfl := SlR.qlen h_p0
  refine WK.sub (e' := [(0, .slice a_p0 p0.length c_p0), (1, p1v)]) ⟨rfl, rfl, trivial⟩ ?_
  unfold slices_IndexFunc_sint at hm
  refine WK_seq ?_
  refine WK_region ?_
  refine WO_pure tbok 1 [(0, .slice a_p0 p0.length c_p0), (1, p1v), (4, .int .i64 0)] rfl ⟨rfl, rfl, rfl, trivial⟩ ?_
  refine WO_end ?_
  refine WK_seq ?_
  refine WK_seq ?_
  refine WK_region ?_
  refine WO_pure tbok 3 [(0, .slice a_p0 p0.length c_p0), (1, p1v), (4, .int .i64 0), (7, .int .i64 (p0.length : Int)), (8, .int .i64 0)] rfl ⟨rfl, rfl, rfl, rfl, rfl, trivial⟩ ?_
  refine WO_end ?_
  obtain ⟨x2, hx3, hm⟩ := bind_some hm
  refine WK_join (β := Unit × Unit) (fun p => Sum.inr p.1 = x2) (fun p => [(4, .int .i64 0)]) (fun p => St w0 m m []) ?_ (fun hk4 => ?_)
  · rintro ⟨⟨⟩, ⟨⟩⟩ hq10
    subst hq10
    refine WK.sub (e' := [(4, .int .i64 0)]) ⟨rfl, trivial⟩ (WK.cls (C' := St w0 m m []) (fun _ h => h) ?_)
    refine WK_seq ?_
    refine WK_region ?_
    refine WO_pure tbok 1 [(4, .int .i64 (-1))] rfl ⟨rfl, trivial⟩ ?_
    refine WO_end ?_
    cases hm
    exact WK_ret (ret_out (L := []) (RLc_tmp rfl RLc_nil) (List.nil_sublist _) rfl)
  · refine WK_block ?_
    refine WK_loop (S := Int) (G := Unit) (fun s => slices_IndexFunc_sint_s1 p0 p1 s) (fun s g => [(0, .slice a_p0 p0.length c_p0), (1, p1v), (4, .int .i64 0), (7, .int .i64 (p0.length : Int)), (8, .int .i64 s)]) (fun s g => St w0 m m []) (fun s g => True) FUEL 0 () x2 hx3 trivial ⟨rfl, rfl, rfl, rfl, rfl, trivial⟩ (fun _ h => h) ?_
    rintro s_1 ⟨⟩ o6 fl7 hm5 - hn8 hd9
    have hm5 : slices_IndexFunc_sint_s1 p0 p1 s_1 = some o6 := hm5
    unfold slices_IndexFunc_sint_s1 at hm5
    refine WK.sub (e' := [(0, .slice a_p0 p0.length c_p0), (1, p1v), (4, .int .i64 0), (7, .int .i64 (p0.length : Int)), (8, .int .i64 s_1)]) ⟨rfl, rfl, rfl, rfl, rfl, trivial⟩ (WK.cls (C' := St w0 m m []) (fun _ h => h) ?_)
    refine WK_seq ?_
    refine WK_region ?_
    refine WO_pure tbok 1 [(0, .slice a_p0 p0.length c_p0), (1, p1v), (4, .int .i64 0), (7, .int .i64 (p0.length : Int)), (8, .int .i64 s_1), (9, .bool (decide (s_1 < (p0.length : Int))))] rfl ⟨rfl, rfl, rfl, rfl, rfl, rfl, trivial⟩ ?_
    refine WO_end ?_
    refine WK_seq ?_
    refine WK_cond (b := decide (s_1 < (p0.length : Int))) rfl (fun hb11 => ?_) (fun hb11 => ?_)
    · have hm5 := ifT hb11 hm5
      refine WK_skip ?_
      refine WK_seq ?_
      refine WK_block ?_
      refine WK_seq ?_
      refine WK_region ?_
      refine WO_pure tbok 2 [(0, .slice a_p0 p0.length c_p0), (1, p1v), (4, .int .i64 0), (5, .int .i64 s_1), (7, .int .i64 (p0.length : Int)), (8, .int .i64 s_1)] rfl ⟨rfl, rfl, rfl, rfl, rfl, rfl, trivial⟩ ?_
      refine WO_end ?_
      refine WK_seq ?_
      refine WK_region ?_
      refine WO_pure tbok 3 [(0, .slice a_p0 p0.length c_p0), (1, p1v), (4, .int .i64 0), (5, .int .i64 s_1), (7, .int .i64 (p0.length : Int)), (8, .int .i64 s_1), (11, p1v), (12, .slice a_p0 p0.length c_p0), (13, .int .i64 s_1)] rfl ⟨rfl, rfl, rfl, rfl, rfl, rfl, rfl, rfl, rfl, trivial⟩ ?_
      obtain ⟨v_2, hy12, hm5⟩ := bind_some hm5
      obtain ⟨hc13, hy12⟩ := ix_some hy12
      refine WO_index tbok rfl rfl rfl rfl rfl rfl rfl rfl (SlR.addr h_p0) hc13 ?_
      refine WO_loadE tbok rfl rfl rfl rfl (fun _ h => St.sat h) h_p0 hy12 rfl ?_
      obtain ⟨y_3, hc14, hm5⟩ := bind_some hm5
      obtain ⟨f0, first0, cap0, hf0, hcal0, hsp0⟩ := hp1 v_2 _ hc14
      refine WO_call0 (.bool y_3) rfl rfl trivial rfl rfl rfl rfl St_closed ⟨f0, first0, cap0, hf0, hcal0, fun w hw => ⟨m, hw.sat, hsp0⟩⟩ ?_
      refine WO_end ?_
      refine WK_cond (b := y_3) rfl (fun hb15 => ?_) (fun hb15 => ?_)
      · have hm5 := ifT hb15 hm5
        refine WK_seq ?_
        refine WK_region ?_
        refine WO_pure tbok 2 [(0, .slice a_p0 p0.length c_p0), (1, p1v), (4, .int .i64 s_1), (7, .int .i64 (p0.length : Int)), (8, .int .i64 s_1)] rfl ⟨rfl, rfl, rfl, rfl, rfl, trivial⟩ ?_
        refine WO_end ?_
        cases hm5
        have hq := hd9 _ rfl
        subst hq
        have hm : some _ = some _ := hm
        cases hm
        exact WK_ret (ret_out (L := []) (RLc_tmp rfl RLc_nil) (List.nil_sublist _) rfl)
      · have hm5 := ifF hb15 hm5
        refine WK_skip ?_
        refine WK_blk ?_
        refine WK_region ?_
        refine WO_pure tbok 2 [(0, .slice a_p0 p0.length c_p0), (1, p1v), (4, .int .i64 0), (7, .int .i64 (p0.length : Int)), (8, .int .i64 (w64 (s_1 + 1)))] rfl ⟨rfl, rfl, rfl, rfl, rfl, trivial⟩ ?_
        refine WO_end ?_
        cases hm5
        refine WK.sub ?_ (WK.cls (fun _ h => h) (hn8 _ () rfl trivial))
        exact ⟨rfl, rfl, rfl, rfl, rfl, trivial⟩
    · have hm5 := ifF hb11 hm5
      refine WK_exit rfl ?_
      cases hm5
      refine WK.sub ?_ (WK.cls (fun _ h => h) (hk4 ((), ()) (hd9 _ rfl)))
      exact ⟨rfl, trivial⟩
theorem slices_ContainsFunc_sint_walk {m : Mu} {p0 : List Int} {p1 : Int → Option Bool} {a_p0 : Option Addr} {q_p0 c_p0 : Nat} {p1v : Value} (h_p0 : SlR (FE (I1 .i64)) 1 m (.slice a_p0 q_p0 c_p0) p0) (hp1 : ∀ (u1 : Int), ∀ (r : Bool), p1 u1 = some r → SpecV Try.prog p1v [.int .i64 u1] m (fun v _ _ => v = .bool r)) {r : Bool} (hm : slices_ContainsFunc_sint p0 p1 = some r) :
    Go.E.Spec Try.prog 62 [.slice a_p0 q_p0 c_p0, p1v] m (fun v _ _ => v = .bool r) := by
  refine Spec_enter Try.func62 rfl rfl rfl (fun w0 => ?_)
  refine WK.sub (e' := [(0, .slice a_p0 q_p0 c_p0), (1, p1v)]) ⟨rfl, rfl, trivial⟩ ?_
  obtain rfl := SlR.qlen h_p0
  refine WK.sub (e' := [(0, .slice a_p0 p0.length c_p0), (1, p1v)]) ⟨rfl, rfl, trivial⟩ ?_
  unfold slices_ContainsFunc_sint at hm
  refine WK_seq ?_
  refine WK_region ?_
  refine WO_pure tbok 1 [(0, .slice a_p0 p0.length c_p0), (1, p1v), (4, .bool false)] rfl ⟨rfl, rfl, rfl, trivial⟩ ?_
  refine WO_end ?_
  refine WK_seq ?_
  refine WK_region ?_
  refine WO_pure tbok 2 [(4, .bool false), (5, .slice a_p0 p0.length c_p0), (6, p1v)] rfl ⟨rfl, rfl, rfl, trivial⟩ ?_
  obtain ⟨y_1, hc2, hm⟩ := bind_some hm
  refine WO_call0 (.int .i64 y_1) rfl rfl trivial rfl rfl rfl rfl St_closed ⟨65, #[], #[], rfl, callable_65, fun w hw => ⟨_, hw.sat, slices_IndexFunc_sint_walk h_p0 hp1 hc2⟩⟩ ?_
  refine WO_pure tbok 2 [(4, .bool (decide (0 ≤ y_1)))] rfl ⟨rfl, trivial⟩ ?_
  refine WO_end ?_
  cases hm
  exact WK_ret (ret_out (L := []) (RLc_tmp rfl RLc_nil) (List.nil_sublist _) rfl)
theorem raster_Check_c1_walk {m : Mu} {p0 : Int} {q0_0 : Int} {q0_1 : Int} {q0_2 : Int} {q0_3 : List Int} {a_q0_3 : Option Addr} {q_q0_3 c_q0_3 : Nat} {b_q0 : Nat} (hb_q0 : m b_q0 = some (Ent.obj ⟨b_q0, 29, [.int .i64 q0_0, .int .i64 q0_1, .int .i64 q0_2, .slice a_q0_3 q_q0_3 c_q0_3]⟩)) (h_q0_3 : SlR (FE (I1 .i64)) 1 m (.slice a_q0_3 q_q0_3 c_q0_3) q0_3) {r : Bool} (hm : raster_Check_c1 p0 q0_0 q0_1 q0_2 q0_3 = some r) :
    Go.E.Spec Try.prog 63 [.int .i64 p0, .pointer (some ⟨b_q0, 0, none⟩)] m (fun v _ _ => v = .bool r) := by
  refine Spec_enter Try.func63 rfl rfl rfl (fun w0 => ?_)
  refine WK.sub (e' := [(0, .int .i64 p0), (1, .pointer (some ⟨b_q0, 0, none⟩))]) ⟨rfl, rfl, trivial⟩ ?_
  obtain rfl := SlR.qlen h_q0_3
  refine WK.sub (e' := [(0, .int .i64 p0), (1, .pointer (some ⟨b_q0, 0, none⟩))]) ⟨rfl, rfl, trivial⟩ ?_
  unfold raster_Check_c1 at hm
  refine WK_seq ?_
  refine WK_region ?_
  refine WO_pure tbok 1 [(0, .int .i64 p0), (1, .pointer (some ⟨b_q0, 0, none⟩)), (3, .bool false)] rfl ⟨rfl, rfl, rfl, trivial⟩ ?_
  refine WO_end ?_
  refine WK_seq ?_
  refine WK_region ?_
  refine WO_pure tbok 3 [(0, .int .i64 p0), (1, .pointer (some ⟨b_q0, 0, none⟩)), (3, .bool false), (6, .bool (decide (p0 < 0)))] rfl ⟨rfl, rfl, rfl, rfl, trivial⟩ ?_
  refine WO_split (d := 6) (b := decide (p0 < 0)) rfl (fun hb2 => ?_) (fun hb2 => ?_)
  · have hm := ifT hb2 hm
    refine WO_pure tbok 6 [(3, .bool true)] rfl ⟨rfl, trivial⟩ ?_
    refine WO_end ?_
    cases hm
    exact WK_ret (ret_out (L := []) (RLc_tmp rfl RLc_nil) (List.nil_sublist _) rfl)
  · have hm := ifF hb2 hm
    refine WO_pure tbok 2 [(3, .bool false), (6, .bool false), (7, .int .i64 p0), (8, .pointer (some ⟨b_q0, 2, none⟩))] rfl ⟨rfl, rfl, rfl, rfl, trivial⟩ ?_
    refine WO_loadM tbok rfl rfl rfl rfl (fun _ h => St.sat h) hb_q0 rfl ?_
    refine WO_pure tbok 3 [(3, .bool (decide (q0_2 < p0)))] rfl ⟨rfl, trivial⟩ ?_
    refine WO_end ?_
    cases hm
    exact WK_ret (ret_out (L := []) (RLc_tmp rfl RLc_nil) (List.nil_sublist _) rfl)
theorem raster_Check_walk {m : Mu} {p0_0 : Int} {p0_1 : Int} {p0_2 : Int} {p0_3 : List Int} {a_p0_3 : Option Addr} {q_p0_3 c_p0_3 : Nat} (h_p0_3 : SlR (FE (I1 .i64)) 1 m (.slice a_p0_3 q_p0_3 c_p0_3) p0_3) {r : Int} (hm : raster_Check p0_0 p0_1 p0_2 p0_3 = some r) :
    Go.E.Spec Try.prog 58 [.agg #[.int .i64 p0_0, .int .i64 p0_1, .int .i64 p0_2, .slice a_p0_3 q_p0_3 c_p0_3]] m (fun v _ _ => v = .int .i64 r) := by
  refine Spec_enter Try.func58 rfl rfl rfl (fun w0 => ?_)
  refine WK.sub (e' := [(0, .agg #[.int .i64 p0_0, .int .i64 p0_1, .int .i64 p0_2, .slice a_p0_3 q_p0_3 c_p0_3])]) ⟨rfl, trivial⟩ ?_
  obtain rfl := SlR.qlen h_p0_3
  refine WK.sub (e' := [(0, .agg #[.int .i64 p0_0, .int .i64 p0_1, .int .i64 p0_2, .slice a_p0_3 p0_3.length c_p0_3])]) ⟨rfl, trivial⟩ ?_
  unfold raster_Check at hm
  refine WK_seq ?_
  refine WK_region ?_
  refine WO_box [.int .i64 p0_0, .int .i64 p0_1, .int .i64 p0_2, .slice a_p0_3 p0_3.length c_p0_3] rfl rfl trivial rfl rfl rfl (fun b2 => ?_)
  refine WO.cls (C' := St w0 m m [[⟨b2, 29, [.int .i64 p0_0, .int .i64 p0_1, .int .i64 p0_2, .slice a_p0_3 p0_3.length c_p0_3]⟩]]) (fun _ h => h) ?_
  refine WO_pure tbok 1 [(1, .pointer (some ⟨b2, 0, none⟩)), (2, .int .i64 0)] rfl ⟨rfl, rfl, trivial⟩ ?_
  refine WO_end ?_
  refine WK_seq ?_
  refine WK_seq ?_
  obtain ⟨s_1, hx3, hm⟩ := bind_some hm
  refine WK_meet [(1, .pointer (some ⟨b2, 0, none⟩)), (2, .int .i64 0), (34, .bool s_1)] (St w0 m m [[⟨b2, 29, [.int .i64 p0_0, .int .i64 p0_1, .int .i64 p0_2, .slice a_p0_3 p0_3.length c_p0_3]⟩]]) ?_ (fun hk4 => ?_)
  · refine WK_cond (b := s_1) rfl (fun hb5 => ?_) (fun hb5 => ?_)
    · have hm := ifT hb5 hm
      refine WK_seq ?_
      refine WK_region ?_
      refine WO_pure tbok 1 [(1, .pointer (some ⟨b2, 0, none⟩)), (2, .int .i64 1)] rfl ⟨rfl, rfl, trivial⟩ ?_
      refine WO_end ?_
      cases hm
      exact WK_ret (ret_out (L := []) (RLc_tmp rfl RLc_nil) (List.nil_sublist _) rfl)
    · have hm := ifF hb5 hm
      refine WK_skip ?_
      refine WK_seq ?_
      refine WK_seq ?_
      refine WK_region ?_
      refine WO_pure tbok 1 [(1, .pointer (some ⟨b2, 0, none⟩)), (2, .int .i64 0), (35, .pointer (some ⟨b2, 3, none⟩))] rfl ⟨rfl, rfl, rfl, trivial⟩ ?_
      refine WO_loadB tbok 0 rfl rfl rfl rfl (fun _ h => h) rfl rfl ?_
      refine WO_pure tbok 1 [(2, .int .i64 0), (36, .slice a_p0_3 p0_3.length c_p0_3), (37, .func (.func 63) #[] #[.pointer (some ⟨b2, 0, none⟩)])] rfl ⟨rfl, rfl, rfl, trivial⟩ ?_
      obtain ⟨y_3, hc6, hm⟩ := bind_some hm
      refine WO_call0 (.bool y_3) rfl rfl trivial rfl rfl rfl rfl St_closed ⟨62, #[], #[], rfl, callable_62, fun w hw => ⟨_, hw.satV, slices_ContainsFunc_sint_walk (h_p0_3.mono (mono_FE _) hw.leV) (fun z_2 _ h => specV_cap callable_63 (raster_Check_c1_walk (hw.memV (i := 0) rfl (List.mem_singleton.2 rfl)) (h_p0_3.mono (mono_FE _) hw.leV) h)) hc6⟩⟩ ?_
      refine WO_end ?_
      refine WK_cond (b := y_3) rfl (fun hb7 => ?_) (fun hb7 => ?_)
      · have hm := ifT hb7 hm
        refine WK_seq ?_
        refine WK_region ?_
        refine WO_pure tbok 1 [(2, .int .i64 1)] rfl ⟨rfl, trivial⟩ ?_
        refine WO_end ?_
        cases hm
        exact WK_ret (ret_out (L := []) (RLc_tmp rfl RLc_nil) (List.nil_sublist _) rfl)
      · have hm := ifF hb7 hm
        refine WK_skip ?_
        refine WK_seq ?_
        refine WK_region ?_
        refine WO_pure tbok 1 [(2, .int .i64 0)] rfl ⟨rfl, trivial⟩ ?_
        refine WO_end ?_
        cases hm
        exact WK_ret (ret_out (L := []) (RLc_tmp rfl RLc_nil) (List.nil_sublist _) rfl)
  · refine WK_region ?_
    refine WO_pure tbok 1 [(1, .pointer (some ⟨b2, 0, none⟩)), (2, .int .i64 0), (3, .pointer (some ⟨b2, 0, none⟩))] rfl ⟨rfl, rfl, rfl, trivial⟩ ?_
    refine WO_loadB tbok 0 rfl rfl rfl rfl (fun _ h => h) rfl rfl ?_
    refine WO_pure tbok 1 [(1, .pointer (some ⟨b2, 0, none⟩)), (2, .int .i64 0), (4, .int .i64 p0_0), (5, .pointer (some ⟨b2, 1, none⟩))] rfl ⟨rfl, rfl, rfl, rfl, trivial⟩ ?_
    refine WO_loadB tbok 0 rfl rfl rfl rfl (fun _ h => h) rfl rfl ?_
    refine WO_pure tbok 1 [(1, .pointer (some ⟨b2, 0, none⟩)), (2, .int .i64 0), (4, .int .i64 p0_0), (6, .int .i64 p0_1), (7, .pointer (some ⟨b2, 2, none⟩))] rfl ⟨rfl, rfl, rfl, rfl, rfl, trivial⟩ ?_
    refine WO_loadB tbok 0 rfl rfl rfl rfl (fun _ h => h) rfl rfl ?_
    refine WO_pure tbok 3 [(1, .pointer (some ⟨b2, 0, none⟩)), (2, .int .i64 0), (11, .bool (decide ((if p0_2 < (if p0_1 < p0_0 then p0_1 else p0_0) then p0_2 else (if p0_1 < p0_0 then p0_1 else p0_0)) < 1)))] rfl ⟨rfl, rfl, rfl, trivial⟩ ?_
    refine WO_split (d := 11) (b := decide ((if p0_2 < (if p0_1 < p0_0 then p0_1 else p0_0) then p0_2 else (if p0_1 < p0_0 then p0_1 else p0_0)) < 1)) rfl (fun hb8 => ?_) (fun hb8 => ?_)
    · have hx3 := ifT hb8 hx3
      refine WO_pure tbok 23 [(1, .pointer (some ⟨b2, 0, none⟩)), (2, .int .i64 0), (34, .bool true)] rfl ⟨rfl, rfl, rfl, trivial⟩ ?_
      refine WO_end ?_
      cases hx3
      refine WK.sub ?_ (WK.cls (fun _ h => h) hk4)
      exact ⟨rfl, rfl, rfl, trivial⟩
    · have hx3 := ifF hb8 hx3
      refine WO_pure tbok 1 [(1, .pointer (some ⟨b2, 0, none⟩)), (2, .int .i64 0), (11, .bool false), (12, .pointer (some ⟨b2, 0, none⟩))] rfl ⟨rfl, rfl, rfl, rfl, trivial⟩ ?_
      refine WO_loadB tbok 0 rfl rfl rfl rfl (fun _ h => h) rfl rfl ?_
      refine WO_pure tbok 1 [(1, .pointer (some ⟨b2, 0, none⟩)), (2, .int .i64 0), (11, .bool false), (13, .int .i64 p0_0), (14, .pointer (some ⟨b2, 1, none⟩))] rfl ⟨rfl, rfl, rfl, rfl, rfl, trivial⟩ ?_
      refine WO_loadB tbok 0 rfl rfl rfl rfl (fun _ h => h) rfl rfl ?_
      refine WO_pure tbok 4 [(1, .pointer (some ⟨b2, 0, none⟩)), (2, .int .i64 0), (19, .bool (decide (64 < (if p0_0 < p0_1 then p0_1 else p0_0))))] rfl ⟨rfl, rfl, rfl, trivial⟩ ?_
      refine WO_split (d := 19) (b := decide (64 < (if p0_0 < p0_1 then p0_1 else p0_0))) rfl (fun hb9 => ?_) (fun hb9 => ?_)
      · have hx3 := ifT hb9 hx3
        refine WO_pure tbok 15 [(1, .pointer (some ⟨b2, 0, none⟩)), (2, .int .i64 0), (34, .bool true)] rfl ⟨rfl, rfl, rfl, trivial⟩ ?_
        refine WO_end ?_
        cases hx3
        refine WK.sub ?_ (WK.cls (fun _ h => h) hk4)
        exact ⟨rfl, rfl, rfl, trivial⟩
      · have hx3 := ifF hb9 hx3
        refine WO_pure tbok 1 [(1, .pointer (some ⟨b2, 0, none⟩)), (2, .int .i64 0), (19, .bool false), (20, .pointer (some ⟨b2, 2, none⟩))] rfl ⟨rfl, rfl, rfl, rfl, trivial⟩ ?_
        refine WO_loadB tbok 0 rfl rfl rfl rfl (fun _ h => h) rfl rfl ?_
        refine WO_pure tbok 3 [(1, .pointer (some ⟨b2, 0, none⟩)), (2, .int .i64 0), (24, .bool (decide (65535 < p0_2)))] rfl ⟨rfl, rfl, rfl, trivial⟩ ?_
        refine WO_split (d := 24) (b := decide (65535 < p0_2)) rfl (fun hb10 => ?_) (fun hb10 => ?_)
        · have hx3 := ifT hb10 hx3
          refine WO_pure tbok 10 [(1, .pointer (some ⟨b2, 0, none⟩)), (2, .int .i64 0), (34, .bool true)] rfl ⟨rfl, rfl, rfl, trivial⟩ ?_
          refine WO_end ?_
          cases hx3
          refine WK.sub ?_ (WK.cls (fun _ h => h) hk4)
          exact ⟨rfl, rfl, rfl, trivial⟩
        · have hx3 := ifF hb10 hx3
          refine WO_pure tbok 1 [(1, .pointer (some ⟨b2, 0, none⟩)), (2, .int .i64 0), (24, .bool false), (25, .pointer (some ⟨b2, 3, none⟩))] rfl ⟨rfl, rfl, rfl, rfl, trivial⟩ ?_
          refine WO_loadB tbok 0 rfl rfl rfl rfl (fun _ h => h) rfl rfl ?_
          refine WO_pure tbok 2 [(1, .pointer (some ⟨b2, 0, none⟩)), (2, .int .i64 0), (24, .bool false), (27, .int .i64 (p0_3.length : Int)), (28, .pointer (some ⟨b2, 0, none⟩))] rfl ⟨rfl, rfl, rfl, rfl, rfl, trivial⟩ ?_
          refine WO_loadB tbok 0 rfl rfl rfl rfl (fun _ h => h) rfl rfl ?_
          refine WO_pure tbok 1 [(1, .pointer (some ⟨b2, 0, none⟩)), (2, .int .i64 0), (24, .bool false), (27, .int .i64 (p0_3.length : Int)), (29, .int .i64 p0_0), (30, .pointer (some ⟨b2, 1, none⟩))] rfl ⟨rfl, rfl, rfl, rfl, rfl, rfl, trivial⟩ ?_
          refine WO_loadB tbok 0 rfl rfl rfl rfl (fun _ h => h) rfl rfl ?_
          refine WO_pure tbok 3 [(1, .pointer (some ⟨b2, 0, none⟩)), (2, .int .i64 0), (34, .bool ((p0_3.length : Int) != (w64 (p0_0 * p0_1))))] rfl ⟨rfl, rfl, rfl, trivial⟩ ?_
          refine WO_end ?_
          cases hx3
          refine WK.sub ?_ (WK.cls (fun _ h => h) hk4)
          exact ⟨rfl, rfl, rfl, trivial⟩
theorem raster_at_walk {m : Mu} {p0_0 : Int} {p0_1 : Int} {p0_2 : Int} {p0_3 : List Int} {p1 : Int} {p2 : Int} {a_p0_3 : Option Addr} {q_p0_3 c_p0_3 : Nat} (h_p0_3 : SlR (FE (I1 .i64)) 1 m (.slice a_p0_3 q_p0_3 c_p0_3) p0_3) {r : Int} (hm : raster_at p0_0 p0_1 p0_2 p0_3 p1 p2 = some r) :
    Go.E.Spec Try.prog 59 [.agg #[.int .i64 p0_0, .int .i64 p0_1, .int .i64 p0_2, .slice a_p0_3 q_p0_3 c_p0_3], .int .i64 p1, .int .i64 p2] m (fun v _ _ => v = .int .i64 r) := by
  refine Spec_enter Try.func59 rfl rfl rfl (fun w0 => ?_)
  refine WK.sub (e' := [(0, .agg #[.int .i64 p0_0, .int .i64 p0_1, .int .i64 p0_2, .slice a_p0_3 q_p0_3 c_p0_3]), (1, .int .i64 p1), (2, .int .i64 p2)]) ⟨rfl, rfl, rfl, trivial⟩ ?_
  obtain rfl := SlR.qlen h_p0_3
  refine WK.sub (e' := [(0, .agg #[.int .i64 p0_0, .int .i64 p0_1, .int .i64 p0_2, .slice a_p0_3 p0_3.length c_p0_3]), (1, .int .i64 p1), (2, .int .i64 p2)]) ⟨rfl, rfl, rfl, trivial⟩ ?_
  unfold raster_at at hm
  refine WK_seq ?_
  refine WK_region ?_
  refine WO_box [.int .i64 p0_0, .int .i64 p0_1, .int .i64 p0_2, .slice a_p0_3 p0_3.length c_p0_3] rfl rfl trivial rfl rfl rfl (fun b2 => ?_)
  refine WO.cls (C' := St w0 m m [[⟨b2, 29, [.int .i64 p0_0, .int .i64 p0_1, .int .i64 p0_2, .slice a_p0_3 p0_3.length c_p0_3]⟩]]) (fun _ h => h) ?_
  refine WO_pure tbok 1 [(1, .int .i64 p1), (2, .int .i64 p2), (3, .pointer (some ⟨b2, 0, none⟩)), (6, .int .i64 0)] rfl ⟨rfl, rfl, rfl, rfl, trivial⟩ ?_
  refine WO_end ?_
  refine WK_seq ?_
  refine WK_region ?_
  refine WO_pure tbok 1 [(1, .int .i64 p1), (2, .int .i64 p2), (3, .pointer (some ⟨b2, 0, none⟩)), (6, .int .i64 0), (7, .pointer (some ⟨b2, 3, none⟩))] rfl ⟨rfl, rfl, rfl, rfl, rfl, trivial⟩ ?_
  refine WO_loadB tbok 0 rfl rfl rfl rfl (fun _ h => h) rfl rfl ?_
  refine WO_pure tbok 2 [(1, .int .i64 p1), (6, .int .i64 0), (8, .slice a_p0_3 p0_3.length c_p0_3), (9, .int .i64 p2), (10, .pointer (some ⟨b2, 0, none⟩))] rfl ⟨rfl, rfl, rfl, rfl, rfl, trivial⟩ ?_
  refine WO_loadB tbok 0 rfl rfl rfl rfl (fun _ h => h) rfl rfl ?_
  refine WO_pure tbok 3 [(6, .int .i64 0), (8, .slice a_p0_3 p0_3.length c_p0_3), (14, .int .i64 (w64 ((w64 (p2 * p0_0)) + p1)))] rfl ⟨rfl, rfl, rfl, trivial⟩ ?_
  obtain ⟨v_1, hy3, hm⟩ := bind_some hm
  obtain ⟨hc4, hy3⟩ := ix_some hy3
  refine WO_index tbok rfl rfl rfl rfl rfl rfl rfl rfl (SlR.addr h_p0_3) hc4 ?_
  refine WO_loadE tbok rfl rfl rfl rfl (fun _ h => St.sat h) h_p0_3 hy3 rfl ?_
  refine WO_pure tbok 1 [(6, .int .i64 v_1)] rfl ⟨rfl, trivial⟩ ?_
  refine WO_end ?_
  cases hm
  exact WK_ret (ret_out (L := []) (RLc_tmp rfl RLc_nil) (List.nil_sublist _) rfl)
def raster_Integral_Q (r : List (List Int) × Int) : Value → Mu → List Ent → Prop := fun v m _ => ∃ (a0 : Option Addr) (q0 c0 : Nat), v = .tuple #[.slice a0 q0 c0, .int .i64 r.2] ∧ SlR (RowE (FE (I1 .i64)) 1) 1 m (.slice a0 q0 c0) r.1
theorem raster_Integral_walk {m : Mu} {p0_0 : Int} {p0_1 : Int} {p0_2 : Int} {p0_3 : List Int} {a_p0_3 : Option Addr} {q_p0_3 c_p0_3 : Nat} (h_p0_3 : SlR (FE (I1 .i64)) 1 m (.slice a_p0_3 q_p0_3 c_p0_3) p0_3) {r : List (List Int) × Int} (hm : raster_Integral p0_0 p0_1 p0_2 p0_3 = some r) :
    Go.E.Spec Try.prog 53 [.agg #[.int .i64 p0_0, .int .i64 p0_1, .int .i64 p0_2, .slice a_p0_3 q_p0_3 c_p0_3]] m (raster_Integral_Q r) := by
  refine Spec_enter Try.func53 rfl rfl rfl (fun w0 => ?_)
  refine WK.sub (e' := [(0, .agg #[.int .i64 p0_0, .int .i64 p0_1, .int .i64 p0_2, .slice a_p0_3 q_p0_3 c_p0_3])]) ⟨rfl, trivial⟩ ?_
  obtain rfl := SlR.qlen h_p0_3
  refine WK.sub (e' := [(0, .agg #[.int .i64 p0_0, .int .i64 p0_1, .int .i64 p0_2, .slice a_p0_3 p0_3.length c_p0_3])]) ⟨rfl, trivial⟩ ?_
  unfold raster_Integral at hm
  refine WK_seq ?_
  refine WK_region ?_
  refine WO_box [.int .i64 p0_0, .int .i64 p0_1, .int .i64 p0_2, .slice a_p0_3 p0_3.length c_p0_3] rfl rfl trivial rfl rfl rfl (fun b2 => ?_)
  refine WO.cls (C' := St w0 m m [[⟨b2, 29, [.int .i64 p0_0, .int .i64 p0_1, .int .i64 p0_2, .slice a_p0_3 p0_3.length c_p0_3]⟩]]) (fun _ h => h) ?_
  refine WO_pure tbok 2 [(1, .pointer (some ⟨b2, 0, none⟩)), (2, .slice none 0 0), (3, .int .i64 0)] rfl ⟨rfl, rfl, rfl, trivial⟩ ?_
  refine WO_end ?_
  refine WK_seq ?_
  refine WK_seq ?_
  refine WK_region ?_
  refine WO_loadB tbok 0 rfl rfl rfl rfl (fun _ h => h) rfl rfl ?_
  obtain ⟨y_1, hc3, hm⟩ := bind_some hm
  refine WO_call0 (.int .i64 y_1) rfl rfl trivial rfl rfl rfl rfl St_closed ⟨58, #[], #[], rfl, callable_58, fun w hw => ⟨_, hw.sat, raster_Check_walk h_p0_3 hc3⟩⟩ ?_
  refine WO_pure tbok 1 [(1, .pointer (some ⟨b2, 0, none⟩)), (2, .slice none 0 0), (3, .int .i64 0), (4, .int .i64 y_1)] rfl ⟨rfl, rfl, rfl, rfl, trivial⟩ ?_
  refine WO_end ?_
  refine WK_seq ?_
  refine WK_region ?_
  refine WO_pure tbok 2 [(1, .pointer (some ⟨b2, 0, none⟩)), (2, .slice none 0 0), (3, .int .i64 0), (4, .int .i64 y_1), (11, .bool (y_1 != 0))] rfl ⟨rfl, rfl, rfl, rfl, rfl, trivial⟩ ?_
  refine WO_end ?_
  refine WK_cond (b := y_1 != 0) rfl (fun hb4 => ?_) (fun hb4 => ?_)
  · have hm := ifT hb4 hm
    refine WK_seq ?_
    refine WK_region ?_
    refine WO_pure tbok 3 [(1, .pointer (some ⟨b2, 0, none⟩)), (2, .slice none 0 0), (3, .int .i64 y_1)] rfl ⟨rfl, rfl, rfl, trivial⟩ ?_
    refine WO_end ?_
    cases hm
    exact WK_ret (ret_out (L := []) (RLc_tmp rfl (RLc_tmp rfl RLc_nil)) (List.nil_sublist _) ⟨none, 0, 0, rfl, SlR_nil⟩)
  · have hm := ifF hb4 hm
    refine WK_skip ?_
    refine WK_seq ?_
    refine WK_region ?_
    refine WO_pure tbok 1 [(1, .pointer (some ⟨b2, 0, none⟩)), (2, .slice none 0 0), (3, .int .i64 0), (13, .pointer (some ⟨b2, 1, none⟩))] rfl ⟨rfl, rfl, rfl, rfl, trivial⟩ ?_
    refine WO_loadB tbok 0 rfl rfl rfl rfl (fun _ h => h) rfl rfl ?_
    refine WO_pure tbok 1 [(1, .pointer (some ⟨b2, 0, none⟩)), (2, .slice none 0 0), (3, .int .i64 0), (15, .int .i64 (w64 (p0_1 + 1)))] rfl ⟨rfl, rfl, rfl, rfl, trivial⟩ ?_
    obtain ⟨hc5, hm⟩ := chk_some hm
    refine WO_makeT (E := (I1 .i64)) (k := 1) (T0 := 27) (T1 := 3) tbok rfl rfl trivial rfl rfl rfl rfl rfl rfl rfl rfl rfl rfl (mk_ok (by decide) hc5) (fun b6 c7 L8 hL8 => ?_)
    refine WO.cls (C' := St w0 m m [[⟨b2, 29, [.int .i64 p0_0, .int .i64 p0_1, .int .i64 p0_2, .slice a_p0_3 p0_3.length c_p0_3]⟩], L8]) (fun _ h => h) ?_
    refine WO_pure tbok 1 [(1, .pointer (some ⟨b2, 0, none⟩)), (2, .slice none 0 0), (3, .int .i64 0), (5, .slice (some ⟨b6, 0, none⟩) ((List.replicate (w64 (p0_1 + 1) : Int).toNat ([] : List Int)).length) c7)] rfl ⟨rfl, rfl, rfl, rfl, trivial⟩ ?_
    refine WO_end ?_
    refine WK_seq ?_
    refine WK_seq ?_
    refine WK_region ?_
    refine WO_pure tbok 3 [(1, .pointer (some ⟨b2, 0, none⟩)), (2, .slice none 0 0), (3, .int .i64 0), (5, .slice (some ⟨b6, 0, none⟩) ((List.replicate (w64 (p0_1 + 1) : Int).toNat ([] : List Int)).length) c7), (18, .int .i64 ((List.replicate (w64 (p0_1 + 1) : Int).toNat ([] : List Int)).length : Int)), (19, .int .i64 0)] rfl ⟨rfl, rfl, rfl, rfl, rfl, rfl, trivial⟩ ?_
    refine WO_end ?_
    obtain ⟨x16, hx17, hm⟩ := bind_some hm
    refine WK_join (β := (List (List Int)) × (List Value × List Ent)) (fun p => p.1 = x16 ∧ OwnT 27 3 1 (I1 .i64) (.slice (some ⟨b6, 0, none⟩) ((List.replicate (w64 (p0_1 + 1) : Int).toNat ([] : List Int)).length) c7) p.2.1 p.1 p.2.2) (fun p => [(2, .slice none 0 0), (3, .int .i64 0), (5, .slice (some ⟨b6, 0, none⟩) ((List.replicate (w64 (p0_1 + 1) : Int).toNat ([] : List Int)).length) c7)]) (fun p => St w0 m m [[⟨b2, 29, [.int .i64 p0_0, .int .i64 p0_1, .int .i64 p0_2, .slice a_p0_3 p0_3.length c_p0_3]⟩], p.2.2]) ?_ (fun hk18 => ?_)
    · rintro ⟨l_4, ⟨vs15, L14⟩⟩ ⟨hq24, hL14⟩
      subst hq24
      refine WK.sub (e' := [(2, .slice none 0 0), (3, .int .i64 0), (5, .slice (some ⟨b6, 0, none⟩) ((List.replicate (w64 (p0_1 + 1) : Int).toNat ([] : List Int)).length) c7)]) ⟨rfl, rfl, rfl, trivial⟩ (WK.cls (C' := St w0 m m [[⟨b2, 29, [.int .i64 p0_0, .int .i64 p0_1, .int .i64 p0_2, .slice a_p0_3 p0_3.length c_p0_3]⟩], L14]) (fun _ h => h) ?_)
      refine WK_seq ?_
      refine WK_region ?_
      refine WO_pure tbok 3 [(2, .slice (some ⟨b6, 0, none⟩) ((List.replicate (w64 (p0_1 + 1) : Int).toNat ([] : List Int)).length) c7), (3, .int .i64 0)] rfl ⟨rfl, rfl, trivial⟩ ?_
      refine WO_end ?_
      cases hm
      refine WK_freeze 1 rfl (fun m25 hle26 hmm27 => ?_)
      refine WK.cls (C' := St w0 m m25 [[⟨b2, 29, [.int .i64 p0_0, .int .i64 p0_1, .int .i64 p0_2, .slice a_p0_3 p0_3.length c_p0_3]⟩], []]) (fun _ h => h) ?_
      exact WK_ret (ret_out (L := []) (RLc_tmp rfl (RLc_tmp rfl RLc_nil)) (List.nil_sublist _) ⟨(some ⟨b6, 0, none⟩), ((List.replicate (w64 (p0_1 + 1) : Int).toNat ([] : List Int)).length), c7, rfl, (OwnT.rd (E := (I1 .i64)) (k := 1) (fun _ => rfl) hL14 hmm27)⟩)
    · refine WK_block ?_
      refine WK_loop (S := List (List Int) × Int) (G := List Value × List Ent) (fun s => raster_Integral_s1 p0_0 p0_1 p0_2 p0_3 s.1 s.2) (fun s g => [(1, .pointer (some ⟨b2, 0, none⟩)), (2, .slice none 0 0), (3, .int .i64 0), (5, .slice (some ⟨b6, 0, none⟩) ((List.replicate (w64 (p0_1 + 1) : Int).toNat ([] : List Int)).length) c7), (18, .int .i64 ((List.replicate (w64 (p0_1 + 1) : Int).toNat ([] : List Int)).length : Int)), (19, .int .i64 s.2)]) (fun s g => St w0 m m [[⟨b2, 29, [.int .i64 p0_0, .int .i64 p0_1, .int .i64 p0_2, .slice a_p0_3 p0_3.length c_p0_3]⟩], g.2]) (fun s g => OwnT 27 3 1 (I1 .i64) (.slice (some ⟨b6, 0, none⟩) ((List.replicate (w64 (p0_1 + 1) : Int).toNat ([] : List Int)).length) c7) g.1 s.1 g.2) FUEL ((List.replicate (w64 (p0_1 + 1) : Int).toNat ([] : List Int)), 0) ((List.replicate (w64 (p0_1 + 1) : Int).toNat (Value.slice none 0 0)), L8) x16 hx17 hL8 ⟨rfl, rfl, rfl, rfl, rfl, rfl, trivial⟩ (fun _ h => h) ?_
      rintro ⟨l_2, s_3⟩ ⟨vs12, L11⟩ o20 fl21 hm19 hL11 hn22 hd23
      have hm19 : raster_Integral_s1 p0_0 p0_1 p0_2 p0_3 l_2 s_3 = some o20 := hm19
      unfold raster_Integral_s1 at hm19
      refine WK.sub (e' := [(1, .pointer (some ⟨b2, 0, none⟩)), (2, .slice none 0 0), (3, .int .i64 0), (5, .slice (some ⟨b6, 0, none⟩) ((List.replicate (w64 (p0_1 + 1) : Int).toNat ([] : List Int)).length) c7), (18, .int .i64 ((List.replicate (w64 (p0_1 + 1) : Int).toNat ([] : List Int)).length : Int)), (19, .int .i64 s_3)]) ⟨rfl, rfl, rfl, rfl, rfl, rfl, trivial⟩ (WK.cls (C' := St w0 m m [[⟨b2, 29, [.int .i64 p0_0, .int .i64 p0_1, .int .i64 p0_2, .slice a_p0_3 p0_3.length c_p0_3]⟩], L11]) (fun _ h => h) ?_)
      refine WK_seq ?_
      refine WK_region ?_
      refine WO_pure tbok 1 [(1, .pointer (some ⟨b2, 0, none⟩)), (2, .slice none 0 0), (3, .int .i64 0), (5, .slice (some ⟨b6, 0, none⟩) ((List.replicate (w64 (p0_1 + 1) : Int).toNat ([] : List Int)).length) c7), (18, .int .i64 ((List.replicate (w64 (p0_1 + 1) : Int).toNat ([] : List Int)).length : Int)), (19, .int .i64 s_3), (20, .bool (decide (s_3 < ((List.replicate (w64 (p0_1 + 1) : Int).toNat ([] : List Int)).length : Int))))] rfl ⟨rfl, rfl, rfl, rfl, rfl, rfl, rfl, trivial⟩ ?_
      refine WO_end ?_
      refine WK_seq ?_
      refine WK_cond (b := decide (s_3 < ((List.replicate (w64 (p0_1 + 1) : Int).toNat ([] : List Int)).length : Int))) rfl (fun hb28 => ?_) (fun hb28 => ?_)
      · have hm19 := ifT hb28 hm19
        refine WK_skip ?_
        refine WK_seq ?_
        refine WK_block ?_
        refine WK_seq ?_
        refine WK_region ?_
        refine WO_pure tbok 2 [(1, .pointer (some ⟨b2, 0, none⟩)), (2, .slice none 0 0), (3, .int .i64 0), (5, .slice (some ⟨b6, 0, none⟩) ((List.replicate (w64 (p0_1 + 1) : Int).toNat ([] : List Int)).length) c7), (6, .int .i64 s_3), (18, .int .i64 ((List.replicate (w64 (p0_1 + 1) : Int).toNat ([] : List Int)).length : Int)), (19, .int .i64 s_3)] rfl ⟨rfl, rfl, rfl, rfl, rfl, rfl, rfl, trivial⟩ ?_
        refine WO_end ?_
        refine WK_seq ?_
        refine WK_region ?_
        refine WO_pure tbok 3 [(1, .pointer (some ⟨b2, 0, none⟩)), (2, .slice none 0 0), (3, .int .i64 0), (5, .slice (some ⟨b6, 0, none⟩) ((List.replicate (w64 (p0_1 + 1) : Int).toNat ([] : List Int)).length) c7), (6, .int .i64 s_3), (18, .int .i64 ((List.replicate (w64 (p0_1 + 1) : Int).toNat ([] : List Int)).length : Int)), (19, .int .i64 s_3), (22, .slice (some ⟨b6, 0, none⟩) ((List.replicate (w64 (p0_1 + 1) : Int).toNat ([] : List Int)).length) c7), (23, .int .i64 s_3), (24, .pointer (some ⟨b2, 0, none⟩))] rfl ⟨rfl, rfl, rfl, rfl, rfl, rfl, rfl, rfl, rfl, rfl, trivial⟩ ?_
        refine WO_loadB tbok 0 rfl rfl rfl rfl (fun _ h => h) rfl rfl ?_
        refine WO_pure tbok 1 [(1, .pointer (some ⟨b2, 0, none⟩)), (2, .slice none 0 0), (3, .int .i64 0), (5, .slice (some ⟨b6, 0, none⟩) ((List.replicate (w64 (p0_1 + 1) : Int).toNat ([] : List Int)).length) c7), (6, .int .i64 s_3), (18, .int .i64 ((List.replicate (w64 (p0_1 + 1) : Int).toNat ([] : List Int)).length : Int)), (19, .int .i64 s_3), (22, .slice (some ⟨b6, 0, none⟩) ((List.replicate (w64 (p0_1 + 1) : Int).toNat ([] : List Int)).length) c7), (23, .int .i64 s_3), (26, .int .i64 (w64 (p0_0 + 1)))] rfl ⟨rfl, rfl, rfl, rfl, rfl, rfl, rfl, rfl, rfl, rfl, trivial⟩ ?_
        obtain ⟨hc29, hm19⟩ := chk_some hm19
        refine WO_make (E := (I1 .i64)) tbok (fun _ => rfl) (by decide) (0 : Int) rfl rfl trivial rfl rfl rfl rfl rfl rfl rfl rfl rfl (mk_ok (by decide) hc29) (fun b30 c31 L32 hL32 => ?_)
        refine WO.cls (C' := St w0 m m [[⟨b2, 29, [.int .i64 p0_0, .int .i64 p0_1, .int .i64 p0_2, .slice a_p0_3 p0_3.length c_p0_3]⟩], L11, L32]) (fun _ h => h) ?_
        obtain ⟨hc34, hm19⟩ := chk_some hm19
        refine WO_index tbok rfl rfl rfl rfl rfl rfl rfl rfl (OwnT.addr hL11) (by simpa using hc34) ?_
        refine WO_storeTR tbok 1 2 rfl rfl rfl rfl rfl hL11 rfl hL32 rfl rfl (by simpa using idx_lt hc34) rfl rfl rfl rfl (fun L35 hL35 => ?_)
        refine WO.cls (C' := St w0 m m [[⟨b2, 29, [.int .i64 p0_0, .int .i64 p0_1, .int .i64 p0_2, .slice a_p0_3 p0_3.length c_p0_3]⟩], L35, []]) (fun _ h => h) ?_
        refine WO_end ?_
        refine WK_seq ?_
        refine WK_region ?_
        refine WO_pure tbok 1 [(1, .pointer (some ⟨b2, 0, none⟩)), (2, .slice none 0 0), (3, .int .i64 0), (5, .slice (some ⟨b6, 0, none⟩) ((List.replicate (w64 (p0_1 + 1) : Int).toNat ([] : List Int)).length) c7), (6, .int .i64 s_3), (7, .int .i64 1), (18, .int .i64 ((List.replicate (w64 (p0_1 + 1) : Int).toNat ([] : List Int)).length : Int)), (19, .int .i64 s_3)] rfl ⟨rfl, rfl, rfl, rfl, rfl, rfl, rfl, rfl, trivial⟩ ?_
        refine WO_end ?_
        obtain ⟨x43, hx44, hm19⟩ := bind_some hm19
        refine WK_join (β := (List (List Int)) × (List Value × List Ent)) (fun p => p.1 = x43 ∧ OwnT 27 3 1 (I1 .i64) (.slice (some ⟨b6, 0, none⟩) ((List.replicate (w64 (p0_1 + 1) : Int).toNat ([] : List Int)).length) c7) p.2.1 p.1 p.2.2) (fun p => [(1, .pointer (some ⟨b2, 0, none⟩)), (2, .slice none 0 0), (3, .int .i64 0), (5, .slice (some ⟨b6, 0, none⟩) ((List.replicate (w64 (p0_1 + 1) : Int).toNat ([] : List Int)).length) c7), (18, .int .i64 ((List.replicate (w64 (p0_1 + 1) : Int).toNat ([] : List Int)).length : Int)), (19, .int .i64 s_3)]) (fun p => St w0 m m [[⟨b2, 29, [.int .i64 p0_0, .int .i64 p0_1, .int .i64 p0_2, .slice a_p0_3 p0_3.length c_p0_3]⟩], p.2.2, []]) ?_ (fun hk45 => ?_)
        · rintro ⟨l_7, ⟨vs42, L41⟩⟩ ⟨hq51, hL41⟩
          subst hq51
          refine WK.sub (e' := [(1, .pointer (some ⟨b2, 0, none⟩)), (2, .slice none 0 0), (3, .int .i64 0), (5, .slice (some ⟨b6, 0, none⟩) ((List.replicate (w64 (p0_1 + 1) : Int).toNat ([] : List Int)).length) c7), (18, .int .i64 ((List.replicate (w64 (p0_1 + 1) : Int).toNat ([] : List Int)).length : Int)), (19, .int .i64 s_3)]) ⟨rfl, rfl, rfl, rfl, rfl, rfl, trivial⟩ (WK.cls (C' := St w0 m m [[⟨b2, 29, [.int .i64 p0_0, .int .i64 p0_1, .int .i64 p0_2, .slice a_p0_3 p0_3.length c_p0_3]⟩], L41, []]) (fun _ h => h) ?_)
          refine WK_blk ?_
          refine WK_region ?_
          refine WO_pure tbok 2 [(1, .pointer (some ⟨b2, 0, none⟩)), (2, .slice none 0 0), (3, .int .i64 0), (5, .slice (some ⟨b6, 0, none⟩) ((List.replicate (w64 (p0_1 + 1) : Int).toNat ([] : List Int)).length) c7), (18, .int .i64 ((List.replicate (w64 (p0_1 + 1) : Int).toNat ([] : List Int)).length : Int)), (19, .int .i64 (w64 (s_3 + 1)))] rfl ⟨rfl, rfl, rfl, rfl, rfl, rfl, trivial⟩ ?_
          refine WO_end ?_
          cases hm19
          refine WK.sub ?_ (WK.cls (fun _ h => St.take 2 h) (hn22 _ (vs42, L41) rfl hL41))
          exact ⟨rfl, rfl, rfl, rfl, rfl, rfl, trivial⟩
        · refine WK_block ?_
          refine WK_loop (S := List (List Int) × Int) (G := List Value × List Ent) (fun s => raster_Integral_s2 p0_0 p0_1 p0_2 p0_3 s_3 s.1 s.2) (fun s g => [(1, .pointer (some ⟨b2, 0, none⟩)), (2, .slice none 0 0), (3, .int .i64 0), (5, .slice (some ⟨b6, 0, none⟩) ((List.replicate (w64 (p0_1 + 1) : Int).toNat ([] : List Int)).length) c7), (6, .int .i64 s_3), (7, .int .i64 s.2), (18, .int .i64 ((List.replicate (w64 (p0_1 + 1) : Int).toNat ([] : List Int)).length : Int)), (19, .int .i64 s_3)]) (fun s g => St w0 m m [[⟨b2, 29, [.int .i64 p0_0, .int .i64 p0_1, .int .i64 p0_2, .slice a_p0_3 p0_3.length c_p0_3]⟩], g.2, []]) (fun s g => OwnT 27 3 1 (I1 .i64) (.slice (some ⟨b6, 0, none⟩) ((List.replicate (w64 (p0_1 + 1) : Int).toNat ([] : List Int)).length) c7) g.1 s.1 g.2) FUEL ((l_2.set s_3.toNat (List.replicate (w64 (p0_0 + 1)).toNat (0 : Int))), 1) ((vs12.set s_3.toNat (.slice (some ⟨b30, 0, none⟩) ((List.replicate (w64 (p0_0 + 1)).toNat (0 : Int)).length) c31)), L35) x43 hx44 hL35 ⟨rfl, rfl, rfl, rfl, rfl, rfl, rfl, rfl, trivial⟩ (fun _ h => h) ?_
          rintro ⟨l_5, s_6⟩ ⟨vs39, L38⟩ o47 fl48 hm46 hL38 hn49 hd50
          have hm46 : raster_Integral_s2 p0_0 p0_1 p0_2 p0_3 s_3 l_5 s_6 = some o47 := hm46
          unfold raster_Integral_s2 at hm46
          refine WK.sub (e' := [(1, .pointer (some ⟨b2, 0, none⟩)), (2, .slice none 0 0), (3, .int .i64 0), (5, .slice (some ⟨b6, 0, none⟩) ((List.replicate (w64 (p0_1 + 1) : Int).toNat ([] : List Int)).length) c7), (6, .int .i64 s_3), (7, .int .i64 s_6), (18, .int .i64 ((List.replicate (w64 (p0_1 + 1) : Int).toNat ([] : List Int)).length : Int)), (19, .int .i64 s_3)]) ⟨rfl, rfl, rfl, rfl, rfl, rfl, rfl, rfl, trivial⟩ (WK.cls (C' := St w0 m m [[⟨b2, 29, [.int .i64 p0_0, .int .i64 p0_1, .int .i64 p0_2, .slice a_p0_3 p0_3.length c_p0_3]⟩], L38, []]) (fun _ h => h) ?_)
          refine WK_seq ?_
          refine WK_seq ?_
          obtain ⟨s_8, hx52, hm46⟩ := bind_some hm46
          refine WK_meet [(1, .pointer (some ⟨b2, 0, none⟩)), (2, .slice none 0 0), (3, .int .i64 0), (5, .slice (some ⟨b6, 0, none⟩) ((List.replicate (w64 (p0_1 + 1) : Int).toNat ([] : List Int)).length) c7), (6, .int .i64 s_3), (7, .int .i64 s_6), (18, .int .i64 ((List.replicate (w64 (p0_1 + 1) : Int).toNat ([] : List Int)).length : Int)), (19, .int .i64 s_3), (36, .bool s_8)] (St w0 m m [[⟨b2, 29, [.int .i64 p0_0, .int .i64 p0_1, .int .i64 p0_2, .slice a_p0_3 p0_3.length c_p0_3]⟩], L38, []]) ?_ (fun hk53 => ?_)
          · refine WK_cond (b := s_8) rfl (fun hb54 => ?_) (fun hb54 => ?_)
            · have hm46 := ifT hb54 hm46
              refine WK_skip ?_
              refine WK_seq ?_
              refine WK_block ?_
              refine WK_draw 40 [0, 1, 2, 3, 4, 5, 6, 7, 8, 9, 10, 11, 12, 13, 14, 15, 16, 17, 18, 19, 20, 21, 22, 23, 24, 25, 26, 27, 28, 29, 30, 31, 32, 33, 34, 35, 36, 37, 38, 39] follows_ok (by kernel_rfl) St_closed ?_
              refine WO_pure tbok 2 [(1, .pointer (some ⟨b2, 0, none⟩)), (2, .slice none 0 0), (3, .int .i64 0), (5, .slice (some ⟨b6, 0, none⟩) ((List.replicate (w64 (p0_1 + 1) : Int).toNat ([] : List Int)).length) c7), (6, .int .i64 s_3), (7, .int .i64 s_6), (18, .int .i64 ((List.replicate (w64 (p0_1 + 1) : Int).toNat ([] : List Int)).length : Int)), (19, .int .i64 s_3), (39, .slice (some ⟨b6, 0, none⟩) ((List.replicate (w64 (p0_1 + 1) : Int).toNat ([] : List Int)).length) c7), (40, .int .i64 s_3)] rfl ⟨rfl, rfl, rfl, rfl, rfl, rfl, rfl, rfl, rfl, rfl, trivial⟩ ?_
              obtain ⟨v_9, hy55, hm46⟩ := bind_some hm46
              obtain ⟨hc56, hy55⟩ := ix_some hy55
              refine WO_index tbok rfl rfl rfl rfl rfl rfl rfl rfl (OwnT.addr hL38) (by simpa using hc56) ?_
              refine WO_loadT tbok 1 rfl rfl rfl rfl (fun _ h => h) hL38 rfl hy55 rfl rfl (fun a57 c58 L59 hv60 hr61 => ?_)
              refine WO_pure tbok 4 [(1, .pointer (some ⟨b2, 0, none⟩)), (2, .slice none 0 0), (3, .int .i64 0), (5, .slice (some ⟨b6, 0, none⟩) ((List.replicate (w64 (p0_1 + 1) : Int).toNat ([] : List Int)).length) c7), (6, .int .i64 s_3), (7, .int .i64 s_6), (18, .int .i64 ((List.replicate (w64 (p0_1 + 1) : Int).toNat ([] : List Int)).length : Int)), (19, .int .i64 s_3), (42, .slice a57 v_9.length c58), (43, .int .i64 s_6), (44, .slice (some ⟨b6, 0, none⟩) ((List.replicate (w64 (p0_1 + 1) : Int).toNat ([] : List Int)).length) c7), (46, .int .i64 (w64 (s_3 - 1)))] rfl ⟨rfl, rfl, rfl, rfl, rfl, rfl, rfl, rfl, rfl, rfl, rfl, rfl, trivial⟩ ?_
              obtain ⟨v_10, hy63, hm46⟩ := bind_some hm46
              obtain ⟨hc64, hy63⟩ := ix_some hy63
              refine WO_index tbok rfl rfl rfl rfl rfl rfl rfl rfl (OwnT.addr hL38) (by simpa using hc64) ?_
              refine WO_loadT tbok 1 rfl rfl rfl rfl (fun _ h => h) hL38 rfl hy63 rfl rfl (fun a65 c66 L67 hv68 hr69 => ?_)
              refine WO_pure tbok 1 [(1, .pointer (some ⟨b2, 0, none⟩)), (2, .slice none 0 0), (3, .int .i64 0), (5, .slice (some ⟨b6, 0, none⟩) ((List.replicate (w64 (p0_1 + 1) : Int).toNat ([] : List Int)).length) c7), (6, .int .i64 s_3), (7, .int .i64 s_6), (18, .int .i64 ((List.replicate (w64 (p0_1 + 1) : Int).toNat ([] : List Int)).length : Int)), (19, .int .i64 s_3), (42, .slice a57 v_9.length c58), (43, .int .i64 s_6), (48, .slice a65 v_10.length c66), (49, .int .i64 s_6)] rfl ⟨rfl, rfl, rfl, rfl, rfl, rfl, rfl, rfl, rfl, rfl, rfl, rfl, trivial⟩ ?_
              obtain ⟨v_11, hy71, hm46⟩ := bind_some hm46
              obtain ⟨hc72, hy71⟩ := ix_some hy71
              refine WO_index tbok rfl rfl rfl rfl rfl rfl rfl rfl (OwnE.addr hr69) (by simpa using hc72) ?_
              refine WO_loadTE (E := (I1 .i64)) tbok (fun _ => rfl) 1 rfl rfl rfl rfl (fun _ h => h) hL38 rfl hv68 hy63 hy71 rfl ?_
              refine WO_pure tbok 2 [(1, .pointer (some ⟨b2, 0, none⟩)), (2, .slice none 0 0), (3, .int .i64 0), (5, .slice (some ⟨b6, 0, none⟩) ((List.replicate (w64 (p0_1 + 1) : Int).toNat ([] : List Int)).length) c7), (6, .int .i64 s_3), (7, .int .i64 s_6), (18, .int .i64 ((List.replicate (w64 (p0_1 + 1) : Int).toNat ([] : List Int)).length : Int)), (19, .int .i64 s_3), (42, .slice a57 v_9.length c58), (43, .int .i64 s_6), (51, .int .i64 v_11), (52, .slice (some ⟨b6, 0, none⟩) ((List.replicate (w64 (p0_1 + 1) : Int).toNat ([] : List Int)).length) c7), (53, .int .i64 s_3)] rfl ⟨rfl, rfl, rfl, rfl, rfl, rfl, rfl, rfl, rfl, rfl, rfl, rfl, rfl, trivial⟩ ?_
              obtain ⟨v_12, hy73, hm46⟩ := bind_some hm46
              obtain ⟨hc74, hy73⟩ := ix_some hy73
              refine WO_index tbok rfl rfl rfl rfl rfl rfl rfl rfl (OwnT.addr hL38) (by simpa using hc74) ?_
              refine WO_loadT tbok 1 rfl rfl rfl rfl (fun _ h => h) hL38 rfl hy73 rfl rfl (fun a75 c76 L77 hv78 hr79 => ?_)
              refine WO_pure tbok 2 [(1, .pointer (some ⟨b2, 0, none⟩)), (2, .slice none 0 0), (3, .int .i64 0), (5, .slice (some ⟨b6, 0, none⟩) ((List.replicate (w64 (p0_1 + 1) : Int).toNat ([] : List Int)).length) c7), (6, .int .i64 s_3), (7, .int .i64 s_6), (18, .int .i64 ((List.replicate (w64 (p0_1 + 1) : Int).toNat ([] : List Int)).length : Int)), (19, .int .i64 s_3), (42, .slice a57 v_9.length c58), (43, .int .i64 s_6), (51, .int .i64 v_11), (55, .slice a75 v_12.length c76), (57, .int .i64 (w64 (s_6 - 1)))] rfl ⟨rfl, rfl, rfl, rfl, rfl, rfl, rfl, rfl, rfl, rfl, rfl, rfl, rfl, trivial⟩ ?_
              obtain ⟨v_13, hy81, hm46⟩ := bind_some hm46
              obtain ⟨hc82, hy81⟩ := ix_some hy81
              refine WO_index tbok rfl rfl rfl rfl rfl rfl rfl rfl (OwnE.addr hr79) (by simpa using hc82) ?_
              refine WO_loadTE (E := (I1 .i64)) tbok (fun _ => rfl) 1 rfl rfl rfl rfl (fun _ h => h) hL38 rfl hv78 hy73 hy81 rfl ?_
              refine WO_pure tbok 4 [(1, .pointer (some ⟨b2, 0, none⟩)), (2, .slice none 0 0), (3, .int .i64 0), (5, .slice (some ⟨b6, 0, none⟩) ((List.replicate (w64 (p0_1 + 1) : Int).toNat ([] : List Int)).length) c7), (6, .int .i64 s_3), (7, .int .i64 s_6), (18, .int .i64 ((List.replicate (w64 (p0_1 + 1) : Int).toNat ([] : List Int)).length : Int)), (19, .int .i64 s_3), (42, .slice a57 v_9.length c58), (43, .int .i64 s_6), (60, .int .i64 (w64 (v_11 + v_13))), (61, .slice (some ⟨b6, 0, none⟩) ((List.replicate (w64 (p0_1 + 1) : Int).toNat ([] : List Int)).length) c7), (63, .int .i64 (w64 (s_3 - 1)))] rfl ⟨rfl, rfl, rfl, rfl, rfl, rfl, rfl, rfl, rfl, rfl, rfl, rfl, rfl, trivial⟩ ?_
              obtain ⟨v_14, hy83, hm46⟩ := bind_some hm46
              obtain ⟨hc84, hy83⟩ := ix_some hy83
              refine WO_index tbok rfl rfl rfl rfl rfl rfl rfl rfl (OwnT.addr hL38) (by simpa using hc84) ?_
              refine WO_loadT tbok 1 rfl rfl rfl rfl (fun _ h => h) hL38 rfl hy83 rfl rfl (fun a85 c86 L87 hv88 hr89 => ?_)
              refine WO_pure tbok 2 [(1, .pointer (some ⟨b2, 0, none⟩)), (2, .slice none 0 0), (3, .int .i64 0), (5, .slice (some ⟨b6, 0, none⟩) ((List.replicate (w64 (p0_1 + 1) : Int).toNat ([] : List Int)).length) c7), (6, .int .i64 s_3), (7, .int .i64 s_6), (18, .int .i64 ((List.replicate (w64 (p0_1 + 1) : Int).toNat ([] : List Int)).length : Int)), (19, .int .i64 s_3), (42, .slice a57 v_9.length c58), (43, .int .i64 s_6), (60, .int .i64 (w64 (v_11 + v_13))), (65, .slice a85 v_14.length c86), (67, .int .i64 (w64 (s_6 - 1)))] rfl ⟨rfl, rfl, rfl, rfl, rfl, rfl, rfl, rfl, rfl, rfl, rfl, rfl, rfl, trivial⟩ ?_
              obtain ⟨v_15, hy91, hm46⟩ := bind_some hm46
              obtain ⟨hc92, hy91⟩ := ix_some hy91
              refine WO_index tbok rfl rfl rfl rfl rfl rfl rfl rfl (OwnE.addr hr89) (by simpa using hc92) ?_
              refine WO_loadTE (E := (I1 .i64)) tbok (fun _ => rfl) 1 rfl rfl rfl rfl (fun _ h => h) hL38 rfl hv88 hy83 hy91 rfl ?_
              refine WO_pure tbok 1 [(1, .pointer (some ⟨b2, 0, none⟩)), (2, .slice none 0 0), (3, .int .i64 0), (5, .slice (some ⟨b6, 0, none⟩) ((List.replicate (w64 (p0_1 + 1) : Int).toNat ([] : List Int)).length) c7), (6, .int .i64 s_3), (7, .int .i64 s_6), (18, .int .i64 ((List.replicate (w64 (p0_1 + 1) : Int).toNat ([] : List Int)).length : Int)), (19, .int .i64 s_3), (42, .slice a57 v_9.length c58), (43, .int .i64 s_6), (70, .int .i64 (w64 ((w64 (v_11 + v_13)) - v_15)))] rfl ⟨rfl, rfl, rfl, rfl, rfl, rfl, rfl, rfl, rfl, rfl, rfl, trivial⟩ ?_
              refine WO_loadB tbok 0 rfl rfl rfl rfl (fun _ h => h) rfl rfl ?_
              refine WO_pure tbok 4 [(1, .pointer (some ⟨b2, 0, none⟩)), (2, .slice none 0 0), (3, .int .i64 0), (5, .slice (some ⟨b6, 0, none⟩) ((List.replicate (w64 (p0_1 + 1) : Int).toNat ([] : List Int)).length) c7), (6, .int .i64 s_3), (7, .int .i64 s_6), (18, .int .i64 ((List.replicate (w64 (p0_1 + 1) : Int).toNat ([] : List Int)).length : Int)), (19, .int .i64 s_3), (42, .slice a57 v_9.length c58), (43, .int .i64 s_6), (70, .int .i64 (w64 ((w64 (v_11 + v_13)) - v_15))), (71, .agg #[.int .i64 p0_0, .int .i64 p0_1, .int .i64 p0_2, .slice a_p0_3 p0_3.length c_p0_3]), (73, .int .i64 (w64 (s_6 - 1))), (75, .int .i64 (w64 (s_3 - 1)))] rfl ⟨rfl, rfl, rfl, rfl, rfl, rfl, rfl, rfl, rfl, rfl, rfl, rfl, rfl, rfl, trivial⟩ ?_
              obtain ⟨y_16, hc93, hm46⟩ := bind_some hm46
              refine WO_call0 (.int .i64 y_16) rfl rfl St_closed rfl rfl rfl rfl St_closed ⟨59, #[], #[], rfl, callable_59, fun w hw => ⟨_, hw.sat, raster_at_walk h_p0_3 hc93⟩⟩ ?_
              refine WO_pure tbok 1 [(1, .pointer (some ⟨b2, 0, none⟩)), (2, .slice none 0 0), (3, .int .i64 0), (5, .slice (some ⟨b6, 0, none⟩) ((List.replicate (w64 (p0_1 + 1) : Int).toNat ([] : List Int)).length) c7), (6, .int .i64 s_3), (7, .int .i64 s_6), (18, .int .i64 ((List.replicate (w64 (p0_1 + 1) : Int).toNat ([] : List Int)).length : Int)), (19, .int .i64 s_3), (42, .slice a57 v_9.length c58), (43, .int .i64 s_6), (77, .int .i64 (w64 ((w64 ((w64 (v_11 + v_13)) - v_15)) + y_16)))] rfl ⟨rfl, rfl, rfl, rfl, rfl, rfl, rfl, rfl, rfl, rfl, rfl, trivial⟩ ?_
              obtain ⟨hc94, hm46⟩ := chk_some hm46
              refine WO_index tbok rfl rfl rfl rfl rfl rfl rfl rfl (OwnE.addr hr61) (by simpa using hc94) ?_
              refine WO_tail ?_
              refine WO_storeTE (E := (I1 .i64)) tbok (fun _ => rfl) 1 (w64 ((w64 ((w64 (v_11 + v_13)) - v_15)) + y_16)) rfl rfl rfl rfl rfl hL38 rfl hv60 hy55 (by simpa using idx_lt hc94) rfl rfl rfl rfl (fun L95 hL95 => ?_)
              refine WO.cls (C' := St w0 m m [[⟨b2, 29, [.int .i64 p0_0, .int .i64 p0_1, .int .i64 p0_2, .slice a_p0_3 p0_3.length c_p0_3]⟩], L95, []]) (fun _ h => h) ?_
              refine WO_end ?_
              refine WK_blk ?_
              refine WK_region ?_
              refine WO_pure tbok 3 [(1, .pointer (some ⟨b2, 0, none⟩)), (2, .slice none 0 0), (3, .int .i64 0), (5, .slice (some ⟨b6, 0, none⟩) ((List.replicate (w64 (p0_1 + 1) : Int).toNat ([] : List Int)).length) c7), (6, .int .i64 s_3), (7, .int .i64 (w64 (s_6 + 1))), (18, .int .i64 ((List.replicate (w64 (p0_1 + 1) : Int).toNat ([] : List Int)).length : Int)), (19, .int .i64 s_3)] rfl ⟨rfl, rfl, rfl, rfl, rfl, rfl, rfl, rfl, trivial⟩ ?_
              refine WO_end ?_
              cases hm46
              refine WK.sub ?_ (WK.cls (fun _ h => h) (hn49 _ (vs39, L95) rfl hL95))
              exact ⟨rfl, rfl, rfl, rfl, rfl, rfl, rfl, rfl, trivial⟩
            · have hm46 := ifF hb54 hm46
              refine WK_exit rfl ?_
              cases hm46
              refine WK.sub ?_ (WK.cls (fun _ h => h) (hk45 (l_5, (vs39, L38)) ⟨(hd50 _ rfl), hL38⟩))
              exact ⟨rfl, rfl, rfl, rfl, rfl, rfl, trivial⟩
          · refine WK_region ?_
            refine WO_pure tbok 2 [(1, .pointer (some ⟨b2, 0, none⟩)), (2, .slice none 0 0), (3, .int .i64 0), (5, .slice (some ⟨b6, 0, none⟩) ((List.replicate (w64 (p0_1 + 1) : Int).toNat ([] : List Int)).length) c7), (6, .int .i64 s_3), (7, .int .i64 s_6), (18, .int .i64 ((List.replicate (w64 (p0_1 + 1) : Int).toNat ([] : List Int)).length : Int)), (19, .int .i64 s_3), (29, .int .i64 s_6), (30, .pointer (some ⟨b2, 0, none⟩))] rfl ⟨rfl, rfl, rfl, rfl, rfl, rfl, rfl, rfl, rfl, rfl, trivial⟩ ?_
            refine WO_loadB tbok 0 rfl rfl rfl rfl (fun _ h => h) rfl rfl ?_
            refine WO_pure tbok 2 [(1, .pointer (some ⟨b2, 0, none⟩)), (2, .slice none 0 0), (3, .int .i64 0), (5, .slice (some ⟨b6, 0, none⟩) ((List.replicate (w64 (p0_1 + 1) : Int).toNat ([] : List Int)).length) c7), (6, .int .i64 s_3), (7, .int .i64 s_6), (18, .int .i64 ((List.replicate (w64 (p0_1 + 1) : Int).toNat ([] : List Int)).length : Int)), (19, .int .i64 s_3), (33, .bool (decide (s_6 ≤ p0_0)))] rfl ⟨rfl, rfl, rfl, rfl, rfl, rfl, rfl, rfl, rfl, trivial⟩ ?_
            refine WO_split (d := 33) (b := decide (s_6 ≤ p0_0)) rfl (fun hb97 => ?_) (fun hb97 => ?_)
            · have hx52 := ifT hb97 hx52
              refine WO_pure tbok 3 [(1, .pointer (some ⟨b2, 0, none⟩)), (2, .slice none 0 0), (3, .int .i64 0), (5, .slice (some ⟨b6, 0, none⟩) ((List.replicate (w64 (p0_1 + 1) : Int).toNat ([] : List Int)).length) c7), (6, .int .i64 s_3), (7, .int .i64 s_6), (18, .int .i64 ((List.replicate (w64 (p0_1 + 1) : Int).toNat ([] : List Int)).length : Int)), (19, .int .i64 s_3), (36, .bool (decide (0 < s_3)))] rfl ⟨rfl, rfl, rfl, rfl, rfl, rfl, rfl, rfl, rfl, trivial⟩ ?_
              refine WO_end ?_
              cases hx52
              refine WK.sub ?_ (WK.cls (fun _ h => h) hk53)
              exact ⟨rfl, rfl, rfl, rfl, rfl, rfl, rfl, rfl, rfl, trivial⟩
            · have hx52 := ifF hb97 hx52
              refine WO_pure tbok 3 [(1, .pointer (some ⟨b2, 0, none⟩)), (2, .slice none 0 0), (3, .int .i64 0), (5, .slice (some ⟨b6, 0, none⟩) ((List.replicate (w64 (p0_1 + 1) : Int).toNat ([] : List Int)).length) c7), (6, .int .i64 s_3), (7, .int .i64 s_6), (18, .int .i64 ((List.replicate (w64 (p0_1 + 1) : Int).toNat ([] : List Int)).length : Int)), (19, .int .i64 s_3), (36, .bool false)] rfl ⟨rfl, rfl, rfl, rfl, rfl, rfl, rfl, rfl, rfl, trivial⟩ ?_
              refine WO_end ?_
              cases hx52
              refine WK.sub ?_ (WK.cls (fun _ h => h) hk53)
              exact ⟨rfl, rfl, rfl, rfl, rfl, rfl, rfl, rfl, rfl, trivial⟩
      · have hm19 := ifF hb28 hm19
        refine WK_exit rfl ?_
        cases hm19
        refine WK.sub ?_ (WK.cls (fun _ h => h) (hk18 (l_2, (vs12, L11)) ⟨(hd23 _ rfl), hL11⟩))
        exact ⟨rfl, rfl, rfl, trivial⟩
def descriptor_open_Q (r : Int × Int × Int × List Int × List (List Int) × Int) : Value → Mu → List Ent → Prop := fun v m _ => ∃ (a0 : Option Addr) (q0 c0 : Nat) (a1 : Option Addr) (q1 c1 : Nat), v = .tuple #[.agg #[.int .i64 r.1, .int .i64 r.2.1, .int .i64 r.2.2.1, .slice a0 q0 c0, .slice a1 q1 c1], .int .i64 r.2.2.2.2.2] ∧ SlR (FE (I1 .i64)) 1 m (.slice a0 q0 c0) r.2.2.2.1 ∧ SlR (RowE (FE (I1 .i64)) 1) 1 m (.slice a1 q1 c1) r.2.2.2.2.1
theorem descriptor_open_walk {m : Mu} {p0_0 : Int} {p0_1 : Int} {p0_2 : Int} {p0_3 : List Int} {a_p0_3 : Option Addr} {q_p0_3 c_p0_3 : Nat} (h_p0_3 : SlR (FE (I1 .i64)) 1 m (.slice a_p0_3 q_p0_3 c_p0_3) p0_3) {r : Int × Int × Int × List Int × List (List Int) × Int} (hm : descriptor_open p0_0 p0_1 p0_2 p0_3 = some r) :
    Go.E.Spec Try.prog 49 [.agg #[.int .i64 p0_0, .int .i64 p0_1, .int .i64 p0_2, .slice a_p0_3 q_p0_3 c_p0_3]] m (descriptor_open_Q r) := by
  refine Spec_enter Try.func49 rfl rfl rfl (fun w0 => ?_)
  refine WK.sub (e' := [(0, .agg #[.int .i64 p0_0, .int .i64 p0_1, .int .i64 p0_2, .slice a_p0_3 q_p0_3 c_p0_3])]) ⟨rfl, trivial⟩ ?_
  obtain rfl := SlR.qlen h_p0_3
  refine WK.sub (e' := [(0, .agg #[.int .i64 p0_0, .int .i64 p0_1, .int .i64 p0_2, .slice a_p0_3 p0_3.length c_p0_3])]) ⟨rfl, trivial⟩ ?_
  unfold descriptor_open at hm
  refine WK_seq ?_
  refine WK_region ?_
  refine WO_box [.int .i64 p0_0, .int .i64 p0_1, .int .i64 p0_2, .slice a_p0_3 p0_3.length c_p0_3] rfl rfl trivial rfl rfl rfl (fun b2 => ?_)
  refine WO.cls (C' := St w0 m m [[⟨b2, 29, [.int .i64 p0_0, .int .i64 p0_1, .int .i64 p0_2, .slice a_p0_3 p0_3.length c_p0_3]⟩]]) (fun _ h => h) ?_
  refine WO_alloc tbok [.int .i64 0, .int .i64 0, .int .i64 0, .slice none 0 0, .slice none 0 0] rfl rfl trivial rfl rfl rfl rfl (fun b3 => ?_)
  refine WO.cls (C' := St w0 m m [[⟨b2, 29, [.int .i64 p0_0, .int .i64 p0_1, .int .i64 p0_2, .slice a_p0_3 p0_3.length c_p0_3]⟩], [⟨b3, 74, [.int .i64 0, .int .i64 0, .int .i64 0, .slice none 0 0, .slice none 0 0]⟩]]) (fun _ h => h) ?_
  refine WO_pure tbok 1 [(1, .pointer (some ⟨b2, 0, none⟩)), (2, .pointer (some ⟨b3, 0, none⟩)), (3, .int .i64 0)] rfl ⟨rfl, rfl, rfl, trivial⟩ ?_
  refine WO_end ?_
  refine WK_seq ?_
  refine WK_region ?_
  refine WO_loadB tbok 0 rfl rfl rfl rfl (fun _ h => h) rfl rfl ?_
  obtain ⟨⟨y_1, y_2⟩, hc4, hm⟩ := bind_some hm
  refine WO_call2 (raster_Integral_Q (y_1, y_2)) rfl rfl trivial rfl rfl rfl rfl ⟨53, #[], #[], rfl, callable_53, raster_Integral_walk h_p0_3 hc4⟩ (fun v9 m10 L8 hle11 hq => ?_)
  obtain ⟨a5, qa5, c6, rfl, h12⟩ := hq
  obtain rfl := SlR.qlen h12
  refine WO.cls (C' := St w0 m m10 [[⟨b2, 29, [.int .i64 p0_0, .int .i64 p0_1, .int .i64 p0_2, .slice a_p0_3 p0_3.length c_p0_3]⟩], [⟨b3, 74, [.int .i64 0, .int .i64 0, .int .i64 0, .slice none 0 0, .slice none 0 0]⟩], L8]) (fun _ h => h.sub (by simp)) ?_
  refine WO_pure tbok 5 [(1, .pointer (some ⟨b2, 0, none⟩)), (2, .pointer (some ⟨b3, 0, none⟩)), (3, .int .i64 0), (4, .slice a5 ((y_1).length) c6), (5, .int .i64 y_2)] rfl ⟨rfl, rfl, rfl, rfl, rfl, trivial⟩ ?_
  refine WO_end ?_
  refine WK_seq ?_
  refine WK_region ?_
  refine WO_loadB tbok 0 rfl rfl rfl rfl (fun _ h => h) rfl rfl ?_
  refine WO_pure tbok 3 [(2, .pointer (some ⟨b3, 0, none⟩)), (3, .int .i64 0), (13, .agg #[.int .i64 p0_0, .int .i64 p0_1, .int .i64 p0_2, .slice a_p0_3 p0_3.length c_p0_3, .slice a5 ((y_1).length) c6]), (14, .int .i64 y_2)] rfl ⟨rfl, rfl, rfl, rfl, trivial⟩ ?_
  refine WO_storeB tbok 1 [.int .i64 p0_0, .int .i64 p0_1, .int .i64 p0_2, .slice a_p0_3 p0_3.length c_p0_3, .slice a5 ((y_1).length) c6] rfl rfl rfl rfl rfl rfl rfl ?_
  refine WO.cls (C' := St w0 m m10 [[⟨b2, 29, [.int .i64 p0_0, .int .i64 p0_1, .int .i64 p0_2, .slice a_p0_3 p0_3.length c_p0_3]⟩], [⟨b3, 74, [.int .i64 p0_0, .int .i64 p0_1, .int .i64 p0_2, .slice a_p0_3 p0_3.length c_p0_3, .slice a5 ((y_1).length) c6]⟩], L8]) (fun _ h => h) ?_
  refine WO_pure tbok 1 [(2, .pointer (some ⟨b3, 0, none⟩)), (3, .int .i64 y_2)] rfl ⟨rfl, rfl, trivial⟩ ?_
  refine WO_end ?_
  cases hm
  exact WK_ret (ret_out (L := []) (RLc_cell tbok 1 rfl rfl rfl (RLc_tmp rfl RLc_nil)) (List.nil_sublist _) ⟨a_p0_3, p0_3.length, c_p0_3, a5, ((y_1).length), c6, rfl, (h_p0_3.mono (mono_FE _) hle11), h12⟩)
theorem slices_IndexFunc_sdescriptor_Test_walk {m : Mu} {p0 : List (Int × Int × Int × Int × Int × Int × Int × Int)} {p1 : Int → Int → Int → Int → Int → Int → Int → Int → Option Bool} {a_p0 : Option Addr} {q_p0 c_p0 : Nat} {p1v : Value} (h_p0 : SlR (FE T8) 8 m (.slice a_p0 q_p0 c_p0) p0) (hp1 : ∀ (u1 : Int), ∀ (u2 : Int), ∀ (u3 : Int), ∀ (u4 : Int), ∀ (u5 : Int), ∀ (u6 : Int), ∀ (u7 : Int), ∀ (u8 : Int), ∀ (r : Bool), p1 u1 u2 u3 u4 u5 u6 u7 u8 = some r → SpecV Try.prog p1v [.agg #[.int .i64 u1, .int .i64 u2, .int .i64 u3, .int .i64 u4, .int .i64 u5, .int .i64 u6, .int .i64 u7, .int .i64 u8]] m (fun v _ _ => v = .bool r)) {r : Int} (hm : slices_IndexFunc_sdescriptor_Test p0 p1 = some r) :
    Go.E.Spec Try.prog 48 [.slice a_p0 q_p0 c_p0, p1v] m (fun v _ _ => v = .int .i64 r) := by
  refine Spec_enter Try.func48 rfl rfl rfl (fun w0 => ?_)
  refine WK.sub (e' := [(0, .slice a_p0 q_p0 c_p0), (1, p1v)]) ⟨rfl, rfl, trivial⟩ ?_
  obtain rfl := SlR.qlen h_p0
  refine WK.sub (e' := [(0, .slice a_p0 p0.length c_p0), (1, p1v)]) ⟨rfl, rfl, trivial⟩ ?_
  unfold slices_IndexFunc_sdescriptor_Test at hm
  refine WK_seq ?_
  refine WK_region ?_
  refine WO_pure tbok 1 [(0, .slice a_p0 p0.length c_p0), (1, p1v), (4, .int .i64 0)] rfl ⟨rfl, rfl, rfl, trivial⟩ ?_
  refine WO_end ?_
  refine WK_seq ?_
  refine WK_seq ?_
  refine WK_region ?_
  refine WO_pure tbok 3 [(0, .slice a_p0 p0.length c_p0), (1, p1v), (4, .int .i64 0), (7, .int .i64 (p0.length : Int)), (8, .int .i64 0)] rfl ⟨rfl, rfl, rfl, rfl, rfl, trivial⟩ ?_
  refine WO_end ?_
  obtain ⟨x2, hx3, hm⟩ := bind_some hm
  refine WK_join (β := Unit × Unit) (fun p => Sum.inr p.1 = x2) (fun p => [(4, .int .i64 0)]) (fun p => St w0 m m []) ?_ (fun hk4 => ?_)
  · rintro ⟨⟨⟩, ⟨⟩⟩ hq10
    subst hq10
    refine WK.sub (e' := [(4, .int .i64 0)]) ⟨rfl, trivial⟩ (WK.cls (C' := St w0 m m []) (fun _ h => h) ?_)
    refine WK_seq ?_
    refine WK_region ?_
    refine WO_pure tbok 1 [(4, .int .i64 (-1))] rfl ⟨rfl, trivial⟩ ?_
    refine WO_end ?_
    cases hm
    exact WK_ret (ret_out (L := []) (RLc_tmp rfl RLc_nil) (List.nil_sublist _) rfl)
  · refine WK_block ?_
    refine WK_loop (S := Int) (G := Unit) (fun s => slices_IndexFunc_sdescriptor_Test_s1 p0 p1 s) (fun s g => [(0, .slice a_p0 p0.length c_p0), (1, p1v), (4, .int .i64 0), (7, .int .i64 (p0.length : Int)), (8, .int .i64 s)]) (fun s g => St w0 m m []) (fun s g => True) FUEL 0 () x2 hx3 trivial ⟨rfl, rfl, rfl, rfl, rfl, trivial⟩ (fun _ h => h) ?_
    rintro s_1 ⟨⟩ o6 fl7 hm5 - hn8 hd9
    have hm5 : slices_IndexFunc_sdescriptor_Test_s1 p0 p1 s_1 = some o6 := hm5
    unfold slices_IndexFunc_sdescriptor_Test_s1 at hm5
    refine WK.sub (e' := [(0, .slice a_p0 p0.length c_p0), (1, p1v), (4, .int .i64 0), (7, .int .i64 (p0.length : Int)), (8, .int .i64 s_1)]) ⟨rfl, rfl, rfl, rfl, rfl, trivial⟩ (WK.cls (C' := St w0 m m []) (fun _ h => h) ?_)
    refine WK_seq ?_
    refine WK_region ?_
    refine WO_pure tbok 1 [(0, .slice a_p0 p0.length c_p0), (1, p1v), (4, .int .i64 0), (7, .int .i64 (p0.length : Int)), (8, .int .i64 s_1), (9, .bool (decide (s_1 < (p0.length : Int))))] rfl ⟨rfl, rfl, rfl, rfl, rfl, rfl, trivial⟩ ?_
    refine WO_end ?_
    refine WK_seq ?_
    refine WK_cond (b := decide (s_1 < (p0.length : Int))) rfl (fun hb11 => ?_) (fun hb11 => ?_)
    · have hm5 := ifT hb11 hm5
      refine WK_skip ?_
      refine WK_seq ?_
      refine WK_block ?_
      refine WK_seq ?_
      refine WK_region ?_
      refine WO_pure tbok 2 [(0, .slice a_p0 p0.length c_p0), (1, p1v), (4, .int .i64 0), (5, .int .i64 s_1), (7, .int .i64 (p0.length : Int)), (8, .int .i64 s_1)] rfl ⟨rfl, rfl, rfl, rfl, rfl, rfl, trivial⟩ ?_
      refine WO_end ?_
      refine WK_seq ?_
      refine WK_region ?_
      refine WO_pure tbok 3 [(0, .slice a_p0 p0.length c_p0), (1, p1v), (4, .int .i64 0), (5, .int .i64 s_1), (7, .int .i64 (p0.length : Int)), (8, .int .i64 s_1), (11, p1v), (12, .slice a_p0 p0.length c_p0), (13, .int .i64 s_1)] rfl ⟨rfl, rfl, rfl, rfl, rfl, rfl, rfl, rfl, rfl, trivial⟩ ?_
      obtain ⟨v_2, hy12, hm5⟩ := bind_some hm5
      obtain ⟨hc13, hy12⟩ := ix_some hy12
      refine WO_index tbok rfl rfl rfl rfl rfl rfl rfl rfl (SlR.addr h_p0) hc13 ?_
      refine WO_loadE tbok rfl rfl rfl rfl (fun _ h => St.sat h) h_p0 hy12 rfl ?_
      obtain ⟨y_3, hc14, hm5⟩ := bind_some hm5
      obtain ⟨f0, first0, cap0, hf0, hcal0, hsp0⟩ := hp1 v_2.1 v_2.2.1 v_2.2.2.1 v_2.2.2.2.1 v_2.2.2.2.2.1 v_2.2.2.2.2.2.1 v_2.2.2.2.2.2.2.1 v_2.2.2.2.2.2.2.2 _ hc14
      refine WO_call0 (.bool y_3) rfl rfl trivial rfl rfl rfl rfl St_closed ⟨f0, first0, cap0, hf0, hcal0, fun w hw => ⟨m, hw.sat, hsp0⟩⟩ ?_
      refine WO_end ?_
      refine WK_cond (b := y_3) rfl (fun hb15 => ?_) (fun hb15 => ?_)
      · have hm5 := ifT hb15 hm5
        refine WK_seq ?_
        refine WK_region ?_
        refine WO_pure tbok 2 [(0, .slice a_p0 p0.length c_p0), (1, p1v), (4, .int .i64 s_1), (7, .int .i64 (p0.length : Int)), (8, .int .i64 s_1)] rfl ⟨rfl, rfl, rfl, rfl, rfl, trivial⟩ ?_
        refine WO_end ?_
        cases hm5
        have hq := hd9 _ rfl
        subst hq
        have hm : some _ = some _ := hm
        cases hm
        exact WK_ret (ret_out (L := []) (RLc_tmp rfl RLc_nil) (List.nil_sublist _) rfl)
      · have hm5 := ifF hb15 hm5
        refine WK_skip ?_
        refine WK_blk ?_
        refine WK_region ?_
        refine WO_pure tbok 2 [(0, .slice a_p0 p0.length c_p0), (1, p1v), (4, .int .i64 0), (7, .int .i64 (p0.length : Int)), (8, .int .i64 (w64 (s_1 + 1)))] rfl ⟨rfl, rfl, rfl, rfl, rfl, trivial⟩ ?_
        refine WO_end ?_
        cases hm5
        refine WK.sub ?_ (WK.cls (fun _ h => h) (hn8 _ () rfl trivial))
        exact ⟨rfl, rfl, rfl, rfl, rfl, trivial⟩
    · have hm5 := ifF hb11 hm5
      refine WK_exit rfl ?_
      cases hm5
      refine WK.sub ?_ (WK.cls (fun _ h => h) (hk4 ((), ()) (hd9 _ rfl)))
      exact ⟨rfl, trivial⟩
theorem slices_ContainsFunc_sdescriptor_Test_walk {m : Mu} {p0 : List (Int × Int × Int × Int × Int × Int × Int × Int)} {p1 : Int → Int → Int → Int → Int → Int → Int → Int → Option Bool} {a_p0 : Option Addr} {q_p0 c_p0 : Nat} {p1v : Value} (h_p0 : SlR (FE T8) 8 m (.slice a_p0 q_p0 c_p0) p0) (hp1 : ∀ (u1 : Int), ∀ (u2 : Int), ∀ (u3 : Int), ∀ (u4 : Int), ∀ (u5 : Int), ∀ (u6 : Int), ∀ (u7 : Int), ∀ (u8 : Int), ∀ (r : Bool), p1 u1 u2 u3 u4 u5 u6 u7 u8 = some r → SpecV Try.prog p1v [.agg #[.int .i64 u1, .int .i64 u2, .int .i64 u3, .int .i64 u4, .int .i64 u5, .int .i64 u6, .int .i64 u7, .int .i64 u8]] m (fun v _ _ => v = .bool r)) {r : Bool} (hm : slices_ContainsFunc_sdescriptor_Test p0 p1 = some r) :
    Go.E.Spec Try.prog 31 [.slice a_p0 q_p0 c_p0, p1v] m (fun v _ _ => v = .bool r) := by
  refine Spec_enter Try.func31 rfl rfl rfl (fun w0 => ?_)
  refine WK.sub (e' := [(0, .slice a_p0 q_p0 c_p0), (1, p1v)]) ⟨rfl, rfl, trivial⟩ ?_
  obtain rfl := SlR.qlen h_p0
  refine WK.sub (e' := [(0, .slice a_p0 p0.length c_p0), (1, p1v)]) ⟨rfl, rfl, trivial⟩ ?_
  unfold slices_ContainsFunc_sdescriptor_Test at hm
  refine WK_seq ?_
  refine WK_region ?_
  refine WO_pure tbok 1 [(0, .slice a_p0 p0.length c_p0), (1, p1v), (4, .bool false)] rfl ⟨rfl, rfl, rfl, trivial⟩ ?_
  refine WO_end ?_
  refine WK_seq ?_
  refine WK_region ?_
  refine WO_pure tbok 2 [(4, .bool false), (5, .slice a_p0 p0.length c_p0), (6, p1v)] rfl ⟨rfl, rfl, rfl, trivial⟩ ?_
  obtain ⟨y_1, hc2, hm⟩ := bind_some hm
  refine WO_call0 (.int .i64 y_1) rfl rfl trivial rfl rfl rfl rfl St_closed ⟨48, #[], #[], rfl, callable_48, fun w hw => ⟨_, hw.sat, slices_IndexFunc_sdescriptor_Test_walk h_p0 hp1 hc2⟩⟩ ?_
  refine WO_pure tbok 2 [(4, .bool (decide (0 ≤ y_1)))] rfl ⟨rfl, trivial⟩ ?_
  refine WO_end ?_
  cases hm
  exact WK_ret (ret_out (L := []) (RLc_tmp rfl RLc_nil) (List.nil_sublist _) rfl)
theorem descriptor_box_walk {m : Mu} {p0_0 : Int} {p0_1 : Int} {p0_2 : Int} {p0_3 : Int}   {r : Bool} (hm : descriptor_box p0_0 p0_1 p0_2 p0_3 = some r) :
    Go.E.Spec Try.prog 42 [.agg #[.int .i64 p0_0, .int .i64 p0_1, .int .i64 p0_2, .int .i64 p0_3]] m (fun v _ _ => v = .bool r) := by
  refine Spec_enter Try.func42 rfl rfl rfl (fun w0 => ?_)
  refine WK.sub (e' := [(0, .agg #[.int .i64 p0_0, .int .i64 p0_1, .int .i64 p0_2, .int .i64 p0_3])]) ⟨rfl, trivial⟩ ?_
  refine WK.sub (e' := [(0, .agg #[.int .i64 p0_0, .int .i64 p0_1, .int .i64 p0_2, .int .i64 p0_3])]) ⟨rfl, trivial⟩ ?_
  unfold descriptor_box at hm
  refine WK_seq ?_
  refine WK_region ?_
  refine WO_box [.int .i64 p0_0, .int .i64 p0_1, .int .i64 p0_2, .int .i64 p0_3] rfl rfl trivial rfl rfl rfl (fun b1 => ?_)
  refine WO.cls (C' := St w0 m m [[⟨b1, 44, [.int .i64 p0_0, .int .i64 p0_1, .int .i64 p0_2, .int .i64 p0_3]⟩]]) (fun _ h => h) ?_
  refine WO_pure tbok 1 [(1, .pointer (some ⟨b1, 0, none⟩)), (2, .bool false)] rfl ⟨rfl, rfl, trivial⟩ ?_
  refine WO_end ?_
  refine WK_seq ?_
  refine WK_seq ?_
  obtain ⟨s_1, hx2, hm⟩ := bind_some hm
  refine WK_meet [(1, .pointer (some ⟨b1, 0, none⟩)), (2, .bool false), (24, .bool s_1)] (St w0 m m [[⟨b1, 44, [.int .i64 p0_0, .int .i64 p0_1, .int .i64 p0_2, .int .i64 p0_3]⟩]]) ?_ (fun hk3 => ?_)
  · refine WK_cond (b := s_1) rfl (fun hb4 => ?_) (fun hb4 => ?_)
    · have hm := ifT hb4 hm
      refine WK_seq ?_
      refine WK_region ?_
      refine WO_pure tbok 1 [(1, .pointer (some ⟨b1, 0, none⟩)), (2, .bool false)] rfl ⟨rfl, rfl, trivial⟩ ?_
      refine WO_end ?_
      cases hm
      exact WK_ret (ret_out (L := []) (RLc_tmp rfl RLc_nil) (List.nil_sublist _) rfl)
    · have hm := ifF hb4 hm
      refine WK_skip ?_
      refine WK_seq ?_
      refine WK_region ?_
      refine WO_pure tbok 1 [(1, .pointer (some ⟨b1, 0, none⟩)), (2, .bool false), (25, .pointer (some ⟨b1, 0, none⟩))] rfl ⟨rfl, rfl, rfl, trivial⟩ ?_
      refine WO_loadB tbok 0 rfl rfl rfl rfl (fun _ h => h) rfl rfl ?_
      refine WO_pure tbok 1 [(1, .pointer (some ⟨b1, 0, none⟩)), (2, .bool false), (26, .int .i64 p0_0), (27, .pointer (some ⟨b1, 2, none⟩))] rfl ⟨rfl, rfl, rfl, rfl, trivial⟩ ?_
      refine WO_loadB tbok 0 rfl rfl rfl rfl (fun _ h => h) rfl rfl ?_
      refine WO_pure tbok 3 [(1, .pointer (some ⟨b1, 0, none⟩)), (2, .bool false), (31, .bool (decide (p0_0 ≤ (w64 (17 - p0_2)))))] rfl ⟨rfl, rfl, rfl, trivial⟩ ?_
      refine WO_split (d := 31) (b := decide (p0_0 ≤ (w64 (17 - p0_2)))) rfl (fun hb5 => ?_) (fun hb5 => ?_)
      · have hm := ifT hb5 hm
        refine WO_pure tbok 1 [(1, .pointer (some ⟨b1, 0, none⟩)), (2, .bool false), (31, .bool true), (32, .pointer (some ⟨b1, 1, none⟩))] rfl ⟨rfl, rfl, rfl, rfl, trivial⟩ ?_
        refine WO_loadB tbok 0 rfl rfl rfl rfl (fun _ h => h) rfl rfl ?_
        refine WO_pure tbok 1 [(2, .bool false), (31, .bool true), (33, .int .i64 p0_1), (34, .pointer (some ⟨b1, 3, none⟩))] rfl ⟨rfl, rfl, rfl, rfl, trivial⟩ ?_
        refine WO_loadB tbok 0 rfl rfl rfl rfl (fun _ h => h) rfl rfl ?_
        refine WO_pure tbok 4 [(2, .bool (decide (p0_1 ≤ (w64 (17 - p0_3)))))] rfl ⟨rfl, trivial⟩ ?_
        refine WO_end ?_
        cases hm
        exact WK_ret (ret_out (L := []) (RLc_tmp rfl RLc_nil) (List.nil_sublist _) rfl)
      · have hm := ifF hb5 hm
        refine WO_pure tbok 8 [(2, .bool false)] rfl ⟨rfl, trivial⟩ ?_
        refine WO_end ?_
        cases hm
        exact WK_ret (ret_out (L := []) (RLc_tmp rfl RLc_nil) (List.nil_sublist _) rfl)
  · refine WK_region ?_
    refine WO_pure tbok 1 [(1, .pointer (some ⟨b1, 0, none⟩)), (2, .bool false), (3, .pointer (some ⟨b1, 2, none⟩))] rfl ⟨rfl, rfl, rfl, trivial⟩ ?_
    refine WO_loadB tbok 0 rfl rfl rfl rfl (fun _ h => h) rfl rfl ?_
    refine WO_pure tbok 1 [(1, .pointer (some ⟨b1, 0, none⟩)), (2, .bool false), (4, .int .i64 p0_2), (5, .pointer (some ⟨b1, 3, none⟩))] rfl ⟨rfl, rfl, rfl, rfl, trivial⟩ ?_
    refine WO_loadB tbok 0 rfl rfl rfl rfl (fun _ h => h) rfl rfl ?_
    refine WO_pure tbok 3 [(1, .pointer (some ⟨b1, 0, none⟩)), (2, .bool false), (9, .bool (decide ((if p0_3 < p0_2 then p0_3 else p0_2) < 1)))] rfl ⟨rfl, rfl, rfl, trivial⟩ ?_
    refine WO_split (d := 9) (b := decide ((if p0_3 < p0_2 then p0_3 else p0_2) < 1)) rfl (fun hb6 => ?_) (fun hb6 => ?_)
    · have hx2 := ifT hb6 hx2
      refine WO_pure tbok 15 [(1, .pointer (some ⟨b1, 0, none⟩)), (2, .bool false), (24, .bool true)] rfl ⟨rfl, rfl, rfl, trivial⟩ ?_
      refine WO_end ?_
      cases hx2
      refine WK.sub ?_ (WK.cls (fun _ h => h) hk3)
      exact ⟨rfl, rfl, rfl, trivial⟩
    · have hx2 := ifF hb6 hx2
      refine WO_pure tbok 1 [(1, .pointer (some ⟨b1, 0, none⟩)), (2, .bool false), (9, .bool false), (10, .pointer (some ⟨b1, 2, none⟩))] rfl ⟨rfl, rfl, rfl, rfl, trivial⟩ ?_
      refine WO_loadB tbok 0 rfl rfl rfl rfl (fun _ h => h) rfl rfl ?_
      refine WO_pure tbok 1 [(1, .pointer (some ⟨b1, 0, none⟩)), (2, .bool false), (9, .bool false), (11, .int .i64 p0_2), (12, .pointer (some ⟨b1, 3, none⟩))] rfl ⟨rfl, rfl, rfl, rfl, rfl, trivial⟩ ?_
      refine WO_loadB tbok 0 rfl rfl rfl rfl (fun _ h => h) rfl rfl ?_
      refine WO_pure tbok 4 [(1, .pointer (some ⟨b1, 0, none⟩)), (2, .bool false), (17, .bool (decide (8 < (if p0_2 < p0_3 then p0_3 else p0_2))))] rfl ⟨rfl, rfl, rfl, trivial⟩ ?_
      refine WO_split (d := 17) (b := decide (8 < (if p0_2 < p0_3 then p0_3 else p0_2))) rfl (fun hb7 => ?_) (fun hb7 => ?_)
      · have hx2 := ifT hb7 hx2
        refine WO_pure tbok 7 [(1, .pointer (some ⟨b1, 0, none⟩)), (2, .bool false), (24, .bool true)] rfl ⟨rfl, rfl, rfl, trivial⟩ ?_
        refine WO_end ?_
        cases hx2
        refine WK.sub ?_ (WK.cls (fun _ h => h) hk3)
        exact ⟨rfl, rfl, rfl, trivial⟩
      · have hx2 := ifF hb7 hx2
        refine WO_pure tbok 1 [(1, .pointer (some ⟨b1, 0, none⟩)), (2, .bool false), (17, .bool false), (18, .pointer (some ⟨b1, 0, none⟩))] rfl ⟨rfl, rfl, rfl, rfl, trivial⟩ ?_
        refine WO_loadB tbok 0 rfl rfl rfl rfl (fun _ h => h) rfl rfl ?_
        refine WO_pure tbok 1 [(1, .pointer (some ⟨b1, 0, none⟩)), (2, .bool false), (17, .bool false), (19, .int .i64 p0_0), (20, .pointer (some ⟨b1, 1, none⟩))] rfl ⟨rfl, rfl, rfl, rfl, rfl, trivial⟩ ?_
        refine WO_loadB tbok 0 rfl rfl rfl rfl (fun _ h => h) rfl rfl ?_
        refine WO_pure tbok 3 [(1, .pointer (some ⟨b1, 0, none⟩)), (2, .bool false), (24, .bool (decide ((if p0_1 < p0_0 then p0_1 else p0_0) < (-16))))] rfl ⟨rfl, rfl, rfl, trivial⟩ ?_
        refine WO_end ?_
        cases hx2
        refine WK.sub ?_ (WK.cls (fun _ h => h) hk3)
        exact ⟨rfl, rfl, rfl, trivial⟩
theorem descriptor_Check_c1_walk {m : Mu} {p0_0 : Int} {p0_1 : Int} {p0_2 : Int} {p0_3 : Int} {p0_4 : Int} {p0_5 : Int} {p0_6 : Int} {p0_7 : Int}   {r : Bool} (hm : descriptor_Check_c1 p0_0 p0_1 p0_2 p0_3 p0_4 p0_5 p0_6 p0_7 = some r) :
    Go.E.Spec Try.prog 41 [.agg #[.int .i64 p0_0, .int .i64 p0_1, .int .i64 p0_2, .int .i64 p0_3, .int .i64 p0_4, .int .i64 p0_5, .int .i64 p0_6, .int .i64 p0_7]] m (fun v _ _ => v = .bool r) := by
  refine Spec_enter Try.func41 rfl rfl rfl (fun w0 => ?_)
  refine WK.sub (e' := [(0, .agg #[.int .i64 p0_0, .int .i64 p0_1, .int .i64 p0_2, .int .i64 p0_3, .int .i64 p0_4, .int .i64 p0_5, .int .i64 p0_6, .int .i64 p0_7])]) ⟨rfl, trivial⟩ ?_
  refine WK.sub (e' := [(0, .agg #[.int .i64 p0_0, .int .i64 p0_1, .int .i64 p0_2, .int .i64 p0_3, .int .i64 p0_4, .int .i64 p0_5, .int .i64 p0_6, .int .i64 p0_7])]) ⟨rfl, trivial⟩ ?_
  unfold descriptor_Check_c1 at hm
  refine WK_seq ?_
  refine WK_region ?_
  refine WO_box [.int .i64 p0_0, .int .i64 p0_1, .int .i64 p0_2, .int .i64 p0_3, .int .i64 p0_4, .int .i64 p0_5, .int .i64 p0_6, .int .i64 p0_7] rfl rfl trivial rfl rfl rfl (fun b1 => ?_)
  refine WO.cls (C' := St w0 m m [[⟨b1, 46, [.int .i64 p0_0, .int .i64 p0_1, .int .i64 p0_2, .int .i64 p0_3, .int .i64 p0_4, .int .i64 p0_5, .int .i64 p0_6, .int .i64 p0_7]⟩]]) (fun _ h => h) ?_
  refine WO_pure tbok 1 [(1, .pointer (some ⟨b1, 0, none⟩)), (2, .bool false)] rfl ⟨rfl, rfl, trivial⟩ ?_
  refine WO_end ?_
  refine WK_seq ?_
  refine WK_region ?_
  refine WO_pure tbok 1 [(1, .pointer (some ⟨b1, 0, none⟩)), (2, .bool false), (3, .pointer (some ⟨b1, 0, none⟩))] rfl ⟨rfl, rfl, rfl, trivial⟩ ?_
  refine WO_loadB tbok 0 rfl rfl rfl rfl (fun _ h => h) rfl rfl ?_
  obtain ⟨y_1, hc2, hm⟩ := bind_some hm
  refine WO_call0 (.bool y_1) rfl rfl trivial rfl rfl rfl rfl St_closed ⟨42, #[], #[], rfl, callable_42, fun w hw => ⟨_, hw.sat, descriptor_box_walk hc2⟩⟩ ?_
  refine WO_pure tbok 2 [(1, .pointer (some ⟨b1, 0, none⟩)), (2, .bool false), (7, .bool (!y_1))] rfl ⟨rfl, rfl, rfl, trivial⟩ ?_
  refine WO_split (d := 7) (b := !y_1) rfl (fun hb3 => ?_) (fun hb3 => ?_)
  · have hm := ifT hb3 hm
    refine WO_pure tbok 2 [(2, .bool false), (7, .bool true)] rfl ⟨rfl, rfl, trivial⟩ ?_
    refine WO_skip rfl rfl ?_
    refine WO_pure tbok 3 [(2, .bool true)] rfl ⟨rfl, trivial⟩ ?_
    refine WO_end ?_
    cases hm
    exact WK_ret (ret_out (L := []) (RLc_tmp rfl RLc_nil) (List.nil_sublist _) rfl)
  · have hm := ifF hb3 hm
    refine WO_pure tbok 1 [(2, .bool false), (7, .bool false), (8, .pointer (some ⟨b1, 4, none⟩))] rfl ⟨rfl, rfl, rfl, trivial⟩ ?_
    refine WO_loadB tbok 0 rfl rfl rfl rfl (fun _ h => h) rfl rfl ?_
    obtain ⟨y_2, hc4, hm⟩ := bind_some hm
    refine WO_call0 (.bool y_2) rfl rfl trivial rfl rfl rfl rfl St_closed ⟨42, #[], #[], rfl, callable_42, fun w hw => ⟨_, hw.sat, descriptor_box_walk hc4⟩⟩ ?_
    refine WO_pure tbok 3 [(2, .bool (!y_2))] rfl ⟨rfl, trivial⟩ ?_
    refine WO_end ?_
    cases hm
    exact WK_ret (ret_out (L := []) (RLc_tmp rfl RLc_nil) (List.nil_sublist _) rfl)
theorem descriptor_Check_walk {m : Mu} {p0 : List (Int × Int × Int × Int × Int × Int × Int × Int)} {a_p0 : Option Addr} {q_p0 c_p0 : Nat} (h_p0 : SlR (FE T8) 8 m (.slice a_p0 q_p0 c_p0) p0) {r : Int} (hm : descriptor_Check p0 = some r) :
    Go.E.Spec Try.prog 19 [.slice a_p0 q_p0 c_p0] m (fun v _ _ => v = .int .i64 r) := by
  refine Spec_enter Try.func19 rfl rfl rfl (fun w0 => ?_)
  refine WK.sub (e' := [(0, .slice a_p0 q_p0 c_p0)]) ⟨rfl, trivial⟩ ?_
  obtain rfl := SlR.qlen h_p0
  refine WK.sub (e' := [(0, .slice a_p0 p0.length c_p0)]) ⟨rfl, trivial⟩ ?_
  unfold descriptor_Check at hm
  refine WK_seq ?_
  refine WK_region ?_
  refine WO_pure tbok 1 [(0, .slice a_p0 p0.length c_p0), (2, .int .i64 0)] rfl ⟨rfl, rfl, trivial⟩ ?_
  refine WO_end ?_
  refine WK_seq ?_
  refine WK_seq ?_
  obtain ⟨s_1, hx2, hm⟩ := bind_some hm
  refine WK_meet [(2, .int .i64 0), (14, .bool s_1)] (St w0 m m []) ?_ (fun hk3 => ?_)
  · refine WK_cond (b := s_1) rfl (fun hb4 => ?_) (fun hb4 => ?_)
    · have hm := ifT hb4 hm
      refine WK_seq ?_
      refine WK_region ?_
      refine WO_pure tbok 1 [(2, .int .i64 1)] rfl ⟨rfl, trivial⟩ ?_
      refine WO_end ?_
      cases hm
      exact WK_ret (ret_out (L := []) (RLc_tmp rfl RLc_nil) (List.nil_sublist _) rfl)
    · have hm := ifF hb4 hm
      refine WK_skip ?_
      refine WK_seq ?_
      refine WK_region ?_
      refine WO_pure tbok 1 [(2, .int .i64 0)] rfl ⟨rfl, trivial⟩ ?_
      refine WO_end ?_
      cases hm
      exact WK_ret (ret_out (L := []) (RLc_tmp rfl RLc_nil) (List.nil_sublist _) rfl)
  · refine WK_region ?_
    refine WO_pure tbok 4 [(0, .slice a_p0 p0.length c_p0), (2, .int .i64 0), (6, .bool (decide ((p0.length : Int) < 1)))] rfl ⟨rfl, rfl, rfl, trivial⟩ ?_
    refine WO_split (d := 6) (b := decide ((p0.length : Int) < 1)) rfl (fun hb5 => ?_) (fun hb5 => ?_)
    · have hx2 := ifT hb5 hx2
      refine WO_pure tbok 6 [(2, .int .i64 0), (11, .bool true)] rfl ⟨rfl, rfl, trivial⟩ ?_
      refine WO_skip rfl rfl ?_
      refine WO_pure tbok 1 [(2, .int .i64 0), (14, .bool true)] rfl ⟨rfl, rfl, trivial⟩ ?_
      refine WO_end ?_
      cases hx2
      refine WK.sub ?_ (WK.cls (fun _ h => h) hk3)
      exact ⟨rfl, rfl, trivial⟩
    · have hx2 := ifF hb5 hx2
      refine WO_pure tbok 5 [(0, .slice a_p0 p0.length c_p0), (2, .int .i64 0), (11, .bool (decide (64 < (p0.length : Int))))] rfl ⟨rfl, rfl, rfl, trivial⟩ ?_
      refine WO_split (d := 11) (b := decide (64 < (p0.length : Int))) rfl (fun hb6 => ?_) (fun hb6 => ?_)
      · have hx2 := ifT hb6 hx2
        refine WO_pure tbok 1 [(2, .int .i64 0), (11, .bool true)] rfl ⟨rfl, rfl, trivial⟩ ?_
        refine WO_skip rfl rfl ?_
        refine WO_pure tbok 1 [(2, .int .i64 0), (14, .bool true)] rfl ⟨rfl, rfl, trivial⟩ ?_
        refine WO_end ?_
        cases hx2
        refine WK.sub ?_ (WK.cls (fun _ h => h) hk3)
        exact ⟨rfl, rfl, trivial⟩
      · have hx2 := ifF hb6 hx2
        refine WO_pure tbok 1 [(2, .int .i64 0), (11, .bool false), (12, .slice a_p0 p0.length c_p0)] rfl ⟨rfl, rfl, rfl, trivial⟩ ?_
        obtain ⟨y_10, hc7, hx2⟩ := bind_some hx2
        refine WO_call0 (.bool y_10) rfl rfl trivial rfl rfl rfl rfl St_closed ⟨31, #[], #[], rfl, callable_31, fun w hw => ⟨_, hw.sat, slices_ContainsFunc_sdescriptor_Test_walk h_p0 (fun z_2 z_3 z_4 z_5 z_6 z_7 z_8 z_9 _ h => specV_cap callable_41 (descriptor_Check_c1_walk h)) hc7⟩⟩ ?_
        refine WO_pure tbok 1 [(2, .int .i64 0), (14, .bool y_10)] rfl ⟨rfl, rfl, trivial⟩ ?_
        refine WO_end ?_
        cases hx2
        refine WK.sub ?_ (WK.cls (fun _ h => h) hk3)
        exact ⟨rfl, rfl, trivial⟩
def descriptor_opened_Q (r : Int × Int × Int × List Int × List (List Int) × Int) : Value → Mu → List Ent → Prop := fun v m _ => ∃ (a0 : Option Addr) (q0 c0 : Nat) (a1 : Option Addr) (q1 c1 : Nat), v = .tuple #[.agg #[.int .i64 r.1, .int .i64 r.2.1, .int .i64 r.2.2.1, .slice a0 q0 c0, .slice a1 q1 c1], .int .i64 r.2.2.2.2.2] ∧ SlR (FE (I1 .i64)) 1 m (.slice a0 q0 c0) r.2.2.2.1 ∧ SlR (RowE (FE (I1 .i64)) 1) 1 m (.slice a1 q1 c1) r.2.2.2.2.1
theorem descriptor_opened_walk {m : Mu} {p0_0 : Int} {p0_1 : Int} {p0_2 : Int} {p0_3 : List Int} {p1 : List (Int × Int × Int × Int × Int × Int × Int × Int)} {a_p0_3 : Option Addr} {q_p0_3 c_p0_3 : Nat} {a_p1 : Option Addr} {q_p1 c_p1 : Nat} (h_p0_3 : SlR (FE (I1 .i64)) 1 m (.slice a_p0_3 q_p0_3 c_p0_3) p0_3) (h_p1 : SlR (FE T8) 8 m (.slice a_p1 q_p1 c_p1) p1) {r : Int × Int × Int × List Int × List (List Int) × Int} (hm : descriptor_opened p0_0 p0_1 p0_2 p0_3 p1 = some r) :
    Go.E.Spec Try.prog 36 [.agg #[.int .i64 p0_0, .int .i64 p0_1, .int .i64 p0_2, .slice a_p0_3 q_p0_3 c_p0_3], .slice a_p1 q_p1 c_p1] m (descriptor_opened_Q r) := by
  refine Spec_enter Try.func36 rfl rfl rfl (fun w0 => ?_)
  refine WK.sub (e' := [(0, .agg #[.int .i64 p0_0, .int .i64 p0_1, .int .i64 p0_2, .slice a_p0_3 q_p0_3 c_p0_3]), (1, .slice a_p1 q_p1 c_p1)]) ⟨rfl, rfl, trivial⟩ ?_
  obtain rfl := SlR.qlen h_p0_3
  obtain rfl := SlR.qlen h_p1
  refine WK.sub (e' := [(0, .agg #[.int .i64 p0_0, .int .i64 p0_1, .int .i64 p0_2, .slice a_p0_3 p0_3.length c_p0_3]), (1, .slice a_p1 p1.length c_p1)]) ⟨rfl, rfl, trivial⟩ ?_
  unfold descriptor_opened at hm
  refine WK_seq ?_
  refine WK_region ?_
  refine WO_box [.int .i64 p0_0, .int .i64 p0_1, .int .i64 p0_2, .slice a_p0_3 p0_3.length c_p0_3] rfl rfl trivial rfl rfl rfl (fun b3 => ?_)
  refine WO.cls (C' := St w0 m m [[⟨b3, 29, [.int .i64 p0_0, .int .i64 p0_1, .int .i64 p0_2, .slice a_p0_3 p0_3.length c_p0_3]⟩]]) (fun _ h => h) ?_
  refine WO_alloc tbok [.int .i64 0, .int .i64 0, .int .i64 0, .slice none 0 0, .slice none 0 0] rfl rfl trivial rfl rfl rfl rfl (fun b4 => ?_)
  refine WO.cls (C' := St w0 m m [[⟨b3, 29, [.int .i64 p0_0, .int .i64 p0_1, .int .i64 p0_2, .slice a_p0_3 p0_3.length c_p0_3]⟩], [⟨b4, 74, [.int .i64 0, .int .i64 0, .int .i64 0, .slice none 0 0, .slice none 0 0]⟩]]) (fun _ h => h) ?_
  refine WO_pure tbok 1 [(1, .slice a_p1 p1.length c_p1), (2, .pointer (some ⟨b3, 0, none⟩)), (4, .pointer (some ⟨b4, 0, none⟩)), (5, .int .i64 0)] rfl ⟨rfl, rfl, rfl, rfl, trivial⟩ ?_
  refine WO_end ?_
  refine WK_seq ?_
  refine WK_region ?_
  refine WO_loadB tbok 0 rfl rfl rfl rfl (fun _ h => h) rfl rfl ?_
  obtain ⟨⟨y_1, y_2, y_3, y_4, y_5, y_6⟩, hc5, hm⟩ := bind_some hm
  refine WO_call2 (descriptor_open_Q (y_1, y_2, y_3, y_4, y_5, y_6)) rfl rfl trivial rfl rfl rfl rfl ⟨49, #[], #[], rfl, callable_49, descriptor_open_walk h_p0_3 hc5⟩ (fun v13 m14 L12 hle15 hq => ?_)
  obtain ⟨a6, qa6, c7, a9, qa9, c10, rfl, h16, h17⟩ := hq
  obtain rfl := SlR.qlen h16
  obtain rfl := SlR.qlen h17
  refine WO.cls (C' := St w0 m m14 [[⟨b3, 29, [.int .i64 p0_0, .int .i64 p0_1, .int .i64 p0_2, .slice a_p0_3 p0_3.length c_p0_3]⟩], [⟨b4, 74, [.int .i64 0, .int .i64 0, .int .i64 0, .slice none 0 0, .slice none 0 0]⟩], L12]) (fun _ h => h.sub (by simp)) ?_
  refine WO_pure tbok 3 [(1, .slice a_p1 p1.length c_p1), (4, .pointer (some ⟨b4, 0, none⟩)), (5, .int .i64 0), (11, .agg #[.int .i64 y_1, .int .i64 y_2, .int .i64 y_3, .slice a6 ((y_4).length) c7, .slice a9 ((y_5).length) c10]), (12, .int .i64 y_6)] rfl ⟨rfl, rfl, rfl, rfl, rfl, trivial⟩ ?_
  refine WO_alloc tbok [.int .i64 0, .int .i64 0, .int .i64 0, .slice none 0 0, .slice none 0 0] rfl rfl trivial rfl rfl rfl rfl (fun b18 => ?_)
  refine WO.cls (C' := St w0 m m14 [[⟨b3, 29, [.int .i64 p0_0, .int .i64 p0_1, .int .i64 p0_2, .slice a_p0_3 p0_3.length c_p0_3]⟩], [⟨b4, 74, [.int .i64 0, .int .i64 0, .int .i64 0, .slice none 0 0, .slice none 0 0]⟩], L12, [⟨b18, 74, [.int .i64 0, .int .i64 0, .int .i64 0, .slice none 0 0, .slice none 0 0]⟩]]) (fun _ h => h) ?_
  refine WO_storeB tbok 3 [.int .i64 y_1, .int .i64 y_2, .int .i64 y_3, .slice a6 ((y_4).length) c7, .slice a9 ((y_5).length) c10] rfl rfl rfl rfl rfl rfl rfl ?_
  refine WO.cls (C' := St w0 m m14 [[⟨b3, 29, [.int .i64 p0_0, .int .i64 p0_1, .int .i64 p0_2, .slice a_p0_3 p0_3.length c_p0_3]⟩], [⟨b4, 74, [.int .i64 0, .int .i64 0, .int .i64 0, .slice none 0 0, .slice none 0 0]⟩], L12, [⟨b18, 74, [.int .i64 y_1, .int .i64 y_2, .int .i64 y_3, .slice a6 ((y_4).length) c7, .slice a9 ((y_5).length) c10]⟩]]) (fun _ h => h) ?_
  refine WO_pure tbok 1 [(1, .slice a_p1 p1.length c_p1), (4, .pointer (some ⟨b4, 0, none⟩)), (5, .int .i64 0), (6, .pointer (some ⟨b18, 0, none⟩)), (7, .int .i64 y_6)] rfl ⟨rfl, rfl, rfl, rfl, rfl, trivial⟩ ?_
  refine WO_end ?_
  refine WK_seq ?_
  refine WK_seq ?_
  refine WK_region ?_
  refine WO_pure tbok 2 [(1, .slice a_p1 p1.length c_p1), (4, .pointer (some ⟨b4, 0, none⟩)), (5, .int .i64 0), (6, .pointer (some ⟨b18, 0, none⟩)), (7, .int .i64 y_6), (14, .bool (y_6 == 0))] rfl ⟨rfl, rfl, rfl, rfl, rfl, rfl, trivial⟩ ?_
  refine WO_end ?_
  obtain ⟨s_7, hx19, hm⟩ := bind_some hm
  refine WK_meet [(4, .pointer (some ⟨b4, 0, none⟩)), (5, .int .i64 0), (6, .pointer (some ⟨b18, 0, none⟩)), (7, .int .i64 s_7)] (St w0 m m14 [[⟨b3, 29, [.int .i64 p0_0, .int .i64 p0_1, .int .i64 p0_2, .slice a_p0_3 p0_3.length c_p0_3]⟩], [⟨b4, 74, [.int .i64 0, .int .i64 0, .int .i64 0, .slice none 0 0, .slice none 0 0]⟩], L12, [⟨b18, 74, [.int .i64 y_1, .int .i64 y_2, .int .i64 y_3, .slice a6 ((y_4).length) c7, .slice a9 ((y_5).length) c10]⟩]]) ?_ (fun hk20 => ?_)
  · refine WK_seq ?_
    refine WK_region ?_
    refine WO_loadB tbok 3 rfl rfl rfl rfl (fun _ h => h) rfl rfl ?_
    refine WO_pure tbok 1 [(4, .pointer (some ⟨b4, 0, none⟩)), (5, .int .i64 0), (17, .agg #[.int .i64 y_1, .int .i64 y_2, .int .i64 y_3, .slice a6 ((y_4).length) c7, .slice a9 ((y_5).length) c10]), (18, .int .i64 s_7)] rfl ⟨rfl, rfl, rfl, rfl, trivial⟩ ?_
    refine WO_storeB tbok 1 [.int .i64 y_1, .int .i64 y_2, .int .i64 y_3, .slice a6 ((y_4).length) c7, .slice a9 ((y_5).length) c10] rfl rfl rfl rfl rfl rfl rfl ?_
    refine WO.cls (C' := St w0 m m14 [[⟨b3, 29, [.int .i64 p0_0, .int .i64 p0_1, .int .i64 p0_2, .slice a_p0_3 p0_3.length c_p0_3]⟩], [⟨b4, 74, [.int .i64 y_1, .int .i64 y_2, .int .i64 y_3, .slice a6 ((y_4).length) c7, .slice a9 ((y_5).length) c10]⟩], L12, [⟨b18, 74, [.int .i64 y_1, .int .i64 y_2, .int .i64 y_3, .slice a6 ((y_4).length) c7, .slice a9 ((y_5).length) c10]⟩]]) (fun _ h => h) ?_
    refine WO_pure tbok 1 [(4, .pointer (some ⟨b4, 0, none⟩)), (5, .int .i64 s_7)] rfl ⟨rfl, rfl, trivial⟩ ?_
    refine WO_end ?_
    cases hm
    exact WK_ret (ret_out (L := []) (RLc_cell tbok 1 rfl rfl rfl (RLc_tmp rfl RLc_nil)) (List.nil_sublist _) ⟨a6, ((y_4).length), c7, a9, ((y_5).length), c10, rfl, h16, h17⟩)
  · refine WK_cond (b := y_6 == 0) rfl (fun hb21 => ?_) (fun hb21 => ?_)
    · have hx19 := ifT hb21 hx19
      refine WK_region ?_
      refine WO_pure tbok 1 [(4, .pointer (some ⟨b4, 0, none⟩)), (5, .int .i64 0), (6, .pointer (some ⟨b18, 0, none⟩)), (7, .int .i64 y_6), (15, .slice a_p1 p1.length c_p1)] rfl ⟨rfl, rfl, rfl, rfl, rfl, trivial⟩ ?_
      obtain ⟨y_8, hc22, hx19⟩ := bind_some hx19
      refine WO_call0 (.int .i64 y_8) rfl rfl trivial rfl rfl rfl rfl St_closed ⟨19, #[], #[], rfl, callable_19, fun w hw => ⟨_, hw.sat, descriptor_Check_walk (h_p1.mono (mono_FE _) hle15) hc22⟩⟩ ?_
      refine WO_pure tbok 1 [(4, .pointer (some ⟨b4, 0, none⟩)), (5, .int .i64 0), (6, .pointer (some ⟨b18, 0, none⟩)), (7, .int .i64 y_8)] rfl ⟨rfl, rfl, rfl, rfl, trivial⟩ ?_
      refine WO_end ?_
      cases hx19
      refine WK.sub ?_ (WK.cls (fun _ h => h) hk20)
      exact ⟨rfl, rfl, rfl, rfl, trivial⟩
    · have hx19 := ifF hb21 hx19
      refine WK_skip ?_
      cases hx19
      refine WK.sub ?_ (WK.cls (fun _ h => h) hk20)
      exact ⟨rfl, rfl, rfl, rfl, trivial⟩
theorem fiducial_descriptor_image_pixel_walk {m : Mu} {p0_0 : Int} {p0_1 : Int} {p0_2 : Int} {p0_3 : List Int} {p0_4 : List (List Int)} {p1 : Int} {p2 : Int} {a_p0_3 : Option Addr} {q_p0_3 c_p0_3 : Nat} {a_p0_4 : Option Addr} {q_p0_4 c_p0_4 : Nat} (h_p0_3 : SlR (FE (I1 .i64)) 1 m (.slice a_p0_3 q_p0_3 c_p0_3) p0_3) (h_p0_4 : SlR (RowE (FE (I1 .i64)) 1) 1 m (.slice a_p0_4 q_p0_4 c_p0_4) p0_4) {r : Bool} (hm : fiducial_descriptor_image_pixel p0_0 p0_1 p0_2 p0_3 p0_4 p1 p2 = some r) :
    Go.E.Spec Try.prog 37 [.agg #[.int .i64 p0_0, .int .i64 p0_1, .int .i64 p0_2, .slice a_p0_3 q_p0_3 c_p0_3, .slice a_p0_4 q_p0_4 c_p0_4], .int .i64 p1, .int .i64 p2] m (fun v _ _ => v = .bool r) := by
  refine Spec_enter Try.func37 rfl rfl rfl (fun w0 => ?_)
  refine WK.sub (e' := [(0, .agg #[.int .i64 p0_0, .int .i64 p0_1, .int .i64 p0_2, .slice a_p0_3 q_p0_3 c_p0_3, .slice a_p0_4 q_p0_4 c_p0_4]), (1, .int .i64 p1), (2, .int .i64 p2)]) ⟨rfl, rfl, rfl, trivial⟩ ?_
  obtain rfl := SlR.qlen h_p0_3
  obtain rfl := SlR.qlen h_p0_4
  refine WK.sub (e' := [(0, .agg #[.int .i64 p0_0, .int .i64 p0_1, .int .i64 p0_2, .slice a_p0_3 p0_3.length c_p0_3, .slice a_p0_4 p0_4.length c_p0_4]), (1, .int .i64 p1), (2, .int .i64 p2)]) ⟨rfl, rfl, rfl, trivial⟩ ?_
  unfold fiducial_descriptor_image_pixel at hm
  refine WK_seq ?_
  refine WK_region ?_
  refine WO_box [.int .i64 p0_0, .int .i64 p0_1, .int .i64 p0_2, .slice a_p0_3 p0_3.length c_p0_3, .slice a_p0_4 p0_4.length c_p0_4] rfl rfl trivial rfl rfl rfl (fun b3 => ?_)
  refine WO.cls (C' := St w0 m m [[⟨b3, 74, [.int .i64 p0_0, .int .i64 p0_1, .int .i64 p0_2, .slice a_p0_3 p0_3.length c_p0_3, .slice a_p0_4 p0_4.length c_p0_4]⟩]]) (fun _ h => h) ?_
  refine WO_pure tbok 1 [(1, .int .i64 p1), (2, .int .i64 p2), (3, .pointer (some ⟨b3, 0, none⟩)), (6, .bool false)] rfl ⟨rfl, rfl, rfl, rfl, trivial⟩ ?_
  refine WO_end ?_
  refine WK_seq ?_
  refine WK_region ?_
  refine WO_pure tbok 3 [(1, .int .i64 p1), (2, .int .i64 p2), (3, .pointer (some ⟨b3, 0, none⟩)), (6, .bool false), (9, .bool (decide (0 ≤ p1)))] rfl ⟨rfl, rfl, rfl, rfl, rfl, trivial⟩ ?_
  refine WO_split (d := 9) (b := decide (0 ≤ p1)) rfl (fun hb4 => ?_) (fun hb4 => ?_)
  · have hm := ifT hb4 hm
    refine WO_pure tbok 3 [(2, .int .i64 p2), (3, .pointer (some ⟨b3, 0, none⟩)), (6, .bool false), (9, .bool true), (10, .int .i64 p1), (12, .pointer (some ⟨b3, 0, none⟩))] rfl ⟨rfl, rfl, rfl, rfl, rfl, rfl, trivial⟩ ?_
    refine WO_loadB tbok 0 rfl rfl rfl rfl (fun _ h => h) rfl rfl ?_
    refine WO_pure tbok 3 [(2, .int .i64 p2), (3, .pointer (some ⟨b3, 0, none⟩)), (6, .bool false), (16, .bool (decide (p1 < p0_0)))] rfl ⟨rfl, rfl, rfl, rfl, trivial⟩ ?_
    refine WO_split (d := 16) (b := decide (p1 < p0_0)) rfl (fun hb5 => ?_) (fun hb5 => ?_)
    · have hm := ifT hb5 hm
      refine WO_pure tbok 4 [(2, .int .i64 p2), (3, .pointer (some ⟨b3, 0, none⟩)), (6, .bool false), (20, .bool (decide (0 ≤ p2)))] rfl ⟨rfl, rfl, rfl, rfl, trivial⟩ ?_
      refine WO_split (d := 20) (b := decide (0 ≤ p2)) rfl (fun hb6 => ?_) (fun hb6 => ?_)
      · have hm := ifT hb6 hm
        refine WO_pure tbok 3 [(6, .bool false), (20, .bool true), (21, .int .i64 p2), (23, .pointer (some ⟨b3, 1, none⟩))] rfl ⟨rfl, rfl, rfl, rfl, trivial⟩ ?_
        refine WO_loadB tbok 0 rfl rfl rfl rfl (fun _ h => h) rfl rfl ?_
        refine WO_pure tbok 3 [(6, .bool (decide (p2 < p0_1)))] rfl ⟨rfl, trivial⟩ ?_
        refine WO_end ?_
        cases hm
        exact WK_ret (ret_out (L := []) (RLc_tmp rfl RLc_nil) (List.nil_sublist _) rfl)
      · have hm := ifF hb6 hm
        refine WO_pure tbok 7 [(6, .bool false)] rfl ⟨rfl, trivial⟩ ?_
        refine WO_end ?_
        cases hm
        exact WK_ret (ret_out (L := []) (RLc_tmp rfl RLc_nil) (List.nil_sublist _) rfl)
    · have hm := ifF hb5 hm
      refine WO_pure tbok 11 [(6, .bool false)] rfl ⟨rfl, trivial⟩ ?_
      refine WO_end ?_
      cases hm
      exact WK_ret (ret_out (L := []) (RLc_tmp rfl RLc_nil) (List.nil_sublist _) rfl)
  · have hm := ifF hb4 hm
    refine WO_pure tbok 18 [(6, .bool false)] rfl ⟨rfl, trivial⟩ ?_
    refine WO_end ?_
    cases hm
    exact WK_ret (ret_out (L := []) (RLc_tmp rfl RLc_nil) (List.nil_sublist _) rfl)
theorem slices_IndexFunc_ssint_walk {m : Mu} {p0 : List (List Int)} {p1 : List Int → Option Bool} {a_p0 : Option Addr} {q_p0 c_p0 : Nat} {p1v : Value} (h_p0 : SlR (RowE (FE (I1 .i64)) 1) 1 m (.slice a_p0 q_p0 c_p0) p0) (hp1 : ∀ (au1 : Option Addr) (qu1 cu1 : Nat) (u1 : List Int), SlR (FE (I1 .i64)) 1 m (.slice au1 qu1 cu1) u1 → ∀ (r : Bool), p1 u1 = some r → SpecV Try.prog p1v [.slice au1 qu1 cu1] m (fun v _ _ => v = .bool r)) {r : Int} (hm : slices_IndexFunc_ssint p0 p1 = some r) :
    Go.E.Spec Try.prog 64 [.slice a_p0 q_p0 c_p0, p1v] m (fun v _ _ => v = .int .i64 r) := by
  refine Spec_enter Try.func64 rfl rfl rfl (fun w0 => ?_)
  refine WK.sub (e' := [(0, .slice a_p0 q_p0 c_p0), (1, p1v)]) ⟨rfl, rfl, trivial⟩ ?_
  obtain rfl := SlR.qlen h_p0
  refine WK.sub (e' := [(0, .slice a_p0 p0.length c_p0), (1, p1v)]) ⟨rfl, rfl, trivial⟩ ?_
  unfold slices_IndexFunc_ssint at hm
  refine WK_seq ?_
  refine WK_region ?_
  refine WO_pure tbok 1 [(0, .slice a_p0 p0.length c_p0), (1, p1v), (4, .int .i64 0)] rfl ⟨rfl, rfl, rfl, trivial⟩ ?_
  refine WO_end ?_
  refine WK_seq ?_
  refine WK_seq ?_
  refine WK_region ?_
  refine WO_pure tbok 3 [(0, .slice a_p0 p0.length c_p0), (1, p1v), (4, .int .i64 0), (7, .int .i64 (p0.length : Int)), (8, .int .i64 0)] rfl ⟨rfl, rfl, rfl, rfl, rfl, trivial⟩ ?_
  refine WO_end ?_
  obtain ⟨x2, hx3, hm⟩ := bind_some hm
  refine WK_join (β := Unit × Unit) (fun p => Sum.inr p.1 = x2) (fun p => [(4, .int .i64 0)]) (fun p => St w0 m m []) ?_ (fun hk4 => ?_)
  · rintro ⟨⟨⟩, ⟨⟩⟩ hq10
    subst hq10
    refine WK.sub (e' := [(4, .int .i64 0)]) ⟨rfl, trivial⟩ (WK.cls (C' := St w0 m m []) (fun _ h => h) ?_)
    refine WK_seq ?_
    refine WK_region ?_
    refine WO_pure tbok 1 [(4, .int .i64 (-1))] rfl ⟨rfl, trivial⟩ ?_
    refine WO_end ?_
    cases hm
    exact WK_ret (ret_out (L := []) (RLc_tmp rfl RLc_nil) (List.nil_sublist _) rfl)
  · refine WK_block ?_
    refine WK_loop (S := Int) (G := Unit) (fun s => slices_IndexFunc_ssint_s1 p0 p1 s) (fun s g => [(0, .slice a_p0 p0.length c_p0), (1, p1v), (4, .int .i64 0), (7, .int .i64 (p0.length : Int)), (8, .int .i64 s)]) (fun s g => St w0 m m []) (fun s g => True) FUEL 0 () x2 hx3 trivial ⟨rfl, rfl, rfl, rfl, rfl, trivial⟩ (fun _ h => h) ?_
    rintro s_1 ⟨⟩ o6 fl7 hm5 - hn8 hd9
    have hm5 : slices_IndexFunc_ssint_s1 p0 p1 s_1 = some o6 := hm5
    unfold slices_IndexFunc_ssint_s1 at hm5
    refine WK.sub (e' := [(0, .slice a_p0 p0.length c_p0), (1, p1v), (4, .int .i64 0), (7, .int .i64 (p0.length : Int)), (8, .int .i64 s_1)]) ⟨rfl, rfl, rfl, rfl, rfl, trivial⟩ (WK.cls (C' := St w0 m m []) (fun _ h => h) ?_)
    refine WK_seq ?_
    refine WK_region ?_
    refine WO_pure tbok 1 [(0, .slice a_p0 p0.length c_p0), (1, p1v), (4, .int .i64 0), (7, .int .i64 (p0.length : Int)), (8, .int .i64 s_1), (9, .bool (decide (s_1 < (p0.length : Int))))] rfl ⟨rfl, rfl, rfl, rfl, rfl, rfl, trivial⟩ ?_
    refine WO_end ?_
    refine WK_seq ?_
    refine WK_cond (b := decide (s_1 < (p0.length : Int))) rfl (fun hb11 => ?_) (fun hb11 => ?_)
    · have hm5 := ifT hb11 hm5
      refine WK_skip ?_
      refine WK_seq ?_
      refine WK_block ?_
      refine WK_seq ?_
      refine WK_region ?_
      refine WO_pure tbok 2 [(0, .slice a_p0 p0.length c_p0), (1, p1v), (4, .int .i64 0), (5, .int .i64 s_1), (7, .int .i64 (p0.length : Int)), (8, .int .i64 s_1)] rfl ⟨rfl, rfl, rfl, rfl, rfl, rfl, trivial⟩ ?_
      refine WO_end ?_
      refine WK_seq ?_
      refine WK_region ?_
      refine WO_pure tbok 3 [(0, .slice a_p0 p0.length c_p0), (1, p1v), (4, .int .i64 0), (5, .int .i64 s_1), (7, .int .i64 (p0.length : Int)), (8, .int .i64 s_1), (11, p1v), (12, .slice a_p0 p0.length c_p0), (13, .int .i64 s_1)] rfl ⟨rfl, rfl, rfl, rfl, rfl, rfl, rfl, rfl, rfl, trivial⟩ ?_
      obtain ⟨v_2, hy12, hm5⟩ := bind_some hm5
      obtain ⟨hc13, hy12⟩ := ix_some hy12
      refine WO_index tbok rfl rfl rfl rfl rfl rfl rfl rfl (SlR.addr h_p0) hc13 ?_
      refine WO_loadR tbok rfl rfl rfl rfl (fun _ h => St.sat h) h_p0 hy12 rfl rfl (fun a14 c15 h16 => ?_)
      obtain ⟨y_3, hc18, hm5⟩ := bind_some hm5
      obtain ⟨f0, first0, cap0, hf0, hcal0, hsp0⟩ := hp1 _ _ _ v_2 h16 _ hc18
      refine WO_call0 (.bool y_3) rfl rfl trivial rfl rfl rfl rfl St_closed ⟨f0, first0, cap0, hf0, hcal0, fun w hw => ⟨m, hw.sat, hsp0⟩⟩ ?_
      refine WO_end ?_
      refine WK_cond (b := y_3) rfl (fun hb19 => ?_) (fun hb19 => ?_)
      · have hm5 := ifT hb19 hm5
        refine WK_seq ?_
        refine WK_region ?_
        refine WO_pure tbok 2 [(0, .slice a_p0 p0.length c_p0), (1, p1v), (4, .int .i64 s_1), (7, .int .i64 (p0.length : Int)), (8, .int .i64 s_1)] rfl ⟨rfl, rfl, rfl, rfl, rfl, trivial⟩ ?_
        refine WO_end ?_
        cases hm5
        have hq := hd9 _ rfl
        subst hq
        have hm : some _ = some _ := hm
        cases hm
        exact WK_ret (ret_out (L := []) (RLc_tmp rfl RLc_nil) (List.nil_sublist _) rfl)
      · have hm5 := ifF hb19 hm5
        refine WK_skip ?_
        refine WK_blk ?_
        refine WK_region ?_
        refine WO_pure tbok 2 [(0, .slice a_p0 p0.length c_p0), (1, p1v), (4, .int .i64 0), (7, .int .i64 (p0.length : Int)), (8, .int .i64 (w64 (s_1 + 1)))] rfl ⟨rfl, rfl, rfl, rfl, rfl, trivial⟩ ?_
        refine WO_end ?_
        cases hm5
        refine WK.sub ?_ (WK.cls (fun _ h => h) (hn8 _ () rfl trivial))
        exact ⟨rfl, rfl, rfl, rfl, rfl, trivial⟩
    · have hm5 := ifF hb11 hm5
      refine WK_exit rfl ?_
      cases hm5
      refine WK.sub ?_ (WK.cls (fun _ h => h) (hk4 ((), ()) (hd9 _ rfl)))
      exact ⟨rfl, trivial⟩
theorem slices_ContainsFunc_ssint_walk {m : Mu} {p0 : List (List Int)} {p1 : List Int → Option Bool} {a_p0 : Option Addr} {q_p0 c_p0 : Nat} {p1v : Value} (h_p0 : SlR (RowE (FE (I1 .i64)) 1) 1 m (.slice a_p0 q_p0 c_p0) p0) (hp1 : ∀ (au1 : Option Addr) (qu1 cu1 : Nat) (u1 : List Int), SlR (FE (I1 .i64)) 1 m (.slice au1 qu1 cu1) u1 → ∀ (r : Bool), p1 u1 = some r → SpecV Try.prog p1v [.slice au1 qu1 cu1] m (fun v _ _ => v = .bool r)) {r : Bool} (hm : slices_ContainsFunc_ssint p0 p1 = some r) :
    Go.E.Spec Try.prog 60 [.slice a_p0 q_p0 c_p0, p1v] m (fun v _ _ => v = .bool r) := by
  refine Spec_enter Try.func60 rfl rfl rfl (fun w0 => ?_)
  refine WK.sub (e' := [(0, .slice a_p0 q_p0 c_p0), (1, p1v)]) ⟨rfl, rfl, trivial⟩ ?_
  obtain rfl := SlR.qlen h_p0
  refine WK.sub (e' := [(0, .slice a_p0 p0.length c_p0), (1, p1v)]) ⟨rfl, rfl, trivial⟩ ?_
  unfold slices_ContainsFunc_ssint at hm
  refine WK_seq ?_
  refine WK_region ?_
  refine WO_pure tbok 1 [(0, .slice a_p0 p0.length c_p0), (1, p1v), (4, .bool false)] rfl ⟨rfl, rfl, rfl, trivial⟩ ?_
  refine WO_end ?_
  refine WK_seq ?_
  refine WK_region ?_
  refine WO_pure tbok 2 [(4, .bool false), (5, .slice a_p0 p0.length c_p0), (6, p1v)] rfl ⟨rfl, rfl, rfl, trivial⟩ ?_
  obtain ⟨y_1, hc2, hm⟩ := bind_some hm
  refine WO_call0 (.int .i64 y_1) rfl rfl trivial rfl rfl rfl rfl St_closed ⟨64, #[], #[], rfl, callable_64, fun w hw => ⟨_, hw.sat, slices_IndexFunc_ssint_walk h_p0 hp1 hc2⟩⟩ ?_
  refine WO_pure tbok 2 [(4, .bool (decide (0 ≤ y_1)))] rfl ⟨rfl, trivial⟩ ?_
  refine WO_end ?_
  cases hm
  exact WK_ret (ret_out (L := []) (RLc_tmp rfl RLc_nil) (List.nil_sublist _) rfl)
theorem raster_Sum_c1_walk {m : Mu} {p0 : List Int} {q0_0 : List (List Int)} {a_p0 : Option Addr} {q_p0 c_p0 : Nat} {a_q0_0 : Option Addr} {q_q0_0 c_q0_0 : Nat} {b_q0 : Nat} (h_p0 : SlR (FE (I1 .i64)) 1 m (.slice a_p0 q_p0 c_p0) p0) (hb_q0 : m b_q0 = some (Ent.obj ⟨b_q0, 72, [.slice a_q0_0 q_q0_0 c_q0_0]⟩)) (h_q0_0 : SlR (RowE (FE (I1 .i64)) 1) 1 m (.slice a_q0_0 q_q0_0 c_q0_0) q0_0) {r : Bool} (hm : raster_Sum_c1 p0 q0_0 = some r) :
    Go.E.Spec Try.prog 61 [.slice a_p0 q_p0 c_p0, .pointer (some ⟨b_q0, 0, none⟩)] m (fun v _ _ => v = .bool r) := by
  refine Spec_enter Try.func61 rfl rfl rfl (fun w0 => ?_)
  refine WK.sub (e' := [(0, .slice a_p0 q_p0 c_p0), (1, .pointer (some ⟨b_q0, 0, none⟩))]) ⟨rfl, rfl, trivial⟩ ?_
  obtain rfl := SlR.qlen h_p0
  obtain rfl := SlR.qlen h_q0_0
  refine WK.sub (e' := [(0, .slice a_p0 p0.length c_p0), (1, .pointer (some ⟨b_q0, 0, none⟩))]) ⟨rfl, rfl, trivial⟩ ?_
  unfold raster_Sum_c1 at hm
  refine WK_seq ?_
  refine WK_region ?_
  refine WO_pure tbok 1 [(0, .slice a_p0 p0.length c_p0), (1, .pointer (some ⟨b_q0, 0, none⟩)), (3, .bool false)] rfl ⟨rfl, rfl, rfl, trivial⟩ ?_
  refine WO_end ?_
  refine WK_seq ?_
  refine WK_region ?_
  refine WO_pure tbok 2 [(1, .pointer (some ⟨b_q0, 0, none⟩)), (3, .bool false), (5, .int .i64 (p0.length : Int))] rfl ⟨rfl, rfl, rfl, trivial⟩ ?_
  refine WO_loadM tbok rfl rfl rfl rfl (fun _ h => St.sat h) hb_q0 rfl ?_
  obtain ⟨v_1, hy3, hm⟩ := bind_some hm
  obtain ⟨hc4, hy3⟩ := ix_some hy3
  refine WO_index tbok rfl rfl rfl rfl rfl rfl rfl rfl (SlR.addr h_q0_0) hc4 ?_
  refine WO_loadR tbok rfl rfl rfl rfl (fun _ h => St.sat h) h_q0_0 hy3 rfl rfl (fun a5 c6 h7 => ?_)
  refine WO_pure tbok 3 [(3, .bool ((p0.length : Int) != ((v_1).length : Int)))] rfl ⟨rfl, trivial⟩ ?_
  refine WO_end ?_
  cases hm
  exact WK_ret (ret_out (L := []) (RLc_tmp rfl RLc_nil) (List.nil_sublist _) rfl)
theorem raster_Sum_walk {m : Mu} {p0 : List (List Int)} {p1 : Int} {p2 : Int} {p3 : Int} {p4 : Int} {a_p0 : Option Addr} {q_p0 c_p0 : Nat} (h_p0 : SlR (RowE (FE (I1 .i64)) 1) 1 m (.slice a_p0 q_p0 c_p0) p0) {r : Int × Int} (hm : raster_Sum p0 p1 p2 p3 p4 = some r) :
    Go.E.Spec Try.prog 57 [.slice a_p0 q_p0 c_p0, .int .i64 p1, .int .i64 p2, .int .i64 p3, .int .i64 p4] m (fun v _ _ => v = .tuple #[.int .i64 r.1, .int .i64 r.2]) := by
  refine Spec_enter Try.func57 rfl rfl rfl (fun w0 => ?_)
  refine WK.sub (e' := [(0, .slice a_p0 q_p0 c_p0), (1, .int .i64 p1), (2, .int .i64 p2), (3, .int .i64 p3), (4, .int .i64 p4)]) ⟨rfl, rfl, rfl, rfl, rfl, trivial⟩ ?_
  obtain rfl := SlR.qlen h_p0
  refine WK.sub (e' := [(0, .slice a_p0 p0.length c_p0), (1, .int .i64 p1), (2, .int .i64 p2), (3, .int .i64 p3), (4, .int .i64 p4)]) ⟨rfl, rfl, rfl, rfl, rfl, trivial⟩ ?_
  unfold raster_Sum at hm
  refine WK_seq ?_
  refine WK_region ?_
  refine WO_box [.slice a_p0 p0.length c_p0] rfl rfl trivial rfl rfl rfl (fun b2 => ?_)
  refine WO.cls (C' := St w0 m m [[⟨b2, 72, [.slice a_p0 p0.length c_p0]⟩]]) (fun _ h => h) ?_
  refine WO_pure tbok 2 [(1, .int .i64 p1), (2, .int .i64 p2), (3, .int .i64 p3), (4, .int .i64 p4), (5, .pointer (some ⟨b2, 0, none⟩)), (10, .int .i64 0), (11, .int .i64 0)] rfl ⟨rfl, rfl, rfl, rfl, rfl, rfl, rfl, trivial⟩ ?_
  refine WO_end ?_
  refine WK_seq ?_
  refine WK_seq ?_
  obtain ⟨s_1, hx3, hm⟩ := bind_some hm
  refine WK_meet [(1, .int .i64 p1), (2, .int .i64 p2), (3, .int .i64 p3), (4, .int .i64 p4), (5, .pointer (some ⟨b2, 0, none⟩)), (10, .int .i64 0), (11, .int .i64 0), (28, .bool s_1)] (St w0 m m [[⟨b2, 72, [.slice a_p0 p0.length c_p0]⟩]]) ?_ (fun hk4 => ?_)
  · refine WK_cond (b := s_1) rfl (fun hb5 => ?_) (fun hb5 => ?_)
    · have hm := ifT hb5 hm
      refine WK_seq ?_
      refine WK_region ?_
      refine WO_pure tbok 2 [(1, .int .i64 p1), (2, .int .i64 p2), (3, .int .i64 p3), (4, .int .i64 p4), (5, .pointer (some ⟨b2, 0, none⟩)), (10, .int .i64 0), (11, .int .i64 1)] rfl ⟨rfl, rfl, rfl, rfl, rfl, rfl, rfl, trivial⟩ ?_
      refine WO_end ?_
      cases hm
      exact WK_ret (ret_out (L := []) (RLc_tmp rfl (RLc_tmp rfl RLc_nil)) (List.nil_sublist _) rfl)
    · have hm := ifF hb5 hm
      refine WK_skip ?_
      refine WK_seq ?_
      refine WK_draw 10 [0, 1, 2, 3, 4, 5, 6, 7, 8, 9] follows_ok (by kernel_rfl) St_closed ?_
      refine WO_loadB tbok 0 rfl rfl rfl rfl (fun _ h => h) rfl rfl ?_
      obtain ⟨v_2, hy6, hm⟩ := bind_some hm
      obtain ⟨hc7, hy6⟩ := ix_some hy6
      refine WO_index tbok rfl rfl rfl rfl rfl rfl rfl rfl (SlR.addr h_p0) hc7 ?_
      refine WO_loadR tbok rfl rfl rfl rfl (fun _ h => St.sat h) h_p0 hy6 rfl rfl (fun a8 c9 h10 => ?_)
      refine WO_pure tbok 2 [(1, .int .i64 p1), (2, .int .i64 p2), (3, .int .i64 p3), (4, .int .i64 p4), (5, .pointer (some ⟨b2, 0, none⟩)), (10, .int .i64 0), (11, .int .i64 0), (33, .int .i64 (w64 (((v_2).length : Int) - 1)))] rfl ⟨rfl, rfl, rfl, rfl, rfl, rfl, rfl, rfl, trivial⟩ ?_
      refine WO_loadB tbok 0 rfl rfl rfl rfl (fun _ h => h) rfl rfl ?_
      refine WO_pure tbok 4 [(1, .int .i64 p1), (2, .int .i64 p2), (3, .int .i64 p3), (4, .int .i64 p4), (5, .pointer (some ⟨b2, 0, none⟩)), (10, .int .i64 0), (11, .int .i64 0), (12, .int .i64 (w64 (((v_2).length : Int) - 1))), (13, .int .i64 (w64 ((p0.length : Int) - 1)))] rfl ⟨rfl, rfl, rfl, rfl, rfl, rfl, rfl, rfl, rfl, trivial⟩ ?_
      refine WO_tail ?_
      refine WO_end ?_
      refine WK_seq ?_
      refine WK_seq ?_
      obtain ⟨s_3, hx12, hm⟩ := bind_some hm
      refine WK_meet [(1, .int .i64 p1), (2, .int .i64 p2), (3, .int .i64 p3), (4, .int .i64 p4), (5, .pointer (some ⟨b2, 0, none⟩)), (10, .int .i64 0), (11, .int .i64 0), (66, .bool s_3)] (St w0 m m [[⟨b2, 72, [.slice a_p0 p0.length c_p0]⟩]]) ?_ (fun hk13 => ?_)
      · refine WK_cond (b := s_3) rfl (fun hb14 => ?_) (fun hb14 => ?_)
        · have hm := ifT hb14 hm
          refine WK_seq ?_
          refine WK_region ?_
          refine WO_pure tbok 2 [(1, .int .i64 p1), (2, .int .i64 p2), (3, .int .i64 p3), (4, .int .i64 p4), (5, .pointer (some ⟨b2, 0, none⟩)), (10, .int .i64 0), (11, .int .i64 2)] rfl ⟨rfl, rfl, rfl, rfl, rfl, rfl, rfl, trivial⟩ ?_
          refine WO_end ?_
          cases hm
          exact WK_ret (ret_out (L := []) (RLc_tmp rfl (RLc_tmp rfl RLc_nil)) (List.nil_sublist _) rfl)
        · have hm := ifF hb14 hm
          refine WK_skip ?_
          refine WK_seq ?_
          refine WK_draw 41 [0, 1, 2, 3, 4, 5, 6, 7, 8, 9, 10, 11, 12, 13, 14, 15, 16, 17, 18, 19, 20, 21, 22, 23, 24, 25, 26, 27, 28, 29, 30, 31, 32, 33, 34, 35, 36, 37, 38, 39, 40] follows_ok (by kernel_rfl) St_closed ?_
          refine WO_loadB tbok 0 rfl rfl rfl rfl (fun _ h => h) rfl rfl ?_
          refine WO_pure tbok 3 [(1, .int .i64 p1), (2, .int .i64 p2), (3, .int .i64 p3), (4, .int .i64 p4), (5, .pointer (some ⟨b2, 0, none⟩)), (10, .int .i64 0), (11, .int .i64 0), (67, .slice a_p0 p0.length c_p0), (70, .int .i64 (w64 (p2 + p4)))] rfl ⟨rfl, rfl, rfl, rfl, rfl, rfl, rfl, rfl, rfl, trivial⟩ ?_
          obtain ⟨v_4, hy15, hm⟩ := bind_some hm
          obtain ⟨hc16, hy15⟩ := ix_some hy15
          refine WO_index tbok rfl rfl rfl rfl rfl rfl rfl rfl (SlR.addr h_p0) hc16 ?_
          refine WO_loadR tbok rfl rfl rfl rfl (fun _ h => St.sat h) h_p0 hy15 rfl rfl (fun a17 c18 h19 => ?_)
          refine WO_pure tbok 3 [(1, .int .i64 p1), (2, .int .i64 p2), (3, .int .i64 p3), (4, .int .i64 p4), (5, .pointer (some ⟨b2, 0, none⟩)), (10, .int .i64 0), (11, .int .i64 0), (72, .slice a17 ((v_4).length) c18), (75, .int .i64 (w64 (p1 + p3)))] rfl ⟨rfl, rfl, rfl, rfl, rfl, rfl, rfl, rfl, rfl, trivial⟩ ?_
          obtain ⟨v_5, hy21, hm⟩ := bind_some hm
          obtain ⟨hc22, hy21⟩ := ix_some hy21
          refine WO_index tbok rfl rfl rfl rfl rfl rfl rfl rfl (SlR.addr h19) hc22 ?_
          refine WO_loadE tbok rfl rfl rfl rfl (fun _ h => St.sat h) h19 hy21 rfl ?_
          refine WO_loadB tbok 0 rfl rfl rfl rfl (fun _ h => h) rfl rfl ?_
          refine WO_pure tbok 1 [(1, .int .i64 p1), (2, .int .i64 p2), (3, .int .i64 p3), (4, .int .i64 p4), (5, .pointer (some ⟨b2, 0, none⟩)), (10, .int .i64 0), (11, .int .i64 0), (77, .int .i64 v_5), (78, .slice a_p0 p0.length c_p0), (79, .int .i64 p2)] rfl ⟨rfl, rfl, rfl, rfl, rfl, rfl, rfl, rfl, rfl, rfl, trivial⟩ ?_
          obtain ⟨v_6, hy23, hm⟩ := bind_some hm
          obtain ⟨hc24, hy23⟩ := ix_some hy23
          refine WO_index tbok rfl rfl rfl rfl rfl rfl rfl rfl (SlR.addr h_p0) hc24 ?_
          refine WO_loadR tbok rfl rfl rfl rfl (fun _ h => St.sat h) h_p0 hy23 rfl rfl (fun a25 c26 h27 => ?_)
          refine WO_pure tbok 3 [(1, .int .i64 p1), (2, .int .i64 p2), (4, .int .i64 p4), (5, .pointer (some ⟨b2, 0, none⟩)), (10, .int .i64 0), (11, .int .i64 0), (77, .int .i64 v_5), (81, .slice a25 ((v_6).length) c26), (84, .int .i64 (w64 (p1 + p3)))] rfl ⟨rfl, rfl, rfl, rfl, rfl, rfl, rfl, rfl, rfl, trivial⟩ ?_
          obtain ⟨v_7, hy29, hm⟩ := bind_some hm
          obtain ⟨hc30, hy29⟩ := ix_some hy29
          refine WO_index tbok rfl rfl rfl rfl rfl rfl rfl rfl (SlR.addr h27) hc30 ?_
          refine WO_loadE tbok rfl rfl rfl rfl (fun _ h => St.sat h) h27 hy29 rfl ?_
          refine WO_pure tbok 1 [(1, .int .i64 p1), (2, .int .i64 p2), (4, .int .i64 p4), (5, .pointer (some ⟨b2, 0, none⟩)), (10, .int .i64 0), (11, .int .i64 0), (87, .int .i64 (w64 (v_5 - v_7)))] rfl ⟨rfl, rfl, rfl, rfl, rfl, rfl, rfl, trivial⟩ ?_
          refine WO_loadB tbok 0 rfl rfl rfl rfl (fun _ h => h) rfl rfl ?_
          refine WO_pure tbok 3 [(1, .int .i64 p1), (2, .int .i64 p2), (5, .pointer (some ⟨b2, 0, none⟩)), (10, .int .i64 0), (11, .int .i64 0), (87, .int .i64 (w64 (v_5 - v_7))), (88, .slice a_p0 p0.length c_p0), (91, .int .i64 (w64 (p2 + p4)))] rfl ⟨rfl, rfl, rfl, rfl, rfl, rfl, rfl, rfl, trivial⟩ ?_
          obtain ⟨v_8, hy31, hm⟩ := bind_some hm
          obtain ⟨hc32, hy31⟩ := ix_some hy31
          refine WO_index tbok rfl rfl rfl rfl rfl rfl rfl rfl (SlR.addr h_p0) hc32 ?_
          refine WO_loadR tbok rfl rfl rfl rfl (fun _ h => St.sat h) h_p0 hy31 rfl rfl (fun a33 c34 h35 => ?_)
          refine WO_pure tbok 1 [(1, .int .i64 p1), (2, .int .i64 p2), (5, .pointer (some ⟨b2, 0, none⟩)), (10, .int .i64 0), (11, .int .i64 0), (87, .int .i64 (w64 (v_5 - v_7))), (93, .slice a33 ((v_8).length) c34), (94, .int .i64 p1)] rfl ⟨rfl, rfl, rfl, rfl, rfl, rfl, rfl, rfl, trivial⟩ ?_
          obtain ⟨v_9, hy37, hm⟩ := bind_some hm
          obtain ⟨hc38, hy37⟩ := ix_some hy37
          refine WO_index tbok rfl rfl rfl rfl rfl rfl rfl rfl (SlR.addr h35) hc38 ?_
          refine WO_loadE tbok rfl rfl rfl rfl (fun _ h => St.sat h) h35 hy37 rfl ?_
          refine WO_pure tbok 1 [(1, .int .i64 p1), (2, .int .i64 p2), (5, .pointer (some ⟨b2, 0, none⟩)), (10, .int .i64 0), (11, .int .i64 0), (97, .int .i64 (w64 ((w64 (v_5 - v_7)) - v_9)))] rfl ⟨rfl, rfl, rfl, rfl, rfl, rfl, trivial⟩ ?_
          refine WO_loadB tbok 0 rfl rfl rfl rfl (fun _ h => h) rfl rfl ?_
          refine WO_pure tbok 1 [(1, .int .i64 p1), (10, .int .i64 0), (11, .int .i64 0), (97, .int .i64 (w64 ((w64 (v_5 - v_7)) - v_9))), (98, .slice a_p0 p0.length c_p0), (99, .int .i64 p2)] rfl ⟨rfl, rfl, rfl, rfl, rfl, rfl, trivial⟩ ?_
          obtain ⟨v_10, hy39, hm⟩ := bind_some hm
          obtain ⟨hc40, hy39⟩ := ix_some hy39
          refine WO_index tbok rfl rfl rfl rfl rfl rfl rfl rfl (SlR.addr h_p0) hc40 ?_
          refine WO_loadR tbok rfl rfl rfl rfl (fun _ h => St.sat h) h_p0 hy39 rfl rfl (fun a41 c42 h43 => ?_)
          refine WO_pure tbok 1 [(10, .int .i64 0), (11, .int .i64 0), (97, .int .i64 (w64 ((w64 (v_5 - v_7)) - v_9))), (101, .slice a41 ((v_10).length) c42), (102, .int .i64 p1)] rfl ⟨rfl, rfl, rfl, rfl, rfl, trivial⟩ ?_
          obtain ⟨v_11, hy45, hm⟩ := bind_some hm
          obtain ⟨hc46, hy45⟩ := ix_some hy45
          refine WO_index tbok rfl rfl rfl rfl rfl rfl rfl rfl (SlR.addr h43) hc46 ?_
          refine WO_loadE tbok rfl rfl rfl rfl (fun _ h => St.sat h) h43 hy45 rfl ?_
          refine WO_pure tbok 3 [(10, .int .i64 (w64 ((w64 ((w64 (v_5 - v_7)) - v_9)) + v_11))), (11, .int .i64 0)] rfl ⟨rfl, rfl, trivial⟩ ?_
          refine WO_tail ?_
          refine WO_end ?_
          cases hm
          exact WK_ret (ret_out (L := []) (RLc_tmp rfl (RLc_tmp rfl RLc_nil)) (List.nil_sublist _) rfl)
      · refine WK_region ?_
        refine WO_pure tbok 7 [(1, .int .i64 p1), (2, .int .i64 p2), (3, .int .i64 p3), (4, .int .i64 p4), (5, .pointer (some ⟨b2, 0, none⟩)), (10, .int .i64 0), (11, .int .i64 0), (12, .int .i64 (w64 (((v_2).length : Int) - 1))), (13, .int .i64 (w64 ((p0.length : Int) - 1))), (43, .bool (decide ((if p4 < (if p3 < (if p2 < p1 then p2 else p1) then p3 else (if p2 < p1 then p2 else p1)) then p4 else (if p3 < (if p2 < p1 then p2 else p1) then p3 else (if p2 < p1 then p2 else p1))) < 0)))] rfl ⟨rfl, rfl, rfl, rfl, rfl, rfl, rfl, rfl, rfl, rfl, trivial⟩ ?_
        refine WO_split (d := 43) (b := decide ((if p4 < (if p3 < (if p2 < p1 then p2 else p1) then p3 else (if p2 < p1 then p2 else p1)) then p4 else (if p3 < (if p2 < p1 then p2 else p1) then p3 else (if p2 < p1 then p2 else p1))) < 0)) rfl (fun hb47 => ?_) (fun hb47 => ?_)
        · have hx12 := ifT hb47 hx12
          refine WO_pure tbok 23 [(1, .int .i64 p1), (2, .int .i64 p2), (3, .int .i64 p3), (4, .int .i64 p4), (5, .pointer (some ⟨b2, 0, none⟩)), (10, .int .i64 0), (11, .int .i64 0), (66, .bool true)] rfl ⟨rfl, rfl, rfl, rfl, rfl, rfl, rfl, rfl, trivial⟩ ?_
          refine WO_end ?_
          cases hx12
          refine WK.sub ?_ (WK.cls (fun _ h => h) hk13)
          exact ⟨rfl, rfl, rfl, rfl, rfl, rfl, rfl, rfl, trivial⟩
        · have hx12 := ifF hb47 hx12
          refine WO_pure tbok 5 [(1, .int .i64 p1), (2, .int .i64 p2), (3, .int .i64 p3), (4, .int .i64 p4), (5, .pointer (some ⟨b2, 0, none⟩)), (10, .int .i64 0), (11, .int .i64 0), (12, .int .i64 (w64 (((v_2).length : Int) - 1))), (13, .int .i64 (w64 ((p0.length : Int) - 1))), (48, .bool (decide ((w64 (((v_2).length : Int) - 1)) < p1)))] rfl ⟨rfl, rfl, rfl, rfl, rfl, rfl, rfl, rfl, rfl, rfl, trivial⟩ ?_
          refine WO_split (d := 48) (b := decide ((w64 (((v_2).length : Int) - 1)) < p1)) rfl (fun hb48 => ?_) (fun hb48 => ?_)
          · have hx12 := ifT hb48 hx12
            refine WO_pure tbok 18 [(1, .int .i64 p1), (2, .int .i64 p2), (3, .int .i64 p3), (4, .int .i64 p4), (5, .pointer (some ⟨b2, 0, none⟩)), (10, .int .i64 0), (11, .int .i64 0), (66, .bool true)] rfl ⟨rfl, rfl, rfl, rfl, rfl, rfl, rfl, rfl, trivial⟩ ?_
            refine WO_end ?_
            cases hx12
            refine WK.sub ?_ (WK.cls (fun _ h => h) hk13)
            exact ⟨rfl, rfl, rfl, rfl, rfl, rfl, rfl, rfl, trivial⟩
          · have hx12 := ifF hb48 hx12
            refine WO_pure tbok 5 [(1, .int .i64 p1), (2, .int .i64 p2), (3, .int .i64 p3), (4, .int .i64 p4), (5, .pointer (some ⟨b2, 0, none⟩)), (10, .int .i64 0), (11, .int .i64 0), (12, .int .i64 (w64 (((v_2).length : Int) - 1))), (13, .int .i64 (w64 ((p0.length : Int) - 1))), (53, .bool (decide ((w64 ((p0.length : Int) - 1)) < p2)))] rfl ⟨rfl, rfl, rfl, rfl, rfl, rfl, rfl, rfl, rfl, rfl, trivial⟩ ?_
            refine WO_split (d := 53) (b := decide ((w64 ((p0.length : Int) - 1)) < p2)) rfl (fun hb49 => ?_) (fun hb49 => ?_)
            · have hx12 := ifT hb49 hx12
              refine WO_pure tbok 13 [(1, .int .i64 p1), (2, .int .i64 p2), (3, .int .i64 p3), (4, .int .i64 p4), (5, .pointer (some ⟨b2, 0, none⟩)), (10, .int .i64 0), (11, .int .i64 0), (66, .bool true)] rfl ⟨rfl, rfl, rfl, rfl, rfl, rfl, rfl, rfl, trivial⟩ ?_
              refine WO_end ?_
              cases hx12
              refine WK.sub ?_ (WK.cls (fun _ h => h) hk13)
              exact ⟨rfl, rfl, rfl, rfl, rfl, rfl, rfl, rfl, trivial⟩
            · have hx12 := ifF hb49 hx12
              refine WO_pure tbok 7 [(1, .int .i64 p1), (2, .int .i64 p2), (3, .int .i64 p3), (4, .int .i64 p4), (5, .pointer (some ⟨b2, 0, none⟩)), (10, .int .i64 0), (11, .int .i64 0), (13, .int .i64 (w64 ((p0.length : Int) - 1))), (60, .bool (decide ((w64 ((w64 (((v_2).length : Int) - 1)) - p1)) < p3)))] rfl ⟨rfl, rfl, rfl, rfl, rfl, rfl, rfl, rfl, rfl, trivial⟩ ?_
              refine WO_split (d := 60) (b := decide ((w64 ((w64 (((v_2).length : Int) - 1)) - p1)) < p3)) rfl (fun hb50 => ?_) (fun hb50 => ?_)
              · have hx12 := ifT hb50 hx12
                refine WO_pure tbok 6 [(1, .int .i64 p1), (2, .int .i64 p2), (3, .int .i64 p3), (4, .int .i64 p4), (5, .pointer (some ⟨b2, 0, none⟩)), (10, .int .i64 0), (11, .int .i64 0), (66, .bool true)] rfl ⟨rfl, rfl, rfl, rfl, rfl, rfl, rfl, rfl, trivial⟩ ?_
                refine WO_end ?_
                cases hx12
                refine WK.sub ?_ (WK.cls (fun _ h => h) hk13)
                exact ⟨rfl, rfl, rfl, rfl, rfl, rfl, rfl, rfl, trivial⟩
              · have hx12 := ifF hb50 hx12
                refine WO_pure tbok 6 [(1, .int .i64 p1), (2, .int .i64 p2), (3, .int .i64 p3), (4, .int .i64 p4), (5, .pointer (some ⟨b2, 0, none⟩)), (10, .int .i64 0), (11, .int .i64 0), (66, .bool (decide ((w64 ((w64 ((p0.length : Int) - 1)) - p2)) < p4)))] rfl ⟨rfl, rfl, rfl, rfl, rfl, rfl, rfl, rfl, trivial⟩ ?_
                refine WO_end ?_
                cases hx12
                refine WK.sub ?_ (WK.cls (fun _ h => h) hk13)
                exact ⟨rfl, rfl, rfl, rfl, rfl, rfl, rfl, rfl, trivial⟩
  · refine WK_region ?_
    refine WO_loadB tbok 0 rfl rfl rfl rfl (fun _ h => h) rfl rfl ?_
    refine WO_pure tbok 3 [(1, .int .i64 p1), (2, .int .i64 p2), (3, .int .i64 p3), (4, .int .i64 p4), (5, .pointer (some ⟨b2, 0, none⟩)), (10, .int .i64 0), (11, .int .i64 0), (17, .bool ((p0.length : Int) == 0))] rfl ⟨rfl, rfl, rfl, rfl, rfl, rfl, rfl, rfl, trivial⟩ ?_
    refine WO_split (d := 17) (b := (p0.length : Int) == 0) rfl (fun hb51 => ?_) (fun hb51 => ?_)
    · have hx3 := ifT hb51 hx3
      refine WO_pure tbok 9 [(1, .int .i64 p1), (2, .int .i64 p2), (3, .int .i64 p3), (4, .int .i64 p4), (5, .pointer (some ⟨b2, 0, none⟩)), (10, .int .i64 0), (11, .int .i64 0), (24, .bool true)] rfl ⟨rfl, rfl, rfl, rfl, rfl, rfl, rfl, rfl, trivial⟩ ?_
      refine WO_skip rfl rfl ?_
      refine WO_pure tbok 1 [(1, .int .i64 p1), (2, .int .i64 p2), (3, .int .i64 p3), (4, .int .i64 p4), (5, .pointer (some ⟨b2, 0, none⟩)), (10, .int .i64 0), (11, .int .i64 0), (28, .bool true)] rfl ⟨rfl, rfl, rfl, rfl, rfl, rfl, rfl, rfl, trivial⟩ ?_
      refine WO_end ?_
      cases hx3
      refine WK.sub ?_ (WK.cls (fun _ h => h) hk4)
      exact ⟨rfl, rfl, rfl, rfl, rfl, rfl, rfl, rfl, trivial⟩
    · have hx3 := ifF hb51 hx3
      refine WO_loadB tbok 0 rfl rfl rfl rfl (fun _ h => h) rfl rfl ?_
      obtain ⟨v_12, hy52, hx3⟩ := bind_some hx3
      obtain ⟨hc53, hy52⟩ := ix_some hy52
      refine WO_index tbok rfl rfl rfl rfl rfl rfl rfl rfl (SlR.addr h_p0) hc53 ?_
      refine WO_loadR tbok rfl rfl rfl rfl (fun _ h => St.sat h) h_p0 hy52 rfl rfl (fun a54 c55 h56 => ?_)
      refine WO_pure tbok 4 [(1, .int .i64 p1), (2, .int .i64 p2), (3, .int .i64 p3), (4, .int .i64 p4), (5, .pointer (some ⟨b2, 0, none⟩)), (10, .int .i64 0), (11, .int .i64 0), (24, .bool (((v_12).length : Int) == 0))] rfl ⟨rfl, rfl, rfl, rfl, rfl, rfl, rfl, rfl, trivial⟩ ?_
      refine WO_split (d := 24) (b := ((v_12).length : Int) == 0) rfl (fun hb58 => ?_) (fun hb58 => ?_)
      · have hx3 := ifT hb58 hx3
        refine WO_pure tbok 2 [(1, .int .i64 p1), (2, .int .i64 p2), (3, .int .i64 p3), (4, .int .i64 p4), (5, .pointer (some ⟨b2, 0, none⟩)), (10, .int .i64 0), (11, .int .i64 0), (24, .bool true)] rfl ⟨rfl, rfl, rfl, rfl, rfl, rfl, rfl, rfl, trivial⟩ ?_
        refine WO_skip rfl rfl ?_
        refine WO_pure tbok 1 [(1, .int .i64 p1), (2, .int .i64 p2), (3, .int .i64 p3), (4, .int .i64 p4), (5, .pointer (some ⟨b2, 0, none⟩)), (10, .int .i64 0), (11, .int .i64 0), (28, .bool true)] rfl ⟨rfl, rfl, rfl, rfl, rfl, rfl, rfl, rfl, trivial⟩ ?_
        refine WO_end ?_
        cases hx3
        refine WK.sub ?_ (WK.cls (fun _ h => h) hk4)
        exact ⟨rfl, rfl, rfl, rfl, rfl, rfl, rfl, rfl, trivial⟩
      · have hx3 := ifF hb58 hx3
        refine WO_loadB tbok 0 rfl rfl rfl rfl (fun _ h => h) rfl rfl ?_
        refine WO_pure tbok 1 [(1, .int .i64 p1), (2, .int .i64 p2), (3, .int .i64 p3), (4, .int .i64 p4), (5, .pointer (some ⟨b2, 0, none⟩)), (10, .int .i64 0), (11, .int .i64 0), (24, .bool false), (25, .slice a_p0 p0.length c_p0), (26, .func (.func 61) #[] #[.pointer (some ⟨b2, 0, none⟩)])] rfl ⟨rfl, rfl, rfl, rfl, rfl, rfl, rfl, rfl, rfl, rfl, trivial⟩ ?_
        obtain ⟨y_14, hc60, hx3⟩ := bind_some hx3
        refine WO_call0 (.bool y_14) rfl rfl trivial rfl rfl rfl rfl St_closed ⟨60, #[], #[], rfl, callable_60, fun w hw => ⟨_, hw.satV, slices_ContainsFunc_ssint_walk (h_p0.mono (mono_RowE (mono_FE _) _) hw.leV) (fun _ _ _ z_13 h59 _ h => specV_cap callable_61 (raster_Sum_c1_walk h59 (hw.memV (i := 0) rfl (List.mem_singleton.2 rfl)) (h_p0.mono (mono_RowE (mono_FE _) _) hw.leV) h)) hc60⟩⟩ ?_
        refine WO_pure tbok 1 [(1, .int .i64 p1), (2, .int .i64 p2), (3, .int .i64 p3), (4, .int .i64 p4), (5, .pointer (some ⟨b2, 0, none⟩)), (10, .int .i64 0), (11, .int .i64 0), (28, .bool y_14)] rfl ⟨rfl, rfl, rfl, rfl, rfl, rfl, rfl, rfl, trivial⟩ ?_
        refine WO_end ?_
        cases hx3
        refine WK.sub ?_ (WK.cls (fun _ h => h) hk4)
        exact ⟨rfl, rfl, rfl, rfl, rfl, rfl, rfl, rfl, trivial⟩
theorem fiducial_descriptor_image_sum_walk {m : Mu} {p0_0 : Int} {p0_1 : Int} {p0_2 : Int} {p0_3 : List Int} {p0_4 : List (List Int)} {p1 : Int} {p2 : Int} {p3 : Int} {p4 : Int} {a_p0_3 : Option Addr} {q_p0_3 c_p0_3 : Nat} {a_p0_4 : Option Addr} {q_p0_4 c_p0_4 : Nat} (h_p0_3 : SlR (FE (I1 .i64)) 1 m (.slice a_p0_3 q_p0_3 c_p0_3) p0_3) (h_p0_4 : SlR (RowE (FE (I1 .i64)) 1) 1 m (.slice a_p0_4 q_p0_4 c_p0_4) p0_4) {r : Int × Bool} (hm : fiducial_descriptor_image_sum p0_0 p0_1 p0_2 p0_3 p0_4 p1 p2 p3 p4 = some r) :
    Go.E.Spec Try.prog 52 [.agg #[.int .i64 p0_0, .int .i64 p0_1, .int .i64 p0_2, .slice a_p0_3 q_p0_3 c_p0_3, .slice a_p0_4 q_p0_4 c_p0_4], .int .i64 p1, .int .i64 p2, .int .i64 p3, .int .i64 p4] m (fun v _ _ => v = .tuple #[.int .i64 r.1, .bool r.2]) := by
  refine Spec_enter Try.func52 rfl rfl rfl (fun w0 => ?_)
  refine WK.sub (e' := [(0, .agg #[.int .i64 p0_0, .int .i64 p0_1, .int .i64 p0_2, .slice a_p0_3 q_p0_3 c_p0_3, .slice a_p0_4 q_p0_4 c_p0_4]), (1, .int .i64 p1), (2, .int .i64 p2), (3, .int .i64 p3), (4, .int .i64 p4)]) ⟨rfl, rfl, rfl, rfl, rfl, trivial⟩ ?_
  obtain rfl := SlR.qlen h_p0_3
  obtain rfl := SlR.qlen h_p0_4
  refine WK.sub (e' := [(0, .agg #[.int .i64 p0_0, .int .i64 p0_1, .int .i64 p0_2, .slice a_p0_3 p0_3.length c_p0_3, .slice a_p0_4 p0_4.length c_p0_4]), (1, .int .i64 p1), (2, .int .i64 p2), (3, .int .i64 p3), (4, .int .i64 p4)]) ⟨rfl, rfl, rfl, rfl, rfl, trivial⟩ ?_
  unfold fiducial_descriptor_image_sum at hm
  refine WK_seq ?_
  refine WK_region ?_
  refine WO_box [.int .i64 p0_0, .int .i64 p0_1, .int .i64 p0_2, .slice a_p0_3 p0_3.length c_p0_3, .slice a_p0_4 p0_4.length c_p0_4] rfl rfl trivial rfl rfl rfl (fun b3 => ?_)
  refine WO.cls (C' := St w0 m m [[⟨b3, 74, [.int .i64 p0_0, .int .i64 p0_1, .int .i64 p0_2, .slice a_p0_3 p0_3.length c_p0_3, .slice a_p0_4 p0_4.length c_p0_4]⟩]]) (fun _ h => h) ?_
  refine WO_pure tbok 2 [(1, .int .i64 p1), (2, .int .i64 p2), (3, .int .i64 p3), (4, .int .i64 p4), (5, .pointer (some ⟨b3, 0, none⟩)), (10, .int .i64 0), (11, .bool false)] rfl ⟨rfl, rfl, rfl, rfl, rfl, rfl, rfl, trivial⟩ ?_
  refine WO_end ?_
  refine WK_seq ?_
  refine WK_region ?_
  refine WO_pure tbok 1 [(1, .int .i64 p1), (2, .int .i64 p2), (3, .int .i64 p3), (4, .int .i64 p4), (10, .int .i64 0), (11, .bool false), (15, .pointer (some ⟨b3, 4, none⟩))] rfl ⟨rfl, rfl, rfl, rfl, rfl, rfl, rfl, trivial⟩ ?_
  refine WO_loadB tbok 0 rfl rfl rfl rfl (fun _ h => h) rfl rfl ?_
  refine WO_pure tbok 4 [(10, .int .i64 0), (11, .bool false), (16, .slice a_p0_4 p0_4.length c_p0_4), (17, .int .i64 p1), (18, .int .i64 p2), (19, .int .i64 p3), (20, .int .i64 p4)] rfl ⟨rfl, rfl, rfl, rfl, rfl, rfl, rfl, trivial⟩ ?_
  obtain ⟨⟨y_1, y_2⟩, hc4, hm⟩ := bind_some hm
  refine WO_call0 (.tuple #[.int .i64 y_1, .int .i64 y_2]) rfl rfl trivial rfl rfl rfl rfl St_closed ⟨57, #[], #[], rfl, callable_57, fun w hw => ⟨_, hw.sat, raster_Sum_walk h_p0_4 hc4⟩⟩ ?_
  refine WO_pure tbok 5 [(10, .int .i64 0), (11, .bool false), (12, .int .i64 y_1), (13, .int .i64 y_2)] rfl ⟨rfl, rfl, rfl, rfl, trivial⟩ ?_
  refine WO_end ?_
  refine WK_seq ?_
  refine WK_region ?_
  refine WO_pure tbok 5 [(10, .int .i64 y_1), (11, .bool (y_2 == 0))] rfl ⟨rfl, rfl, trivial⟩ ?_
  refine WO_end ?_
  cases hm
  exact WK_ret (ret_out (L := []) (RLc_tmp rfl (RLc_tmp rfl RLc_nil)) (List.nil_sublist _) rfl)
theorem fiducial_descriptor_image_word_walk {m : Mu} {p0_0 : Int} {p0_1 : Int} {p0_2 : Int} {p0_3 : List Int} {p0_4 : List (List Int)} {p1 : List (Int × Int × Int × Int × Int × Int × Int × Int)} {p2 : Int} {p3 : Int} {a_p0_3 : Option Addr} {q_p0_3 c_p0_3 : Nat} {a_p0_4 : Option Addr} {q_p0_4 c_p0_4 : Nat} {a_p1 : Option Addr} {q_p1 c_p1 : Nat} (h_p0_3 : SlR (FE (I1 .i64)) 1 m (.slice a_p0_3 q_p0_3 c_p0_3) p0_3) (h_p0_4 : SlR (RowE (FE (I1 .i64)) 1) 1 m (.slice a_p0_4 q_p0_4 c_p0_4) p0_4) (h_p1 : SlR (FE T8) 8 m (.slice a_p1 q_p1 c_p1) p1) {r : Int × Bool} (hm : fiducial_descriptor_image_word p0_0 p0_1 p0_2 p0_3 p0_4 p1 p2 p3 = some r) :
    Go.E.Spec Try.prog 38 [.agg #[.int .i64 p0_0, .int .i64 p0_1, .int .i64 p0_2, .slice a_p0_3 q_p0_3 c_p0_3, .slice a_p0_4 q_p0_4 c_p0_4], .slice a_p1 q_p1 c_p1, .int .i64 p2, .int .i64 p3] m (fun v _ _ => v = .tuple #[.int .u64 r.1, .bool r.2]) := by
  refine Spec_enter Try.func38 rfl rfl rfl (fun w0 => ?_)
  refine WK.sub (e' := [(0, .agg #[.int .i64 p0_0, .int .i64 p0_1, .int .i64 p0_2, .slice a_p0_3 q_p0_3 c_p0_3, .slice a_p0_4 q_p0_4 c_p0_4]), (1, .slice a_p1 q_p1 c_p1), (2, .int .i64 p2), (3, .int .i64 p3)]) ⟨rfl, rfl, rfl, rfl, trivial⟩ ?_
  obtain rfl := SlR.qlen h_p0_3
  obtain rfl := SlR.qlen h_p0_4
  obtain rfl := SlR.qlen h_p1
  refine WK.sub (e' := [(0, .agg #[.int .i64 p0_0, .int .i64 p0_1, .int .i64 p0_2, .slice a_p0_3 p0_3.length c_p0_3, .slice a_p0_4 p0_4.length c_p0_4]), (1, .slice a_p1 p1.length c_p1), (2, .int .i64 p2), (3, .int .i64 p3)]) ⟨rfl, rfl, rfl, rfl, trivial⟩ ?_
  unfold fiducial_descriptor_image_word at hm
  refine WK_seq ?_
  refine WK_region ?_
  refine WO_box [.int .i64 p0_0, .int .i64 p0_1, .int .i64 p0_2, .slice a_p0_3 p0_3.length c_p0_3, .slice a_p0_4 p0_4.length c_p0_4] rfl rfl trivial rfl rfl rfl (fun b4 => ?_)
  refine WO.cls (C' := St w0 m m [[⟨b4, 74, [.int .i64 p0_0, .int .i64 p0_1, .int .i64 p0_2, .slice a_p0_3 p0_3.length c_p0_3, .slice a_p0_4 p0_4.length c_p0_4]⟩]]) (fun _ h => h) ?_
  refine WO_pure tbok 2 [(1, .slice a_p1 p1.length c_p1), (2, .int .i64 p2), (3, .int .i64 p3), (4, .pointer (some ⟨b4, 0, none⟩)), (8, .int .u64 0), (9, .bool false)] rfl ⟨rfl, rfl, rfl, rfl, rfl, rfl, trivial⟩ ?_
  refine WO_end ?_
  refine WK_seq ?_
  refine WK_region ?_
  refine WO_pure tbok 1 [(1, .slice a_p1 p1.length c_p1), (2, .int .i64 p2), (3, .int .i64 p3), (4, .pointer (some ⟨b4, 0, none⟩)), (8, .int .u64 0), (9, .bool false), (10, .int .u64 0)] rfl ⟨rfl, rfl, rfl, rfl, rfl, rfl, rfl, trivial⟩ ?_
  refine WO_end ?_
  refine WK_seq ?_
  refine WK_seq ?_
  refine WK_region ?_
  refine WO_pure tbok 3 [(2, .int .i64 p2), (3, .int .i64 p3), (4, .pointer (some ⟨b4, 0, none⟩)), (8, .int .u64 0), (9, .bool false), (10, .int .u64 0), (17, .slice a_p1 p1.length c_p1), (18, .int .i64 (p1.length : Int)), (19, .int .i64 0)] rfl ⟨rfl, rfl, rfl, rfl, rfl, rfl, rfl, rfl, rfl, trivial⟩ ?_
  refine WO_end ?_
  obtain ⟨x5, hx6, hm⟩ := bind_some hm
  refine WK_join (β := Int × Unit) (fun p => Sum.inr p.1 = x5) (fun p => [(8, .int .u64 0), (9, .bool false), (10, .int .u64 p.1)]) (fun p => St w0 m m [[⟨b4, 74, [.int .i64 p0_0, .int .i64 p0_1, .int .i64 p0_2, .slice a_p0_3 p0_3.length c_p0_3, .slice a_p0_4 p0_4.length c_p0_4]⟩]]) ?_ (fun hk7 => ?_)
  · rintro ⟨s_3, ⟨⟩⟩ hq13
    subst hq13
    refine WK.sub (e' := [(8, .int .u64 0), (9, .bool false), (10, .int .u64 s_3)]) ⟨rfl, rfl, rfl, trivial⟩ (WK.cls (C' := St w0 m m [[⟨b4, 74, [.int .i64 p0_0, .int .i64 p0_1, .int .i64 p0_2, .slice a_p0_3 p0_3.length c_p0_3, .slice a_p0_4 p0_4.length c_p0_4]⟩]]) (fun _ h => h) ?_)
    refine WK_seq ?_
    refine WK_region ?_
    refine WO_pure tbok 3 [(8, .int .u64 s_3), (9, .bool true)] rfl ⟨rfl, rfl, trivial⟩ ?_
    refine WO_end ?_
    cases hm
    exact WK_ret (ret_out (L := []) (RLc_tmp rfl (RLc_tmp rfl RLc_nil)) (List.nil_sublist _) rfl)
  · refine WK_block ?_
    refine WK_loop (S := Int × Int) (G := Unit) (fun s => fiducial_descriptor_image_word_s1 p0_0 p0_1 p0_2 p0_3 p0_4 p1 p2 p3 s.1 s.2) (fun s g => [(2, .int .i64 p2), (3, .int .i64 p3), (4, .pointer (some ⟨b4, 0, none⟩)), (8, .int .u64 0), (9, .bool false), (10, .int .u64 s.1), (17, .slice a_p1 p1.length c_p1), (18, .int .i64 (p1.length : Int)), (19, .int .i64 s.2)]) (fun s g => St w0 m m [[⟨b4, 74, [.int .i64 p0_0, .int .i64 p0_1, .int .i64 p0_2, .slice a_p0_3 p0_3.length c_p0_3, .slice a_p0_4 p0_4.length c_p0_4]⟩]]) (fun s g => True) FUEL (0, 0) () x5 hx6 trivial ⟨rfl, rfl, rfl, rfl, rfl, rfl, rfl, rfl, rfl, trivial⟩ (fun _ h => h) ?_
    rintro ⟨s_1, s_2⟩ ⟨⟩ o9 fl10 hm8 - hn11 hd12
    have hm8 : fiducial_descriptor_image_word_s1 p0_0 p0_1 p0_2 p0_3 p0_4 p1 p2 p3 s_1 s_2 = some o9 := hm8
    unfold fiducial_descriptor_image_word_s1 at hm8
    refine WK.sub (e' := [(2, .int .i64 p2), (3, .int .i64 p3), (4, .pointer (some ⟨b4, 0, none⟩)), (8, .int .u64 0), (9, .bool false), (10, .int .u64 s_1), (17, .slice a_p1 p1.length c_p1), (18, .int .i64 (p1.length : Int)), (19, .int .i64 s_2)]) ⟨rfl, rfl, rfl, rfl, rfl, rfl, rfl, rfl, rfl, trivial⟩ (WK.cls (C' := St w0 m m [[⟨b4, 74, [.int .i64 p0_0, .int .i64 p0_1, .int .i64 p0_2, .slice a_p0_3 p0_3.length c_p0_3, .slice a_p0_4 p0_4.length c_p0_4]⟩]]) (fun _ h => h) ?_)
    refine WK_seq ?_
    refine WK_region ?_
    refine WO_pure tbok 1 [(2, .int .i64 p2), (3, .int .i64 p3), (4, .pointer (some ⟨b4, 0, none⟩)), (8, .int .u64 0), (9, .bool false), (10, .int .u64 s_1), (17, .slice a_p1 p1.length c_p1), (18, .int .i64 (p1.length : Int)), (19, .int .i64 s_2), (20, .bool (decide (s_2 < (p1.length : Int))))] rfl ⟨rfl, rfl, rfl, rfl, rfl, rfl, rfl, rfl, rfl, rfl, trivial⟩ ?_
    refine WO_end ?_
    refine WK_seq ?_
    refine WK_cond (b := decide (s_2 < (p1.length : Int))) rfl (fun hb14 => ?_) (fun hb14 => ?_)
    · have hm8 := ifT hb14 hm8
      refine WK_skip ?_
      refine WK_seq ?_
      refine WK_block ?_
      refine WK_seq ?_
      refine WK_region ?_
      refine WO_pure tbok 1 [(2, .int .i64 p2), (3, .int .i64 p3), (4, .pointer (some ⟨b4, 0, none⟩)), (8, .int .u64 0), (9, .bool false), (10, .int .u64 s_1), (17, .slice a_p1 p1.length c_p1), (18, .int .i64 (p1.length : Int)), (19, .int .i64 s_2), (21, .int .i64 s_2)] rfl ⟨rfl, rfl, rfl, rfl, rfl, rfl, rfl, rfl, rfl, rfl, trivial⟩ ?_
      obtain ⟨v_4, hy15, hm8⟩ := bind_some hm8
      obtain ⟨hc16, hy15⟩ := ix_some hy15
      refine WO_index tbok rfl rfl rfl rfl rfl rfl rfl rfl (SlR.addr h_p1) hc16 ?_
      refine WO_loadE tbok rfl rfl rfl rfl (fun _ h => St.sat h) h_p1 hy15 rfl ?_
      refine WO_alloc tbok [.int .i64 0, .int .i64 0, .int .i64 0, .int .i64 0, .int .i64 0, .int .i64 0, .int .i64 0, .int .i64 0] rfl rfl trivial rfl rfl rfl rfl (fun b17 => ?_)
      refine WO.cls (C' := St w0 m m [[⟨b4, 74, [.int .i64 p0_0, .int .i64 p0_1, .int .i64 p0_2, .slice a_p0_3 p0_3.length c_p0_3, .slice a_p0_4 p0_4.length c_p0_4]⟩], [⟨b17, 46, [.int .i64 0, .int .i64 0, .int .i64 0, .int .i64 0, .int .i64 0, .int .i64 0, .int .i64 0, .int .i64 0]⟩]]) (fun _ h => h) ?_
      refine WO_pure tbok 1 [(2, .int .i64 p2), (3, .int .i64 p3), (4, .pointer (some ⟨b4, 0, none⟩)), (8, .int .u64 0), (9, .bool false), (10, .int .u64 s_1), (11, .int .i64 s_2), (12, .pointer (some ⟨b17, 0, none⟩)), (17, .slice a_p1 p1.length c_p1), (18, .int .i64 (p1.length : Int)), (19, .int .i64 s_2), (23, .agg #[.int .i64 v_4.1, .int .i64 v_4.2.1, .int .i64 v_4.2.2.1, .int .i64 v_4.2.2.2.1, .int .i64 v_4.2.2.2.2.1, .int .i64 v_4.2.2.2.2.2.1, .int .i64 v_4.2.2.2.2.2.2.1, .int .i64 v_4.2.2.2.2.2.2.2])] rfl ⟨rfl, rfl, rfl, rfl, rfl, rfl, rfl, rfl, rfl, rfl, rfl, rfl, trivial⟩ ?_
      refine WO_storeB tbok 1 [.int .i64 v_4.1, .int .i64 v_4.2.1, .int .i64 v_4.2.2.1, .int .i64 v_4.2.2.2.1, .int .i64 v_4.2.2.2.2.1, .int .i64 v_4.2.2.2.2.2.1, .int .i64 v_4.2.2.2.2.2.2.1, .int .i64 v_4.2.2.2.2.2.2.2] rfl rfl rfl rfl rfl rfl rfl ?_
      refine WO.cls (C' := St w0 m m [[⟨b4, 74, [.int .i64 p0_0, .int .i64 p0_1, .int .i64 p0_2, .slice a_p0_3 p0_3.length c_p0_3, .slice a_p0_4 p0_4.length c_p0_4]⟩], [⟨b17, 46, [.int .i64 v_4.1, .int .i64 v_4.2.1, .int .i64 v_4.2.2.1, .int .i64 v_4.2.2.2.1, .int .i64 v_4.2.2.2.2.1, .int .i64 v_4.2.2.2.2.2.1, .int .i64 v_4.2.2.2.2.2.2.1, .int .i64 v_4.2.2.2.2.2.2.2]⟩]]) (fun _ h => h) ?_
      refine WO_end ?_
      refine WK_seq ?_
      refine WK_region ?_
      refine WO_loadB tbok 0 rfl rfl rfl rfl (fun _ h => h) rfl rfl ?_
      refine WO_pure tbok 3 [(2, .int .i64 p2), (3, .int .i64 p3), (4, .pointer (some ⟨b4, 0, none⟩)), (8, .int .u64 0), (9, .bool false), (10, .int .u64 s_1), (11, .int .i64 s_2), (12, .pointer (some ⟨b17, 0, none⟩)), (17, .slice a_p1 p1.length c_p1), (18, .int .i64 (p1.length : Int)), (19, .int .i64 s_2), (25, .agg #[.int .i64 p0_0, .int .i64 p0_1, .int .i64 p0_2, .slice a_p0_3 p0_3.length c_p0_3, .slice a_p0_4 p0_4.length c_p0_4]), (26, .int .i64 p2), (28, .pointer (some ⟨b17, 0, none⟩))] rfl ⟨rfl, rfl, rfl, rfl, rfl, rfl, rfl, rfl, rfl, rfl, rfl, rfl, rfl, rfl, trivial⟩ ?_
      refine WO_loadB tbok 1 rfl rfl rfl rfl (fun _ h => h) rfl rfl ?_
      refine WO_pure tbok 4 [(2, .int .i64 p2), (3, .int .i64 p3), (4, .pointer (some ⟨b4, 0, none⟩)), (8, .int .u64 0), (9, .bool false), (10, .int .u64 s_1), (11, .int .i64 s_2), (12, .pointer (some ⟨b17, 0, none⟩)), (17, .slice a_p1 p1.length c_p1), (18, .int .i64 (p1.length : Int)), (19, .int .i64 s_2), (25, .agg #[.int .i64 p0_0, .int .i64 p0_1, .int .i64 p0_2, .slice a_p0_3 p0_3.length c_p0_3, .slice a_p0_4 p0_4.length c_p0_4]), (30, .int .i64 (w64 (p2 + v_4.1))), (31, .int .i64 p3), (33, .pointer (some ⟨b17, 1, none⟩))] rfl ⟨rfl, rfl, rfl, rfl, rfl, rfl, rfl, rfl, rfl, rfl, rfl, rfl, rfl, rfl, rfl, trivial⟩ ?_
      refine WO_loadB tbok 1 rfl rfl rfl rfl (fun _ h => h) rfl rfl ?_
      refine WO_pure tbok 3 [(2, .int .i64 p2), (3, .int .i64 p3), (4, .pointer (some ⟨b4, 0, none⟩)), (8, .int .u64 0), (9, .bool false), (10, .int .u64 s_1), (11, .int .i64 s_2), (12, .pointer (some ⟨b17, 0, none⟩)), (17, .slice a_p1 p1.length c_p1), (18, .int .i64 (p1.length : Int)), (19, .int .i64 s_2), (25, .agg #[.int .i64 p0_0, .int .i64 p0_1, .int .i64 p0_2, .slice a_p0_3 p0_3.length c_p0_3, .slice a_p0_4 p0_4.length c_p0_4]), (30, .int .i64 (w64 (p2 + v_4.1))), (35, .int .i64 (w64 (p3 + v_4.2.1))), (37, .pointer (some ⟨b17, 2, none⟩))] rfl ⟨rfl, rfl, rfl, rfl, rfl, rfl, rfl, rfl, rfl, rfl, rfl, rfl, rfl, rfl, rfl, trivial⟩ ?_
      refine WO_loadB tbok 1 rfl rfl rfl rfl (fun _ h => h) rfl rfl ?_
      refine WO_pure tbok 2 [(2, .int .i64 p2), (3, .int .i64 p3), (4, .pointer (some ⟨b4, 0, none⟩)), (8, .int .u64 0), (9, .bool false), (10, .int .u64 s_1), (11, .int .i64 s_2), (12, .pointer (some ⟨b17, 0, none⟩)), (17, .slice a_p1 p1.length c_p1), (18, .int .i64 (p1.length : Int)), (19, .int .i64 s_2), (25, .agg #[.int .i64 p0_0, .int .i64 p0_1, .int .i64 p0_2, .slice a_p0_3 p0_3.length c_p0_3, .slice a_p0_4 p0_4.length c_p0_4]), (30, .int .i64 (w64 (p2 + v_4.1))), (35, .int .i64 (w64 (p3 + v_4.2.1))), (38, .int .i64 v_4.2.2.1), (40, .pointer (some ⟨b17, 3, none⟩))] rfl ⟨rfl, rfl, rfl, rfl, rfl, rfl, rfl, rfl, rfl, rfl, rfl, rfl, rfl, rfl, rfl, rfl, trivial⟩ ?_
      refine WO_loadB tbok 1 rfl rfl rfl rfl (fun _ h => h) rfl rfl ?_
      obtain ⟨⟨y_5, y_6⟩, hc18, hm8⟩ := bind_some hm8
      refine WO_call0 (.tuple #[.int .i64 y_5, .bool y_6]) rfl rfl trivial rfl rfl rfl rfl St_closed ⟨52, #[], #[], rfl, callable_52, fun w hw => ⟨_, hw.sat, fiducial_descriptor_image_sum_walk h_p0_3 h_p0_4 hc18⟩⟩ ?_
      refine WO_pure tbok 5 [(2, .int .i64 p2), (3, .int .i64 p3), (4, .pointer (some ⟨b4, 0, none⟩)), (8, .int .u64 0), (9, .bool false), (10, .int .u64 s_1), (11, .int .i64 s_2), (12, .pointer (some ⟨b17, 0, none⟩)), (13, .int .i64 y_5), (14, .bool y_6), (17, .slice a_p1 p1.length c_p1), (18, .int .i64 (p1.length : Int)), (19, .int .i64 s_2)] rfl ⟨rfl, rfl, rfl, rfl, rfl, rfl, rfl, rfl, rfl, rfl, rfl, rfl, rfl, trivial⟩ ?_
      refine WO_end ?_
      refine WK_seq ?_
      refine WK_region ?_
      refine WO_loadB tbok 0 rfl rfl rfl rfl (fun _ h => h) rfl rfl ?_
      refine WO_pure tbok 3 [(2, .int .i64 p2), (3, .int .i64 p3), (4, .pointer (some ⟨b4, 0, none⟩)), (8, .int .u64 0), (9, .bool false), (10, .int .u64 s_1), (11, .int .i64 s_2), (12, .pointer (some ⟨b17, 0, none⟩)), (13, .int .i64 y_5), (14, .bool y_6), (17, .slice a_p1 p1.length c_p1), (18, .int .i64 (p1.length : Int)), (19, .int .i64 s_2), (46, .agg #[.int .i64 p0_0, .int .i64 p0_1, .int .i64 p0_2, .slice a_p0_3 p0_3.length c_p0_3, .slice a_p0_4 p0_4.length c_p0_4]), (47, .int .i64 p2), (49, .pointer (some ⟨b17, 4, none⟩))] rfl ⟨rfl, rfl, rfl, rfl, rfl, rfl, rfl, rfl, rfl, rfl, rfl, rfl, rfl, rfl, rfl, rfl, trivial⟩ ?_
      refine WO_loadB tbok 1 rfl rfl rfl rfl (fun _ h => h) rfl rfl ?_
      refine WO_pure tbok 4 [(2, .int .i64 p2), (3, .int .i64 p3), (4, .pointer (some ⟨b4, 0, none⟩)), (8, .int .u64 0), (9, .bool false), (10, .int .u64 s_1), (11, .int .i64 s_2), (12, .pointer (some ⟨b17, 0, none⟩)), (13, .int .i64 y_5), (14, .bool y_6), (17, .slice a_p1 p1.length c_p1), (18, .int .i64 (p1.length : Int)), (19, .int .i64 s_2), (46, .agg #[.int .i64 p0_0, .int .i64 p0_1, .int .i64 p0_2, .slice a_p0_3 p0_3.length c_p0_3, .slice a_p0_4 p0_4.length c_p0_4]), (51, .int .i64 (w64 (p2 + v_4.2.2.2.2.1))), (52, .int .i64 p3), (54, .pointer (some ⟨b17, 5, none⟩))] rfl ⟨rfl, rfl, rfl, rfl, rfl, rfl, rfl, rfl, rfl, rfl, rfl, rfl, rfl, rfl, rfl, rfl, rfl, trivial⟩ ?_
      refine WO_loadB tbok 1 rfl rfl rfl rfl (fun _ h => h) rfl rfl ?_
      refine WO_pure tbok 3 [(2, .int .i64 p2), (3, .int .i64 p3), (4, .pointer (some ⟨b4, 0, none⟩)), (8, .int .u64 0), (9, .bool false), (10, .int .u64 s_1), (11, .int .i64 s_2), (12, .pointer (some ⟨b17, 0, none⟩)), (13, .int .i64 y_5), (14, .bool y_6), (17, .slice a_p1 p1.length c_p1), (18, .int .i64 (p1.length : Int)), (19, .int .i64 s_2), (46, .agg #[.int .i64 p0_0, .int .i64 p0_1, .int .i64 p0_2, .slice a_p0_3 p0_3.length c_p0_3, .slice a_p0_4 p0_4.length c_p0_4]), (51, .int .i64 (w64 (p2 + v_4.2.2.2.2.1))), (56, .int .i64 (w64 (p3 + v_4.2.2.2.2.2.1))), (58, .pointer (some ⟨b17, 6, none⟩))] rfl ⟨rfl, rfl, rfl, rfl, rfl, rfl, rfl, rfl, rfl, rfl, rfl, rfl, rfl, rfl, rfl, rfl, rfl, trivial⟩ ?_
      refine WO_loadB tbok 1 rfl rfl rfl rfl (fun _ h => h) rfl rfl ?_
      refine WO_pure tbok 2 [(2, .int .i64 p2), (3, .int .i64 p3), (4, .pointer (some ⟨b4, 0, none⟩)), (8, .int .u64 0), (9, .bool false), (10, .int .u64 s_1), (11, .int .i64 s_2), (12, .pointer (some ⟨b17, 0, none⟩)), (13, .int .i64 y_5), (14, .bool y_6), (17, .slice a_p1 p1.length c_p1), (18, .int .i64 (p1.length : Int)), (19, .int .i64 s_2), (46, .agg #[.int .i64 p0_0, .int .i64 p0_1, .int .i64 p0_2, .slice a_p0_3 p0_3.length c_p0_3, .slice a_p0_4 p0_4.length c_p0_4]), (51, .int .i64 (w64 (p2 + v_4.2.2.2.2.1))), (56, .int .i64 (w64 (p3 + v_4.2.2.2.2.2.1))), (59, .int .i64 v_4.2.2.2.2.2.2.1), (61, .pointer (some ⟨b17, 7, none⟩))] rfl ⟨rfl, rfl, rfl, rfl, rfl, rfl, rfl, rfl, rfl, rfl, rfl, rfl, rfl, rfl, rfl, rfl, rfl, rfl, trivial⟩ ?_
      refine WO_loadB tbok 1 rfl rfl rfl rfl (fun _ h => h) rfl rfl ?_
      obtain ⟨⟨y_7, y_8⟩, hc19, hm8⟩ := bind_some hm8
      refine WO_call0 (.tuple #[.int .i64 y_7, .bool y_8]) rfl rfl trivial rfl rfl rfl rfl St_closed ⟨52, #[], #[], rfl, callable_52, fun w hw => ⟨_, hw.sat, fiducial_descriptor_image_sum_walk h_p0_3 h_p0_4 hc19⟩⟩ ?_
      refine WO_pure tbok 5 [(2, .int .i64 p2), (3, .int .i64 p3), (4, .pointer (some ⟨b4, 0, none⟩)), (8, .int .u64 0), (9, .bool false), (10, .int .u64 s_1), (11, .int .i64 s_2), (12, .pointer (some ⟨b17, 0, none⟩)), (13, .int .i64 y_5), (14, .bool y_6), (15, .int .i64 y_7), (16, .bool y_8), (17, .slice a_p1 p1.length c_p1), (18, .int .i64 (p1.length : Int)), (19, .int .i64 s_2)] rfl ⟨rfl, rfl, rfl, rfl, rfl, rfl, rfl, rfl, rfl, rfl, rfl, rfl, rfl, rfl, rfl, trivial⟩ ?_
      refine WO_end ?_
      refine WK_seq ?_
      refine WK_seq ?_
      obtain ⟨s_9, hx20, hm8⟩ := bind_some hm8
      refine WK_meet [(2, .int .i64 p2), (3, .int .i64 p3), (4, .pointer (some ⟨b4, 0, none⟩)), (8, .int .u64 0), (9, .bool false), (10, .int .u64 s_1), (11, .int .i64 s_2), (12, .pointer (some ⟨b17, 0, none⟩)), (13, .int .i64 y_5), (15, .int .i64 y_7), (17, .slice a_p1 p1.length c_p1), (18, .int .i64 (p1.length : Int)), (19, .int .i64 s_2), (71, .bool s_9)] (St w0 m m [[⟨b4, 74, [.int .i64 p0_0, .int .i64 p0_1, .int .i64 p0_2, .slice a_p0_3 p0_3.length c_p0_3, .slice a_p0_4 p0_4.length c_p0_4]⟩], [⟨b17, 46, [.int .i64 v_4.1, .int .i64 v_4.2.1, .int .i64 v_4.2.2.1, .int .i64 v_4.2.2.2.1, .int .i64 v_4.2.2.2.2.1, .int .i64 v_4.2.2.2.2.2.1, .int .i64 v_4.2.2.2.2.2.2.1, .int .i64 v_4.2.2.2.2.2.2.2]⟩]]) ?_ (fun hk21 => ?_)
      · refine WK_cond (b := s_9) rfl (fun hb22 => ?_) (fun hb22 => ?_)
        · have hm8 := ifT hb22 hm8
          refine WK_seq ?_
          refine WK_region ?_
          refine WO_pure tbok 2 [(2, .int .i64 p2), (3, .int .i64 p3), (4, .pointer (some ⟨b4, 0, none⟩)), (8, .int .u64 0), (9, .bool false), (10, .int .u64 s_1), (11, .int .i64 s_2), (12, .pointer (some ⟨b17, 0, none⟩)), (13, .int .i64 y_5), (15, .int .i64 y_7), (17, .slice a_p1 p1.length c_p1), (18, .int .i64 (p1.length : Int)), (19, .int .i64 s_2)] rfl ⟨rfl, rfl, rfl, rfl, rfl, rfl, rfl, rfl, rfl, rfl, rfl, rfl, rfl, trivial⟩ ?_
          refine WO_end ?_
          cases hm8
          have hq := hd12 _ rfl
          subst hq
          have hm : some _ = some _ := hm
          cases hm
          exact WK_ret (ret_out (L := []) (RLc_tmp rfl (RLc_tmp rfl RLc_nil)) (List.nil_sublist _) rfl)
        · have hm8 := ifF hb22 hm8
          refine WK_skip ?_
          refine WK_seq ?_
          refine WK_region ?_
          refine WO_pure tbok 3 [(2, .int .i64 p2), (3, .int .i64 p3), (4, .pointer (some ⟨b4, 0, none⟩)), (8, .int .u64 0), (9, .bool false), (10, .int .u64 s_1), (11, .int .i64 s_2), (12, .pointer (some ⟨b17, 0, none⟩)), (15, .int .i64 y_7), (17, .slice a_p1 p1.length c_p1), (18, .int .i64 (p1.length : Int)), (19, .int .i64 s_2), (72, .int .i64 y_5), (74, .pointer (some ⟨b17, 6, none⟩))] rfl ⟨rfl, rfl, rfl, rfl, rfl, rfl, rfl, rfl, rfl, rfl, rfl, rfl, rfl, rfl, trivial⟩ ?_
          refine WO_loadB tbok 1 rfl rfl rfl rfl (fun _ h => h) rfl rfl ?_
          refine WO_pure tbok 3 [(2, .int .i64 p2), (3, .int .i64 p3), (4, .pointer (some ⟨b4, 0, none⟩)), (8, .int .u64 0), (9, .bool false), (10, .int .u64 s_1), (11, .int .i64 s_2), (12, .pointer (some ⟨b17, 0, none⟩)), (15, .int .i64 y_7), (17, .slice a_p1 p1.length c_p1), (18, .int .i64 (p1.length : Int)), (19, .int .i64 s_2), (76, .int .i64 (w64 (y_5 * v_4.2.2.2.2.2.2.1))), (78, .pointer (some ⟨b17, 7, none⟩))] rfl ⟨rfl, rfl, rfl, rfl, rfl, rfl, rfl, rfl, rfl, rfl, rfl, rfl, rfl, rfl, trivial⟩ ?_
          refine WO_loadB tbok 1 rfl rfl rfl rfl (fun _ h => h) rfl rfl ?_
          refine WO_pure tbok 4 [(2, .int .i64 p2), (3, .int .i64 p3), (4, .pointer (some ⟨b4, 0, none⟩)), (8, .int .u64 0), (9, .bool false), (10, .int .u64 s_1), (11, .int .i64 s_2), (12, .pointer (some ⟨b17, 0, none⟩)), (17, .slice a_p1 p1.length c_p1), (18, .int .i64 (p1.length : Int)), (19, .int .i64 s_2), (80, .int .i64 (w64 ((w64 (y_5 * v_4.2.2.2.2.2.2.1)) * v_4.2.2.2.2.2.2.2))), (81, .int .i64 y_7), (83, .pointer (some ⟨b17, 2, none⟩))] rfl ⟨rfl, rfl, rfl, rfl, rfl, rfl, rfl, rfl, rfl, rfl, rfl, rfl, rfl, rfl, trivial⟩ ?_
          refine WO_loadB tbok 1 rfl rfl rfl rfl (fun _ h => h) rfl rfl ?_
          refine WO_pure tbok 3 [(2, .int .i64 p2), (3, .int .i64 p3), (4, .pointer (some ⟨b4, 0, none⟩)), (8, .int .u64 0), (9, .bool false), (10, .int .u64 s_1), (11, .int .i64 s_2), (17, .slice a_p1 p1.length c_p1), (18, .int .i64 (p1.length : Int)), (19, .int .i64 s_2), (80, .int .i64 (w64 ((w64 (y_5 * v_4.2.2.2.2.2.2.1)) * v_4.2.2.2.2.2.2.2))), (85, .int .i64 (w64 (y_7 * v_4.2.2.1))), (87, .pointer (some ⟨b17, 3, none⟩))] rfl ⟨rfl, rfl, rfl, rfl, rfl, rfl, rfl, rfl, rfl, rfl, rfl, rfl, rfl, trivial⟩ ?_
          refine WO_loadB tbok 1 rfl rfl rfl rfl (fun _ h => h) rfl rfl ?_
          refine WO_pure tbok 2 [(2, .int .i64 p2), (3, .int .i64 p3), (4, .pointer (some ⟨b4, 0, none⟩)), (8, .int .u64 0), (9, .bool false), (10, .int .u64 s_1), (11, .int .i64 s_2), (17, .slice a_p1 p1.length c_p1), (18, .int .i64 (p1.length : Int)), (19, .int .i64 s_2), (90, .bool (decide ((w64 ((w64 (y_5 * v_4.2.2.2.2.2.2.1)) * v_4.2.2.2.2.2.2.2)) < (w64 ((w64 (y_7 * v_4.2.2.1)) * v_4.2.2.2.1)))))] rfl ⟨rfl, rfl, rfl, rfl, rfl, rfl, rfl, rfl, rfl, rfl, rfl, trivial⟩ ?_
          refine WO_end ?_
          obtain ⟨s_10, hx23, hm8⟩ := bind_some hm8
          refine WK_meet [(2, .int .i64 p2), (3, .int .i64 p3), (4, .pointer (some ⟨b4, 0, none⟩)), (8, .int .u64 0), (9, .bool false), (10, .int .u64 s_10), (17, .slice a_p1 p1.length c_p1), (18, .int .i64 (p1.length : Int)), (19, .int .i64 s_2)] (St w0 m m [[⟨b4, 74, [.int .i64 p0_0, .int .i64 p0_1, .int .i64 p0_2, .slice a_p0_3 p0_3.length c_p0_3, .slice a_p0_4 p0_4.length c_p0_4]⟩], [⟨b17, 46, [.int .i64 v_4.1, .int .i64 v_4.2.1, .int .i64 v_4.2.2.1, .int .i64 v_4.2.2.2.1, .int .i64 v_4.2.2.2.2.1, .int .i64 v_4.2.2.2.2.2.1, .int .i64 v_4.2.2.2.2.2.2.1, .int .i64 v_4.2.2.2.2.2.2.2]⟩]]) ?_ (fun hk24 => ?_)
          · refine WK_blk ?_
            refine WK_region ?_
            refine WO_pure tbok 2 [(2, .int .i64 p2), (3, .int .i64 p3), (4, .pointer (some ⟨b4, 0, none⟩)), (8, .int .u64 0), (9, .bool false), (10, .int .u64 s_10), (17, .slice a_p1 p1.length c_p1), (18, .int .i64 (p1.length : Int)), (19, .int .i64 (w64 (s_2 + 1)))] rfl ⟨rfl, rfl, rfl, rfl, rfl, rfl, rfl, rfl, rfl, trivial⟩ ?_
            refine WO_end ?_
            cases hm8
            refine WK.sub ?_ (WK.cls (fun _ h => St.take 1 h) (hn11 _ () rfl trivial))
            exact ⟨rfl, rfl, rfl, rfl, rfl, rfl, rfl, rfl, rfl, trivial⟩
          · refine WK_cond (b := decide ((w64 ((w64 (y_5 * v_4.2.2.2.2.2.2.1)) * v_4.2.2.2.2.2.2.2)) < (w64 ((w64 (y_7 * v_4.2.2.1)) * v_4.2.2.2.1)))) rfl (fun hb25 => ?_) (fun hb25 => ?_)
            · have hx23 := ifT hb25 hx23
              refine WK_region ?_
              refine WO_pure tbok 2 [(2, .int .i64 p2), (3, .int .i64 p3), (4, .pointer (some ⟨b4, 0, none⟩)), (8, .int .u64 0), (9, .bool false), (10, .int .u64 s_1), (17, .slice a_p1 p1.length c_p1), (18, .int .i64 (p1.length : Int)), (19, .int .i64 s_2), (91, .int .u64 s_1), (92, .int .i64 s_2)] rfl ⟨rfl, rfl, rfl, rfl, rfl, rfl, rfl, rfl, rfl, rfl, rfl, trivial⟩ ?_
              obtain ⟨hc26, hx23⟩ := chk_some hx23
              refine WO_shl rfl rfl rfl rfl rfl hc26 ?_
              refine WO_pure tbok 2 [(2, .int .i64 p2), (3, .int .i64 p3), (4, .pointer (some ⟨b4, 0, none⟩)), (8, .int .u64 0), (9, .bool false), (10, .int .u64 (wu64 (((BitVec.ofInt 64 s_1 ||| BitVec.ofInt 64 (wu64 (1 * 2 ^ (min (s_2 : Int).toNat 64)))).toNat : Int)))), (17, .slice a_p1 p1.length c_p1), (18, .int .i64 (p1.length : Int)), (19, .int .i64 s_2)] rfl ⟨rfl, rfl, rfl, rfl, rfl, rfl, rfl, rfl, rfl, trivial⟩ ?_
              refine WO_end ?_
              cases hx23
              refine WK.sub ?_ (WK.cls (fun _ h => h) hk24)
              exact ⟨rfl, rfl, rfl, rfl, rfl, rfl, rfl, rfl, rfl, trivial⟩
            · have hx23 := ifF hb25 hx23
              refine WK_skip ?_
              cases hx23
              refine WK.sub ?_ (WK.cls (fun _ h => h) hk24)
              exact ⟨rfl, rfl, rfl, rfl, rfl, rfl, rfl, rfl, rfl, trivial⟩
      · refine WK_region ?_
        refine WO_pure tbok 3 [(2, .int .i64 p2), (3, .int .i64 p3), (4, .pointer (some ⟨b4, 0, none⟩)), (8, .int .u64 0), (9, .bool false), (10, .int .u64 s_1), (11, .int .i64 s_2), (12, .pointer (some ⟨b17, 0, none⟩)), (13, .int .i64 y_5), (15, .int .i64 y_7), (16, .bool y_8), (17, .slice a_p1 p1.length c_p1), (18, .int .i64 (p1.length : Int)), (19, .int .i64 s_2), (68, .bool (!y_6))] rfl ⟨rfl, rfl, rfl, rfl, rfl, rfl, rfl, rfl, rfl, rfl, rfl, rfl, rfl, rfl, rfl, trivial⟩ ?_
        refine WO_split (d := 68) (b := !y_6) rfl (fun hb27 => ?_) (fun hb27 => ?_)
        · have hx20 := ifT hb27 hx20
          refine WO_pure tbok 3 [(2, .int .i64 p2), (3, .int .i64 p3), (4, .pointer (some ⟨b4, 0, none⟩)), (8, .int .u64 0), (9, .bool false), (10, .int .u64 s_1), (11, .int .i64 s_2), (12, .pointer (some ⟨b17, 0, none⟩)), (13, .int .i64 y_5), (15, .int .i64 y_7), (17, .slice a_p1 p1.length c_p1), (18, .int .i64 (p1.length : Int)), (19, .int .i64 s_2), (71, .bool true)] rfl ⟨rfl, rfl, rfl, rfl, rfl, rfl, rfl, rfl, rfl, rfl, rfl, rfl, rfl, rfl, trivial⟩ ?_
          refine WO_end ?_
          cases hx20
          refine WK.sub ?_ (WK.cls (fun _ h => h) hk21)
          exact ⟨rfl, rfl, rfl, rfl, rfl, rfl, rfl, rfl, rfl, rfl, rfl, rfl, rfl, rfl, trivial⟩
        · have hx20 := ifF hb27 hx20
          refine WO_pure tbok 3 [(2, .int .i64 p2), (3, .int .i64 p3), (4, .pointer (some ⟨b4, 0, none⟩)), (8, .int .u64 0), (9, .bool false), (10, .int .u64 s_1), (11, .int .i64 s_2), (12, .pointer (some ⟨b17, 0, none⟩)), (13, .int .i64 y_5), (15, .int .i64 y_7), (17, .slice a_p1 p1.length c_p1), (18, .int .i64 (p1.length : Int)), (19, .int .i64 s_2), (71, .bool (!y_8))] rfl ⟨rfl, rfl, rfl, rfl, rfl, rfl, rfl, rfl, rfl, rfl, rfl, rfl, rfl, rfl, trivial⟩ ?_
          refine WO_end ?_
          cases hx20
          refine WK.sub ?_ (WK.cls (fun _ h => h) hk21)
          exact ⟨rfl, rfl, rfl, rfl, rfl, rfl, rfl, rfl, rfl, rfl, rfl, rfl, rfl, rfl, trivial⟩
    · have hm8 := ifF hb14 hm8
      refine WK_exit rfl ?_
      cases hm8
      refine WK.sub ?_ (WK.cls (fun _ h => h) (hk7 (s_1, ()) (hd12 _ rfl)))
      exact ⟨rfl, rfl, rfl, trivial⟩
theorem descriptor_Describe_walk {m : Mu} {p0_0 : Int} {p0_1 : Int} {p0_2 : Int} {p0_3 : List Int} {p1 : List (Int × Int × Int × Int × Int × Int × Int × Int)} {p2 : Int} {p3 : Int} {a_p0_3 : Option Addr} {q_p0_3 c_p0_3 : Nat} {a_p1 : Option Addr} {q_p1 c_p1 : Nat} (h_p0_3 : SlR (FE (I1 .i64)) 1 m (.slice a_p0_3 q_p0_3 c_p0_3) p0_3) (h_p1 : SlR (FE T8) 8 m (.slice a_p1 q_p1 c_p1) p1) {r : Int × Int} (hm : descriptor_Describe p0_0 p0_1 p0_2 p0_3 p1 p2 p3 = some r) :
    Go.E.Spec Try.prog 15 [.agg #[.int .i64 p0_0, .int .i64 p0_1, .int .i64 p0_2, .slice a_p0_3 q_p0_3 c_p0_3], .slice a_p1 q_p1 c_p1, .int .i64 p2, .int .i64 p3] m (fun v _ _ => v = .tuple #[.int .u64 r.1, .int .i64 r.2]) := by
  refine Spec_enter Try.func15 rfl rfl rfl (fun w0 => ?_)
  refine WK.sub (e' := [(0, .agg #[.int .i64 p0_0, .int .i64 p0_1, .int .i64 p0_2, .slice a_p0_3 q_p0_3 c_p0_3]), (1, .slice a_p1 q_p1 c_p1), (2, .int .i64 p2), (3, .int .i64 p3)]) ⟨rfl, rfl, rfl, rfl, trivial⟩ ?_
  obtain rfl := SlR.qlen h_p0_3
  obtain rfl := SlR.qlen h_p1
  refine WK.sub (e' := [(0, .agg #[.int .i64 p0_0, .int .i64 p0_1, .int .i64 p0_2, .slice a_p0_3 p0_3.length c_p0_3]), (1, .slice a_p1 p1.length c_p1), (2, .int .i64 p2), (3, .int .i64 p3)]) ⟨rfl, rfl, rfl, rfl, trivial⟩ ?_
  unfold descriptor_Describe at hm
  refine WK_seq ?_
  refine WK_region ?_
  refine WO_box [.int .i64 p0_0, .int .i64 p0_1, .int .i64 p0_2, .slice a_p0_3 p0_3.length c_p0_3] rfl rfl trivial rfl rfl rfl (fun b3 => ?_)
  refine WO.cls (C' := St w0 m m [[⟨b3, 29, [.int .i64 p0_0, .int .i64 p0_1, .int .i64 p0_2, .slice a_p0_3 p0_3.length c_p0_3]⟩]]) (fun _ h => h) ?_
  refine WO_pure tbok 2 [(1, .slice a_p1 p1.length c_p1), (2, .int .i64 p2), (3, .int .i64 p3), (4, .pointer (some ⟨b3, 0, none⟩)), (8, .int .u64 0), (9, .int .i64 0)] rfl ⟨rfl, rfl, rfl, rfl, rfl, rfl, trivial⟩ ?_
  refine WO_end ?_
  refine WK_seq ?_
  refine WK_region ?_
  refine WO_loadB tbok 0 rfl rfl rfl rfl (fun _ h => h) rfl rfl ?_
  refine WO_pure tbok 1 [(1, .slice a_p1 p1.length c_p1), (2, .int .i64 p2), (3, .int .i64 p3), (8, .int .u64 0), (9, .int .i64 0), (15, .agg #[.int .i64 p0_0, .int .i64 p0_1, .int .i64 p0_2, .slice a_p0_3 p0_3.length c_p0_3]), (16, .slice a_p1 p1.length c_p1)] rfl ⟨rfl, rfl, rfl, rfl, rfl, rfl, rfl, trivial⟩ ?_
  obtain ⟨⟨y_1, y_2, y_3, y_4, y_5, y_6⟩, hc4, hm⟩ := bind_some hm
  refine WO_call2 (descriptor_opened_Q (y_1, y_2, y_3, y_4, y_5, y_6)) rfl rfl trivial rfl rfl rfl rfl ⟨36, #[], #[], rfl, callable_36, descriptor_opened_walk h_p0_3 h_p1 hc4⟩ (fun v12 m13 L11 hle14 hq => ?_)
  obtain ⟨a5, qa5, c6, a8, qa8, c9, rfl, h15, h16⟩ := hq
  obtain rfl := SlR.qlen h15
  obtain rfl := SlR.qlen h16
  refine WO.cls (C' := St w0 m m13 [[⟨b3, 29, [.int .i64 p0_0, .int .i64 p0_1, .int .i64 p0_2, .slice a_p0_3 p0_3.length c_p0_3]⟩], L11]) (fun _ h => h.sub (by simp)) ?_
  refine WO_pure tbok 3 [(1, .slice a_p1 p1.length c_p1), (2, .int .i64 p2), (3, .int .i64 p3), (8, .int .u64 0), (9, .int .i64 0), (18, .agg #[.int .i64 y_1, .int .i64 y_2, .int .i64 y_3, .slice a5 ((y_4).length) c6, .slice a8 ((y_5).length) c9]), (19, .int .i64 y_6)] rfl ⟨rfl, rfl, rfl, rfl, rfl, rfl, rfl, trivial⟩ ?_
  refine WO_alloc tbok [.int .i64 0, .int .i64 0, .int .i64 0, .slice none 0 0, .slice none 0 0] rfl rfl trivial rfl rfl rfl rfl (fun b17 => ?_)
  refine WO.cls (C' := St w0 m m13 [[⟨b3, 29, [.int .i64 p0_0, .int .i64 p0_1, .int .i64 p0_2, .slice a_p0_3 p0_3.length c_p0_3]⟩], L11, [⟨b17, 74, [.int .i64 0, .int .i64 0, .int .i64 0, .slice none 0 0, .slice none 0 0]⟩]]) (fun _ h => h) ?_
  refine WO_storeB tbok 2 [.int .i64 y_1, .int .i64 y_2, .int .i64 y_3, .slice a5 ((y_4).length) c6, .slice a8 ((y_5).length) c9] rfl rfl rfl rfl rfl rfl rfl ?_
  refine WO.cls (C' := St w0 m m13 [[⟨b3, 29, [.int .i64 p0_0, .int .i64 p0_1, .int .i64 p0_2, .slice a_p0_3 p0_3.length c_p0_3]⟩], L11, [⟨b17, 74, [.int .i64 y_1, .int .i64 y_2, .int .i64 y_3, .slice a5 ((y_4).length) c6, .slice a8 ((y_5).length) c9]⟩]]) (fun _ h => h) ?_
  refine WO_pure tbok 1 [(1, .slice a_p1 p1.length c_p1), (2, .int .i64 p2), (3, .int .i64 p3), (8, .int .u64 0), (9, .int .i64 0), (10, .pointer (some ⟨b17, 0, none⟩)), (11, .int .i64 y_6)] rfl ⟨rfl, rfl, rfl, rfl, rfl, rfl, rfl, trivial⟩ ?_
  refine WO_end ?_
  refine WK_seq ?_
  refine WK_seq ?_
  refine WK_region ?_
  refine WO_pure tbok 2 [(1, .slice a_p1 p1.length c_p1), (2, .int .i64 p2), (3, .int .i64 p3), (8, .int .u64 0), (9, .int .i64 0), (10, .pointer (some ⟨b17, 0, none⟩)), (11, .int .i64 y_6), (21, .bool (y_6 != 0))] rfl ⟨rfl, rfl, rfl, rfl, rfl, rfl, rfl, rfl, trivial⟩ ?_
  refine WO_end ?_
  refine WK_cond (b := y_6 != 0) rfl (fun hb18 => ?_) (fun hb18 => ?_)
  · have hm := ifT hb18 hm
    refine WK_seq ?_
    refine WK_region ?_
    refine WO_pure tbok 3 [(1, .slice a_p1 p1.length c_p1), (2, .int .i64 p2), (3, .int .i64 p3), (8, .int .u64 0), (9, .int .i64 y_6), (10, .pointer (some ⟨b17, 0, none⟩))] rfl ⟨rfl, rfl, rfl, rfl, rfl, rfl, trivial⟩ ?_
    refine WO_end ?_
    cases hm
    exact WK_ret (ret_out (L := []) (RLc_tmp rfl (RLc_tmp rfl RLc_nil)) (List.nil_sublist _) rfl)
  · have hm := ifF hb18 hm
    refine WK_skip ?_
    refine WK_seq ?_
    refine WK_seq ?_
    refine WK_region ?_
    refine WO_loadB tbok 2 rfl rfl rfl rfl (fun _ h => h) rfl rfl ?_
    refine WO_pure tbok 2 [(1, .slice a_p1 p1.length c_p1), (2, .int .i64 p2), (3, .int .i64 p3), (8, .int .u64 0), (9, .int .i64 0), (10, .pointer (some ⟨b17, 0, none⟩)), (23, .agg #[.int .i64 y_1, .int .i64 y_2, .int .i64 y_3, .slice a5 ((y_4).length) c6, .slice a8 ((y_5).length) c9]), (24, .int .i64 p2), (25, .int .i64 p3)] rfl ⟨rfl, rfl, rfl, rfl, rfl, rfl, rfl, rfl, rfl, trivial⟩ ?_
    obtain ⟨y_7, hc19, hm⟩ := bind_some hm
    refine WO_call0 (.bool y_7) rfl rfl trivial rfl rfl rfl rfl St_closed ⟨37, #[], #[], rfl, callable_37, fun w hw => ⟨_, hw.sat, fiducial_descriptor_image_pixel_walk h15 h16 hc19⟩⟩ ?_
    refine WO_pure tbok 1 [(1, .slice a_p1 p1.length c_p1), (2, .int .i64 p2), (3, .int .i64 p3), (8, .int .u64 0), (9, .int .i64 0), (10, .pointer (some ⟨b17, 0, none⟩)), (27, .bool (!y_7))] rfl ⟨rfl, rfl, rfl, rfl, rfl, rfl, rfl, trivial⟩ ?_
    refine WO_end ?_
    refine WK_cond (b := !y_7) rfl (fun hb20 => ?_) (fun hb20 => ?_)
    · have hm := ifT hb20 hm
      refine WK_seq ?_
      refine WK_region ?_
      refine WO_pure tbok 2 [(1, .slice a_p1 p1.length c_p1), (2, .int .i64 p2), (3, .int .i64 p3), (8, .int .u64 0), (9, .int .i64 2), (10, .pointer (some ⟨b17, 0, none⟩))] rfl ⟨rfl, rfl, rfl, rfl, rfl, rfl, trivial⟩ ?_
      refine WO_end ?_
      cases hm
      exact WK_ret (ret_out (L := []) (RLc_tmp rfl (RLc_tmp rfl RLc_nil)) (List.nil_sublist _) rfl)
    · have hm := ifF hb20 hm
      refine WK_skip ?_
      refine WK_seq ?_
      refine WK_region ?_
      refine WO_loadB tbok 2 rfl rfl rfl rfl (fun _ h => h) rfl rfl ?_
      refine WO_pure tbok 3 [(8, .int .u64 0), (9, .int .i64 0), (29, .agg #[.int .i64 y_1, .int .i64 y_2, .int .i64 y_3, .slice a5 ((y_4).length) c6, .slice a8 ((y_5).length) c9]), (30, .slice a_p1 p1.length c_p1), (31, .int .i64 p2), (32, .int .i64 p3)] rfl ⟨rfl, rfl, rfl, rfl, rfl, rfl, trivial⟩ ?_
      obtain ⟨⟨y_8, y_9⟩, hc21, hm⟩ := bind_some hm
      refine WO_call0 (.tuple #[.int .u64 y_8, .bool y_9]) rfl rfl trivial rfl rfl rfl rfl St_closed ⟨38, #[], #[], rfl, callable_38, fun w hw => ⟨_, hw.sat, fiducial_descriptor_image_word_walk h15 h16 (h_p1.mono (mono_FE _) hle14) hc21⟩⟩ ?_
      refine WO_pure tbok 5 [(8, .int .u64 0), (9, .int .i64 0), (12, .int .u64 y_8), (13, .bool y_9)] rfl ⟨rfl, rfl, rfl, rfl, trivial⟩ ?_
      refine WO_end ?_
      refine WK_seq ?_
      refine WK_seq ?_
      refine WK_region ?_
      refine WO_pure tbok 2 [(8, .int .u64 0), (9, .int .i64 0), (12, .int .u64 y_8), (37, .bool (!y_9))] rfl ⟨rfl, rfl, rfl, rfl, trivial⟩ ?_
      refine WO_end ?_
      refine WK_cond (b := !y_9) rfl (fun hb22 => ?_) (fun hb22 => ?_)
      · have hm := ifT hb22 hm
        refine WK_seq ?_
        refine WK_region ?_
        refine WO_pure tbok 2 [(8, .int .u64 0), (9, .int .i64 15), (12, .int .u64 y_8)] rfl ⟨rfl, rfl, rfl, trivial⟩ ?_
        refine WO_end ?_
        cases hm
        exact WK_ret (ret_out (L := []) (RLc_tmp rfl (RLc_tmp rfl RLc_nil)) (List.nil_sublist _) rfl)
      · have hm := ifF hb22 hm
        refine WK_skip ?_
        refine WK_seq ?_
        refine WK_region ?_
        refine WO_pure tbok 3 [(8, .int .u64 y_8), (9, .int .i64 0)] rfl ⟨rfl, rfl, trivial⟩ ?_
        refine WO_end ?_
        cases hm
        exact WK_ret (ret_out (L := []) (RLc_tmp rfl (RLc_tmp rfl RLc_nil)) (List.nil_sublist _) rfl)
end Go.Proofs.Ytdgmeplpkehdnaa
