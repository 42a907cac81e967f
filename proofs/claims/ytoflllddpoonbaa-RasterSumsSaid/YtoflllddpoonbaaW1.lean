import Derived.Test.YtoflllddpoonbaaTab
import Derived.Test.YtoflllddpoonbaaM
set_option linter.unusedVariables false
set_option maxRecDepth 100000
set_option maxHeartbeats 4000000
namespace Go.Proofs.Ytoflllddpoonbaa
open Go.E Go.RowKit
attribute [local irreducible] Go.E.WO Go.E.WK
theorem slices_IndexFunc_sint_walk {m : Mu} {p0 : List Int} {p1 : Int → Option Bool} {a_p0 : Option Addr} {q_p0 c_p0 : Nat} {p1v : Value} (h_p0 : SlR (FE (I1 .i64)) 1 m (.slice a_p0 q_p0 c_p0) p0) (hp1 : ∀ (u1 : Int), ∀ (r : Bool), p1 u1 = some r → SpecV Try.prog p1v [.int .i64 u1] m (fun v _ _ => v = .bool r)) {r : Int} (hm : slices_IndexFunc_sint p0 p1 = some r) :
    Go.E.Spec Try.prog 57 [.slice a_p0 q_p0 c_p0, p1v] m (fun v _ _ => v = .int .i64 r) := by
  refine Spec_enter Try.func57 rfl rfl rfl (fun w0 => ?_)
  refine WK.sub (e' := [(0, .slice a_p0 q_p0 c_p0), (1, p1v)]) ⟨rfl, rfl, trivial⟩ ?_
  obtain rfl := SlR.qlen h_p0
  refine WK.sub (e' := [(0, .slice a_p0 p0.length c_p0), (1, p1v)]) ⟨rfl, rfl, trivial⟩ ?_
  unfold slices_IndexFunc_sint at hm
  refine WK_seq ?_
  refine WK_region ?_
  refine WO_pure tbok 1 [(0, .slice a_p0 p0.length c_p0), (1, p1v), (4, .int .i64 0)] rfl ⟨rfl, rfl, rfl, trivial⟩ ?_
  refine WO_end ?_
  refine WK_seq ?_
  refine WK_seq ?_
  refine WK_region ?_
  refine WO_pure tbok 3 [(0, .slice a_p0 p0.length c_p0), (1, p1v), (4, .int .i64 0), (7, .int .i64 (p0.length : Int)), (8, .int .i64 0)] rfl ⟨rfl, rfl, rfl, rfl, rfl, trivial⟩ ?_
  refine WO_end ?_
  obtain ⟨x3, hx4, hm⟩ := bind_some hm
  refine WK_join (β := Unit × Unit) (fun p => Sum.inr p.1 = x3) (fun p => [(4, .int .i64 0)]) (fun p => St w0 m m []) ?_ (fun hk5 => ?_)
  · rintro ⟨⟨⟩, ⟨⟩⟩ hq11
    subst hq11
    refine WK.sub (e' := [(4, .int .i64 0)]) ⟨rfl, trivial⟩ (WK.cls (C' := St w0 m m []) (fun _ h => h) ?_)
    refine WK_seq ?_
    refine WK_region ?_
    refine WO_pure tbok 1 [(4, .int .i64 (-1))] rfl ⟨rfl, trivial⟩ ?_
    refine WO_end ?_
    cases hm
    exact WK_ret (ret_out (L := []) (RLc_tmp rfl RLc_nil) (List.nil_sublist _) rfl)
  · refine WK_block ?_
    refine WK_loop (S := Int) (G := Unit) (fun s => slices_IndexFunc_sint_s1 p0 p1 s) (fun s g => [(0, .slice a_p0 p0.length c_p0), (1, p1v), (4, .int .i64 0), (7, .int .i64 (p0.length : Int)), (8, .int .i64 s)]) (fun s g => St w0 m m []) (fun s g => True) FUEL 0 () x3 hx4 trivial ⟨rfl, rfl, rfl, rfl, rfl, trivial⟩ (fun _ h => h) ?_
    rintro s2 ⟨⟩ o7 fl8 hm6 - hn9 hd10
    have hm6 : slices_IndexFunc_sint_s1 p0 p1 s2 = some o7 := hm6
    unfold slices_IndexFunc_sint_s1 at hm6
    refine WK.sub (e' := [(0, .slice a_p0 p0.length c_p0), (1, p1v), (4, .int .i64 0), (7, .int .i64 (p0.length : Int)), (8, .int .i64 s2)]) ⟨rfl, rfl, rfl, rfl, rfl, trivial⟩ (WK.cls (C' := St w0 m m []) (fun _ h => h) ?_)
    refine WK_seq ?_
    refine WK_region ?_
    refine WO_pure tbok 1 [(0, .slice a_p0 p0.length c_p0), (1, p1v), (4, .int .i64 0), (7, .int .i64 (p0.length : Int)), (8, .int .i64 s2), (9, .bool (decide (s2 < (p0.length : Int))))] rfl ⟨rfl, rfl, rfl, rfl, rfl, rfl, trivial⟩ ?_
    refine WO_end ?_
    refine WK_seq ?_
    refine WK_cond (b := decide (s2 < (p0.length : Int))) rfl (fun hb12 => ?_) (fun hb12 => ?_)
    · have hm6 := ifT hb12 hm6
      refine WK_skip ?_
      refine WK_seq ?_
      refine WK_block ?_
      refine WK_seq ?_
      refine WK_region ?_
      refine WO_pure tbok 2 [(0, .slice a_p0 p0.length c_p0), (1, p1v), (4, .int .i64 0), (5, .int .i64 s2), (7, .int .i64 (p0.length : Int)), (8, .int .i64 s2)] rfl ⟨rfl, rfl, rfl, rfl, rfl, rfl, trivial⟩ ?_
      refine WO_end ?_
      refine WK_seq ?_
      refine WK_region ?_
      refine WO_pure tbok 3 [(0, .slice a_p0 p0.length c_p0), (1, p1v), (4, .int .i64 0), (5, .int .i64 s2), (7, .int .i64 (p0.length : Int)), (8, .int .i64 s2), (11, p1v), (12, .slice a_p0 p0.length c_p0), (13, .int .i64 s2)] rfl ⟨rfl, rfl, rfl, rfl, rfl, rfl, rfl, rfl, rfl, trivial⟩ ?_
      obtain ⟨v13, hy14, hm6⟩ := bind_some hm6
      obtain ⟨hc15, hy14⟩ := ix_some hy14
      refine WO_index tbok rfl rfl rfl rfl rfl rfl rfl rfl (SlR.addr h_p0) hc15 ?_
      refine WO_loadE tbok rfl rfl rfl rfl (fun _ h => St.sat h) h_p0 hy14 rfl ?_
      obtain ⟨y16, hc17, hm6⟩ := bind_some hm6
      obtain ⟨f0, first0, cap0, hf0, hcal0, hsp0⟩ := hp1 v13 _ hc17
      refine WO_call0 (.bool y16) rfl rfl trivial rfl rfl rfl rfl St_closed ⟨f0, first0, cap0, hf0, hcal0, fun w hw => ⟨m, hw.sat, hsp0⟩⟩ ?_
      refine WO_end ?_
      refine WK_cond (b := y16) rfl (fun hb18 => ?_) (fun hb18 => ?_)
      · have hm6 := ifT hb18 hm6
        refine WK_seq ?_
        refine WK_region ?_
        refine WO_pure tbok 2 [(0, .slice a_p0 p0.length c_p0), (1, p1v), (4, .int .i64 s2), (7, .int .i64 (p0.length : Int)), (8, .int .i64 s2)] rfl ⟨rfl, rfl, rfl, rfl, rfl, trivial⟩ ?_
        refine WO_end ?_
        cases hm6
        have hq := hd10 _ rfl
        subst hq
        have hm : some _ = some _ := hm
        cases hm
        exact WK_ret (ret_out (L := []) (RLc_tmp rfl RLc_nil) (List.nil_sublist _) rfl)
      · have hm6 := ifF hb18 hm6
        refine WK_skip ?_
        refine WK_blk ?_
        refine WK_region ?_
        refine WO_pure tbok 2 [(0, .slice a_p0 p0.length c_p0), (1, p1v), (4, .int .i64 0), (7, .int .i64 (p0.length : Int)), (8, .int .i64 (w64 (s2 + 1)))] rfl ⟨rfl, rfl, rfl, rfl, rfl, trivial⟩ ?_
        refine WO_end ?_
        cases hm6
        refine WK.sub ?_ (WK.cls (fun _ h => h) (hn9 _ () rfl trivial))
        exact ⟨rfl, rfl, rfl, rfl, rfl, trivial⟩
    · have hm6 := ifF hb12 hm6
      refine WK_exit rfl ?_
      cases hm6
      refine WK.sub ?_ (WK.cls (fun _ h => h) (hk5 ((), ()) (hd10 _ rfl)))
      exact ⟨rfl, trivial⟩
theorem slices_ContainsFunc_sint_walk {m : Mu} {p0 : List Int} {p1 : Int → Option Bool} {a_p0 : Option Addr} {q_p0 c_p0 : Nat} {p1v : Value} (h_p0 : SlR (FE (I1 .i64)) 1 m (.slice a_p0 q_p0 c_p0) p0) (hp1 : ∀ (u1 : Int), ∀ (r : Bool), p1 u1 = some r → SpecV Try.prog p1v [.int .i64 u1] m (fun v _ _ => v = .bool r)) {r : Bool} (hm : slices_ContainsFunc_sint p0 p1 = some r) :
    Go.E.Spec Try.prog 29 [.slice a_p0 q_p0 c_p0, p1v] m (fun v _ _ => v = .bool r) := by
  refine Spec_enter Try.func29 rfl rfl rfl (fun w0 => ?_)
  refine WK.sub (e' := [(0, .slice a_p0 q_p0 c_p0), (1, p1v)]) ⟨rfl, rfl, trivial⟩ ?_
  obtain rfl := SlR.qlen h_p0
  refine WK.sub (e' := [(0, .slice a_p0 p0.length c_p0), (1, p1v)]) ⟨rfl, rfl, trivial⟩ ?_
  unfold slices_ContainsFunc_sint at hm
  refine WK_seq ?_
  refine WK_region ?_
  refine WO_pure tbok 1 [(0, .slice a_p0 p0.length c_p0), (1, p1v), (4, .bool false)] rfl ⟨rfl, rfl, rfl, trivial⟩ ?_
  refine WO_end ?_
  refine WK_seq ?_
  refine WK_region ?_
  refine WO_pure tbok 2 [(4, .bool false), (5, .slice a_p0 p0.length c_p0), (6, p1v)] rfl ⟨rfl, rfl, rfl, trivial⟩ ?_
  obtain ⟨y2, hc3, hm⟩ := bind_some hm
  refine WO_call0 (.int .i64 y2) rfl rfl trivial rfl rfl rfl rfl St_closed ⟨57, #[], #[], rfl, callable_57, fun w hw => ⟨_, hw.sat, slices_IndexFunc_sint_walk h_p0 hp1 hc3⟩⟩ ?_
  refine WO_pure tbok 2 [(4, .bool (decide (0 ≤ y2)))] rfl ⟨rfl, trivial⟩ ?_
  refine WO_end ?_
  cases hm
  exact WK_ret (ret_out (L := []) (RLc_tmp rfl RLc_nil) (List.nil_sublist _) rfl)
theorem raster_Check_c1_walk {m : Mu} {p0 : Int} {q0_0 : Int} {q0_1 : Int} {q0_2 : Int} {q0_3 : List Int} {a_q0_3 : Option Addr} {q_q0_3 c_q0_3 : Nat} {b_q0 : Nat} (hb_q0 : m b_q0 = some (Ent.obj ⟨b_q0, 24, [.int .i64 q0_0, .int .i64 q0_1, .int .i64 q0_2, .slice a_q0_3 q_q0_3 c_q0_3]⟩)) (h_q0_3 : SlR (FE (I1 .i64)) 1 m (.slice a_q0_3 q_q0_3 c_q0_3) q0_3) {r : Bool} (hm : raster_Check_c1 p0 q0_0 q0_1 q0_2 q0_3 = some r) :
    Go.E.Spec Try.prog 52 [.int .i64 p0, .pointer (some ⟨b_q0, 0, none⟩)] m (fun v _ _ => v = .bool r) := by
  refine Spec_enter Try.func52 rfl rfl rfl (fun w0 => ?_)
  refine WK.sub (e' := [(0, .int .i64 p0), (1, .pointer (some ⟨b_q0, 0, none⟩))]) ⟨rfl, rfl, trivial⟩ ?_
  obtain rfl := SlR.qlen h_q0_3
  refine WK.sub (e' := [(0, .int .i64 p0), (1, .pointer (some ⟨b_q0, 0, none⟩))]) ⟨rfl, rfl, trivial⟩ ?_
  unfold raster_Check_c1 at hm
  refine WK_seq ?_
  refine WK_region ?_
  refine WO_pure tbok 1 [(0, .int .i64 p0), (1, .pointer (some ⟨b_q0, 0, none⟩)), (3, .bool false)] rfl ⟨rfl, rfl, rfl, trivial⟩ ?_
  refine WO_end ?_
  refine WK_seq ?_
  refine WK_region ?_
  refine WO_pure tbok 3 [(0, .int .i64 p0), (1, .pointer (some ⟨b_q0, 0, none⟩)), (3, .bool false), (6, .bool (decide (p0 < 0)))] rfl ⟨rfl, rfl, rfl, rfl, trivial⟩ ?_
  refine WO_split (d := 6) (b := decide (p0 < 0)) rfl (fun hb2 => ?_) (fun hb2 => ?_)
  · have hm := ifT hb2 hm
    refine WO_pure tbok 6 [(3, .bool true)] rfl ⟨rfl, trivial⟩ ?_
    refine WO_end ?_
    cases hm
    exact WK_ret (ret_out (L := []) (RLc_tmp rfl RLc_nil) (List.nil_sublist _) rfl)
  · have hm := ifF hb2 hm
    refine WO_pure tbok 2 [(3, .bool false), (6, .bool false), (7, .int .i64 p0), (8, .pointer (some ⟨b_q0, 2, none⟩))] rfl ⟨rfl, rfl, rfl, rfl, trivial⟩ ?_
    refine WO_loadM tbok rfl rfl rfl rfl (fun _ h => St.sat h) hb_q0 rfl ?_
    refine WO_pure tbok 3 [(3, .bool (decide (q0_2 < p0)))] rfl ⟨rfl, trivial⟩ ?_
    refine WO_end ?_
    cases hm
    exact WK_ret (ret_out (L := []) (RLc_tmp rfl RLc_nil) (List.nil_sublist _) rfl)
theorem raster_Check_walk {m : Mu} {p0_0 : Int} {p0_1 : Int} {p0_2 : Int} {p0_3 : List Int} {a_p0_3 : Option Addr} {q_p0_3 c_p0_3 : Nat} (h_p0_3 : SlR (FE (I1 .i64)) 1 m (.slice a_p0_3 q_p0_3 c_p0_3) p0_3) {r : Int} (hm : raster_Check p0_0 p0_1 p0_2 p0_3 = some r) :
    Go.E.Spec Try.prog 20 [.agg #[.int .i64 p0_0, .int .i64 p0_1, .int .i64 p0_2, .slice a_p0_3 q_p0_3 c_p0_3]] m (fun v _ _ => v = .int .i64 r) := by
  refine Spec_enter Try.func20 rfl rfl rfl (fun w0 => ?_)
  refine WK.sub (e' := [(0, .agg #[.int .i64 p0_0, .int .i64 p0_1, .int .i64 p0_2, .slice a_p0_3 q_p0_3 c_p0_3])]) ⟨rfl, trivial⟩ ?_
  obtain rfl := SlR.qlen h_p0_3
  refine WK.sub (e' := [(0, .agg #[.int .i64 p0_0, .int .i64 p0_1, .int .i64 p0_2, .slice a_p0_3 p0_3.length c_p0_3])]) ⟨rfl, trivial⟩ ?_
  unfold raster_Check at hm
  refine WK_seq ?_
  refine WK_region ?_
  refine WO_box [.int .i64 p0_0, .int .i64 p0_1, .int .i64 p0_2, .slice a_p0_3 p0_3.length c_p0_3] rfl rfl trivial rfl rfl rfl (fun b2 => ?_)
  refine WO.cls (C' := St w0 m m [[⟨b2, 24, [.int .i64 p0_0, .int .i64 p0_1, .int .i64 p0_2, .slice a_p0_3 p0_3.length c_p0_3]⟩]]) (fun _ h => h) ?_
  refine WO_pure tbok 1 [(1, .pointer (some ⟨b2, 0, none⟩)), (2, .int .i64 0)] rfl ⟨rfl, rfl, trivial⟩ ?_
  refine WO_end ?_
  refine WK_seq ?_
  refine WK_seq ?_
  obtain ⟨s3, hx4, hm⟩ := bind_some hm
  refine WK_meet [(1, .pointer (some ⟨b2, 0, none⟩)), (2, .int .i64 0), (34, .bool s3)] (St w0 m m [[⟨b2, 24, [.int .i64 p0_0, .int .i64 p0_1, .int .i64 p0_2, .slice a_p0_3 p0_3.length c_p0_3]⟩]]) ?_ (fun hk5 => ?_)
  · refine WK_cond (b := s3) rfl (fun hb6 => ?_) (fun hb6 => ?_)
    · have hm := ifT hb6 hm
      refine WK_seq ?_
      refine WK_region ?_
      refine WO_pure tbok 1 [(1, .pointer (some ⟨b2, 0, none⟩)), (2, .int .i64 1)] rfl ⟨rfl, rfl, trivial⟩ ?_
      refine WO_end ?_
      cases hm
      exact WK_ret (ret_out (L := []) (RLc_tmp rfl RLc_nil) (List.nil_sublist _) rfl)
    · have hm := ifF hb6 hm
      refine WK_skip ?_
      refine WK_seq ?_
      refine WK_seq ?_
      refine WK_region ?_
      refine WO_pure tbok 1 [(1, .pointer (some ⟨b2, 0, none⟩)), (2, .int .i64 0), (35, .pointer (some ⟨b2, 3, none⟩))] rfl ⟨rfl, rfl, rfl, trivial⟩ ?_
      refine WO_loadB tbok 0 rfl rfl rfl rfl (fun _ h => h) rfl rfl ?_
      refine WO_pure tbok 1 [(2, .int .i64 0), (36, .slice a_p0_3 p0_3.length c_p0_3), (37, .func (.func 52) #[] #[.pointer (some ⟨b2, 0, none⟩)])] rfl ⟨rfl, rfl, rfl, trivial⟩ ?_
      obtain ⟨y8, hc9, hm⟩ := bind_some hm
      refine WO_call0 (.bool y8) rfl rfl trivial rfl rfl rfl rfl St_closed ⟨29, #[], #[], rfl, callable_29, fun w hw => ⟨_, hw.satV, slices_ContainsFunc_sint_walk (h_p0_3.mono (mono_FE _) hw.leV) (fun z7 _ h => specV_cap callable_52 (raster_Check_c1_walk (hw.memV (i := 0) rfl (List.mem_singleton.2 rfl)) (h_p0_3.mono (mono_FE _) hw.leV) h)) hc9⟩⟩ ?_
      refine WO_end ?_
      refine WK_cond (b := y8) rfl (fun hb10 => ?_) (fun hb10 => ?_)
      · have hm := ifT hb10 hm
        refine WK_seq ?_
        refine WK_region ?_
        refine WO_pure tbok 1 [(2, .int .i64 1)] rfl ⟨rfl, trivial⟩ ?_
        refine WO_end ?_
        cases hm
        exact WK_ret (ret_out (L := []) (RLc_tmp rfl RLc_nil) (List.nil_sublist _) rfl)
      · have hm := ifF hb10 hm
        refine WK_skip ?_
        refine WK_seq ?_
        refine WK_region ?_
        refine WO_pure tbok 1 [(2, .int .i64 0)] rfl ⟨rfl, trivial⟩ ?_
        refine WO_end ?_
        cases hm
        exact WK_ret (ret_out (L := []) (RLc_tmp rfl RLc_nil) (List.nil_sublist _) rfl)
  · refine WK_region ?_
    refine WO_pure tbok 1 [(1, .pointer (some ⟨b2, 0, none⟩)), (2, .int .i64 0), (3, .pointer (some ⟨b2, 0, none⟩))] rfl ⟨rfl, rfl, rfl, trivial⟩ ?_
    refine WO_loadB tbok 0 rfl rfl rfl rfl (fun _ h => h) rfl rfl ?_
    refine WO_pure tbok 1 [(1, .pointer (some ⟨b2, 0, none⟩)), (2, .int .i64 0), (4, .int .i64 p0_0), (5, .pointer (some ⟨b2, 1, none⟩))] rfl ⟨rfl, rfl, rfl, rfl, trivial⟩ ?_
    refine WO_loadB tbok 0 rfl rfl rfl rfl (fun _ h => h) rfl rfl ?_
    refine WO_pure tbok 1 [(1, .pointer (some ⟨b2, 0, none⟩)), (2, .int .i64 0), (4, .int .i64 p0_0), (6, .int .i64 p0_1), (7, .pointer (some ⟨b2, 2, none⟩))] rfl ⟨rfl, rfl, rfl, rfl, rfl, trivial⟩ ?_
    refine WO_loadB tbok 0 rfl rfl rfl rfl (fun _ h => h) rfl rfl ?_
    refine WO_pure tbok 3 [(1, .pointer (some ⟨b2, 0, none⟩)), (2, .int .i64 0), (11, .bool (decide ((if p0_2 < (if p0_1 < p0_0 then p0_1 else p0_0) then p0_2 else (if p0_1 < p0_0 then p0_1 else p0_0)) < 1)))] rfl ⟨rfl, rfl, rfl, trivial⟩ ?_
    refine WO_split (d := 11) (b := decide ((if p0_2 < (if p0_1 < p0_0 then p0_1 else p0_0) then p0_2 else (if p0_1 < p0_0 then p0_1 else p0_0)) < 1)) rfl (fun hb11 => ?_) (fun hb11 => ?_)
    · have hx4 := ifT hb11 hx4
      refine WO_pure tbok 23 [(1, .pointer (some ⟨b2, 0, none⟩)), (2, .int .i64 0), (34, .bool true)] rfl ⟨rfl, rfl, rfl, trivial⟩ ?_
      refine WO_end ?_
      cases hx4
      refine WK.sub ?_ (WK.cls (fun _ h => h) hk5)
      exact ⟨rfl, rfl, rfl, trivial⟩
    · have hx4 := ifF hb11 hx4
      refine WO_pure tbok 1 [(1, .pointer (some ⟨b2, 0, none⟩)), (2, .int .i64 0), (11, .bool false), (12, .pointer (some ⟨b2, 0, none⟩))] rfl ⟨rfl, rfl, rfl, rfl, trivial⟩ ?_
      refine WO_loadB tbok 0 rfl rfl rfl rfl (fun _ h => h) rfl rfl ?_
      refine WO_pure tbok 1 [(1, .pointer (some ⟨b2, 0, none⟩)), (2, .int .i64 0), (11, .bool false), (13, .int .i64 p0_0), (14, .pointer (some ⟨b2, 1, none⟩))] rfl ⟨rfl, rfl, rfl, rfl, rfl, trivial⟩ ?_
      refine WO_loadB tbok 0 rfl rfl rfl rfl (fun _ h => h) rfl rfl ?_
      refine WO_pure tbok 4 [(1, .pointer (some ⟨b2, 0, none⟩)), (2, .int .i64 0), (19, .bool (decide (64 < (if p0_0 < p0_1 then p0_1 else p0_0))))] rfl ⟨rfl, rfl, rfl, trivial⟩ ?_
      refine WO_split (d := 19) (b := decide (64 < (if p0_0 < p0_1 then p0_1 else p0_0))) rfl (fun hb12 => ?_) (fun hb12 => ?_)
      · have hx4 := ifT hb12 hx4
        refine WO_pure tbok 15 [(1, .pointer (some ⟨b2, 0, none⟩)), (2, .int .i64 0), (34, .bool true)] rfl ⟨rfl, rfl, rfl, trivial⟩ ?_
        refine WO_end ?_
        cases hx4
        refine WK.sub ?_ (WK.cls (fun _ h => h) hk5)
        exact ⟨rfl, rfl, rfl, trivial⟩
      · have hx4 := ifF hb12 hx4
        refine WO_pure tbok 1 [(1, .pointer (some ⟨b2, 0, none⟩)), (2, .int .i64 0), (19, .bool false), (20, .pointer (some ⟨b2, 2, none⟩))] rfl ⟨rfl, rfl, rfl, rfl, trivial⟩ ?_
        refine WO_loadB tbok 0 rfl rfl rfl rfl (fun _ h => h) rfl rfl ?_
        refine WO_pure tbok 3 [(1, .pointer (some ⟨b2, 0, none⟩)), (2, .int .i64 0), (24, .bool (decide (65535 < p0_2)))] rfl ⟨rfl, rfl, rfl, trivial⟩ ?_
        refine WO_split (d := 24) (b := decide (65535 < p0_2)) rfl (fun hb13 => ?_) (fun hb13 => ?_)
        · have hx4 := ifT hb13 hx4
          refine WO_pure tbok 10 [(1, .pointer (some ⟨b2, 0, none⟩)), (2, .int .i64 0), (34, .bool true)] rfl ⟨rfl, rfl, rfl, trivial⟩ ?_
          refine WO_end ?_
          cases hx4
          refine WK.sub ?_ (WK.cls (fun _ h => h) hk5)
          exact ⟨rfl, rfl, rfl, trivial⟩
        · have hx4 := ifF hb13 hx4
          refine WO_pure tbok 1 [(1, .pointer (some ⟨b2, 0, none⟩)), (2, .int .i64 0), (24, .bool false), (25, .pointer (some ⟨b2, 3, none⟩))] rfl ⟨rfl, rfl, rfl, rfl, trivial⟩ ?_
          refine WO_loadB tbok 0 rfl rfl rfl rfl (fun _ h => h) rfl rfl ?_
          refine WO_pure tbok 2 [(1, .pointer (some ⟨b2, 0, none⟩)), (2, .int .i64 0), (24, .bool false), (27, .int .i64 (p0_3.length : Int)), (28, .pointer (some ⟨b2, 0, none⟩))] rfl ⟨rfl, rfl, rfl, rfl, rfl, trivial⟩ ?_
          refine WO_loadB tbok 0 rfl rfl rfl rfl (fun _ h => h) rfl rfl ?_
          refine WO_pure tbok 1 [(1, .pointer (some ⟨b2, 0, none⟩)), (2, .int .i64 0), (24, .bool false), (27, .int .i64 (p0_3.length : Int)), (29, .int .i64 p0_0), (30, .pointer (some ⟨b2, 1, none⟩))] rfl ⟨rfl, rfl, rfl, rfl, rfl, rfl, trivial⟩ ?_
          refine WO_loadB tbok 0 rfl rfl rfl rfl (fun _ h => h) rfl rfl ?_
          refine WO_pure tbok 3 [(1, .pointer (some ⟨b2, 0, none⟩)), (2, .int .i64 0), (34, .bool ((p0_3.length : Int) != (w64 (p0_0 * p0_1))))] rfl ⟨rfl, rfl, rfl, trivial⟩ ?_
          refine WO_end ?_
          cases hx4
          refine WK.sub ?_ (WK.cls (fun _ h => h) hk5)
          exact ⟨rfl, rfl, rfl, trivial⟩
def raster_made_Q (r : Int × Int × Int × List Int) : Value → List Ent → Prop := fun v L => ∃ (a0 : Option Addr) (q0 c0 : Nat), v = .agg #[.int .i64 r.1, .int .i64 r.2.1, .int .i64 r.2.2.1, .slice a0 q0 c0] ∧ OwnE 3 1 (I1 .i64) (.slice a0 q0 c0) r.2.2.2 L
theorem raster_made_walk {m : Mu} {p0 : Int} {p1 : Int} {p2 : Int} {p3 : Int → Int → Option Int} {p3v : Value} (hp3 : ∀ (u1 : Int), ∀ (u2 : Int), ∀ (r : Int), p3 u1 u2 = some r → SpecV Try.prog p3v [.int .i64 u1, .int .i64 u2] m (fun v _ _ => v = .int .i64 r)) {r : Int × Int × Int × List Int} (hm : raster_made p0 p1 p2 p3 = some r) :
    Go.E.Spec Try.prog 48 [.int .i64 p0, .int .i64 p1, .int .i64 p2, p3v] m (fun v _ L => raster_made_Q r v L) := by
  refine Spec_enter Try.func48 rfl rfl rfl (fun w0 => ?_)
  refine WK.sub (e' := [(0, .int .i64 p0), (1, .int .i64 p1), (2, .int .i64 p2), (3, p3v)]) ⟨rfl, rfl, rfl, rfl, trivial⟩ ?_
  refine WK.sub (e' := [(0, .int .i64 p0), (1, .int .i64 p1), (2, .int .i64 p2), (3, p3v)]) ⟨rfl, rfl, rfl, rfl, trivial⟩ ?_
  unfold raster_made at hm
  refine WK_seq ?_
  refine WK_region ?_
  refine WO_alloc tbok [.int .i64 0, .int .i64 0, .int .i64 0, .slice none 0 0] rfl rfl trivial rfl rfl rfl rfl (fun b1 => ?_)
  refine WO.cls (C' := St w0 m m [[⟨b1, 24, [.int .i64 0, .int .i64 0, .int .i64 0, .slice none 0 0]⟩]]) (fun _ h => h) ?_
  refine WO_end ?_
  refine WK_seq ?_
  refine WK_region ?_
  refine WO_pure tbok 6 [(0, .int .i64 p0), (1, .int .i64 p1), (3, p3v), (8, .pointer (some ⟨b1, 0, none⟩)), (12, .int .i64 p0), (13, .int .i64 p1), (14, .int .i64 p2), (17, .int .i64 (w64 (p0 * p1)))] rfl ⟨rfl, rfl, rfl, rfl, rfl, rfl, rfl, rfl, trivial⟩ ?_
  obtain ⟨hc2, hm⟩ := chk_some hm
  refine WO_make (E := (I1 .i64)) tbok (fun _ => rfl) (by decide) (0 : Int) rfl rfl trivial rfl rfl rfl rfl rfl rfl rfl rfl rfl (mk_ok (by decide) hc2) (fun b3 c4 L5 hL5 => ?_)
  refine WO.cls (C' := St w0 m m [[⟨b1, 24, [.int .i64 0, .int .i64 0, .int .i64 0, .slice none 0 0]⟩], L5]) (fun _ h => h) ?_
  refine WO_pure tbok 1 [(0, .int .i64 p0), (1, .int .i64 p1), (3, p3v), (8, .pointer (some ⟨b1, 0, none⟩)), (19, .agg #[.int .i64 p0, .int .i64 p1, .int .i64 p2, .slice (some ⟨b3, 0, none⟩) (([] : List Int).length) c4])] rfl ⟨rfl, rfl, rfl, rfl, rfl, trivial⟩ ?_
  refine WO_alloc tbok [.int .i64 0, .int .i64 0, .int .i64 0, .slice none 0 0] rfl rfl trivial rfl rfl rfl rfl (fun b7 => ?_)
  refine WO.cls (C' := St w0 m m [[⟨b1, 24, [.int .i64 0, .int .i64 0, .int .i64 0, .slice none 0 0]⟩], L5, [⟨b7, 24, [.int .i64 0, .int .i64 0, .int .i64 0, .slice none 0 0]⟩]]) (fun _ h => h) ?_
  refine WO_storeB tbok 2 [.int .i64 p0, .int .i64 p1, .int .i64 p2, .slice (some ⟨b3, 0, none⟩) (([] : List Int).length) c4] rfl rfl rfl rfl rfl rfl rfl ?_
  refine WO.cls (C' := St w0 m m [[⟨b1, 24, [.int .i64 0, .int .i64 0, .int .i64 0, .slice none 0 0]⟩], L5, [⟨b7, 24, [.int .i64 p0, .int .i64 p1, .int .i64 p2, .slice (some ⟨b3, 0, none⟩) (([] : List Int).length) c4]⟩]]) (fun _ h => h) ?_
  refine WO_end ?_
  refine WK_seq ?_
  refine WK_seq ?_
  refine WK_region ?_
  refine WO_pure tbok 2 [(0, .int .i64 p0), (3, p3v), (8, .pointer (some ⟨b1, 0, none⟩)), (9, .pointer (some ⟨b7, 0, none⟩)), (20, .int .i64 p1), (21, .int .i64 0)] rfl ⟨rfl, rfl, rfl, rfl, rfl, rfl, trivial⟩ ?_
  refine WO_end ?_
  obtain ⟨x21, hx22, hm⟩ := bind_some hm
  refine WK_join (β := (List Int) × (Option Addr × Nat × Nat × List Ent)) (fun p => p.1 = x21 ∧ OwnE 3 1 (I1 .i64) (.slice p.2.1 p.2.2.1 p.2.2.2.1) p.1 p.2.2.2.2) (fun p => [(8, .pointer (some ⟨b1, 0, none⟩)), (9, .pointer (some ⟨b7, 0, none⟩))]) (fun p => St w0 m m [[⟨b1, 24, [.int .i64 0, .int .i64 0, .int .i64 0, .slice none 0 0]⟩], p.2.2.2.2, [⟨b7, 24, [.int .i64 p0, .int .i64 p1, .int .i64 p2, .slice p.2.1 p.2.2.1 p.2.2.2.1]⟩]]) ?_ (fun hk23 => ?_)
  · rintro ⟨l15, ⟨a18, q19, c20, L17⟩⟩ ⟨hq29, hL17⟩
    subst hq29
    have hqq : q19 = l15.length := OwnE.qlen hL17
    subst hqq
    refine WK.sub (e' := [(8, .pointer (some ⟨b1, 0, none⟩)), (9, .pointer (some ⟨b7, 0, none⟩))]) ⟨rfl, rfl, trivial⟩ (WK.cls (C' := St w0 m m [[⟨b1, 24, [.int .i64 0, .int .i64 0, .int .i64 0, .slice none 0 0]⟩], L17, [⟨b7, 24, [.int .i64 p0, .int .i64 p1, .int .i64 p2, .slice a18 ((l15).length) c20]⟩]]) (fun _ h => h) ?_)
    refine WK_seq ?_
    refine WK_region ?_
    refine WO_loadB tbok 2 rfl rfl rfl rfl (fun _ h => h) rfl rfl ?_
    refine WO_storeB tbok 0 [.int .i64 p0, .int .i64 p1, .int .i64 p2, .slice a18 ((l15).length) c20] rfl rfl rfl rfl rfl rfl rfl ?_
    refine WO.cls (C' := St w0 m m [[⟨b1, 24, [.int .i64 p0, .int .i64 p1, .int .i64 p2, .slice a18 ((l15).length) c20]⟩], L17, [⟨b7, 24, [.int .i64 p0, .int .i64 p1, .int .i64 p2, .slice a18 ((l15).length) c20]⟩]]) (fun _ h => h) ?_
    refine WO_end ?_
    cases hm
    exact WK_ret (ret_out (L := L17) (RLc_cell tbok 0 rfl rfl rfl RLc_nil) (seg_sub 1 rfl) ⟨a18, ((l15).length), c20, rfl, hL17⟩)
  · refine WK_block ?_
    refine WK_loop (S := List Int × Int) (G := Option Addr × Nat × Nat × List Ent) (fun s => raster_made_s1 p0 p1 p3 s.1 s.2) (fun s g => [(0, .int .i64 p0), (3, p3v), (8, .pointer (some ⟨b1, 0, none⟩)), (9, .pointer (some ⟨b7, 0, none⟩)), (20, .int .i64 p1), (21, .int .i64 s.2)]) (fun s g => St w0 m m [[⟨b1, 24, [.int .i64 0, .int .i64 0, .int .i64 0, .slice none 0 0]⟩], g.2.2.2, [⟨b7, 24, [.int .i64 p0, .int .i64 p1, .int .i64 p2, .slice g.1 g.2.1 g.2.2.1]⟩]]) (fun s g => OwnE 3 1 (I1 .i64) (.slice g.1 g.2.1 g.2.2.1) s.1 g.2.2.2) FUEL (([] : List Int), 0) (some ⟨b3, 0, none⟩, ([] : List Int).length, c4, L5) x21 hx22 hL5 ⟨rfl, rfl, rfl, rfl, rfl, rfl, trivial⟩ (fun _ h => h) ?_
    rintro ⟨l8, s14⟩ ⟨a11, q12, c13, L10⟩ o25 fl26 hm24 hL10 hn27 hd28
    have hm24 : raster_made_s1 p0 p1 p3 l8 s14 = some o25 := hm24
    unfold raster_made_s1 at hm24
    have hqq : q12 = l8.length := OwnE.qlen hL10
    subst hqq
    refine WK.sub (e' := [(0, .int .i64 p0), (3, p3v), (8, .pointer (some ⟨b1, 0, none⟩)), (9, .pointer (some ⟨b7, 0, none⟩)), (20, .int .i64 p1), (21, .int .i64 s14)]) ⟨rfl, rfl, rfl, rfl, rfl, rfl, trivial⟩ (WK.cls (C' := St w0 m m [[⟨b1, 24, [.int .i64 0, .int .i64 0, .int .i64 0, .slice none 0 0]⟩], L10, [⟨b7, 24, [.int .i64 p0, .int .i64 p1, .int .i64 p2, .slice a11 ((l8).length) c13]⟩]]) (fun _ h => h) ?_)
    refine WK_seq ?_
    refine WK_region ?_
    refine WO_pure tbok 1 [(0, .int .i64 p0), (3, p3v), (8, .pointer (some ⟨b1, 0, none⟩)), (9, .pointer (some ⟨b7, 0, none⟩)), (20, .int .i64 p1), (21, .int .i64 s14), (22, .bool (decide (s14 < p1)))] rfl ⟨rfl, rfl, rfl, rfl, rfl, rfl, rfl, trivial⟩ ?_
    refine WO_end ?_
    refine WK_seq ?_
    refine WK_cond (b := decide (s14 < p1)) rfl (fun hb30 => ?_) (fun hb30 => ?_)
    · have hm24 := ifT hb30 hm24
      refine WK_skip ?_
      refine WK_seq ?_
      refine WK_block ?_
      refine WK_seq ?_
      refine WK_region ?_
      refine WO_pure tbok 2 [(0, .int .i64 p0), (3, p3v), (8, .pointer (some ⟨b1, 0, none⟩)), (9, .pointer (some ⟨b7, 0, none⟩)), (10, .int .i64 s14), (20, .int .i64 p1), (21, .int .i64 s14)] rfl ⟨rfl, rfl, rfl, rfl, rfl, rfl, rfl, trivial⟩ ?_
      refine WO_end ?_
      refine WK_seq ?_
      refine WK_region ?_
      refine WO_pure tbok 2 [(0, .int .i64 p0), (3, p3v), (8, .pointer (some ⟨b1, 0, none⟩)), (9, .pointer (some ⟨b7, 0, none⟩)), (10, .int .i64 s14), (20, .int .i64 p1), (21, .int .i64 s14), (24, .int .i64 p0), (25, .int .i64 0)] rfl ⟨rfl, rfl, rfl, rfl, rfl, rfl, rfl, rfl, rfl, trivial⟩ ?_
      refine WO_end ?_
      obtain ⟨x44, hx45, hm24⟩ := bind_some hm24
      refine WK_join (β := (List Int) × (Option Addr × Nat × Nat × List Ent)) (fun p => p.1 = x44 ∧ OwnE 3 1 (I1 .i64) (.slice p.2.1 p.2.2.1 p.2.2.2.1) p.1 p.2.2.2.2) (fun p => [(0, .int .i64 p0), (3, p3v), (8, .pointer (some ⟨b1, 0, none⟩)), (9, .pointer (some ⟨b7, 0, none⟩)), (20, .int .i64 p1), (21, .int .i64 s14)]) (fun p => St w0 m m [[⟨b1, 24, [.int .i64 0, .int .i64 0, .int .i64 0, .slice none 0 0]⟩], p.2.2.2.2, [⟨b7, 24, [.int .i64 p0, .int .i64 p1, .int .i64 p2, .slice p.2.1 p.2.2.1 p.2.2.2.1]⟩]]) ?_ (fun hk46 => ?_)
      · rintro ⟨l38, ⟨a41, q42, c43, L40⟩⟩ ⟨hq52, hL40⟩
        subst hq52
        have hqq : q42 = l38.length := OwnE.qlen hL40
        subst hqq
        refine WK.sub (e' := [(0, .int .i64 p0), (3, p3v), (8, .pointer (some ⟨b1, 0, none⟩)), (9, .pointer (some ⟨b7, 0, none⟩)), (20, .int .i64 p1), (21, .int .i64 s14)]) ⟨rfl, rfl, rfl, rfl, rfl, rfl, trivial⟩ (WK.cls (C' := St w0 m m [[⟨b1, 24, [.int .i64 0, .int .i64 0, .int .i64 0, .slice none 0 0]⟩], L40, [⟨b7, 24, [.int .i64 p0, .int .i64 p1, .int .i64 p2, .slice a41 ((l38).length) c43]⟩]]) (fun _ h => h) ?_)
        refine WK_blk ?_
        refine WK_region ?_
        refine WO_pure tbok 2 [(0, .int .i64 p0), (3, p3v), (8, .pointer (some ⟨b1, 0, none⟩)), (9, .pointer (some ⟨b7, 0, none⟩)), (20, .int .i64 p1), (21, .int .i64 (w64 (s14 + 1)))] rfl ⟨rfl, rfl, rfl, rfl, rfl, rfl, trivial⟩ ?_
        refine WO_end ?_
        cases hm24
        refine WK.sub ?_ (WK.cls (fun _ h => h) (hn27 _ (a41, (l38).length, c43, L40) rfl hL40))
        exact ⟨rfl, rfl, rfl, rfl, rfl, rfl, trivial⟩
      · refine WK_block ?_
        refine WK_loop (S := List Int × Int) (G := Option Addr × Nat × Nat × List Ent) (fun s => raster_made_s2 p0 p3 s14 s.1 s.2) (fun s g => [(0, .int .i64 p0), (3, p3v), (8, .pointer (some ⟨b1, 0, none⟩)), (9, .pointer (some ⟨b7, 0, none⟩)), (10, .int .i64 s14), (20, .int .i64 p1), (21, .int .i64 s14), (24, .int .i64 p0), (25, .int .i64 s.2)]) (fun s g => St w0 m m [[⟨b1, 24, [.int .i64 0, .int .i64 0, .int .i64 0, .slice none 0 0]⟩], g.2.2.2, [⟨b7, 24, [.int .i64 p0, .int .i64 p1, .int .i64 p2, .slice g.1 g.2.1 g.2.2.1]⟩]]) (fun s g => OwnE 3 1 (I1 .i64) (.slice g.1 g.2.1 g.2.2.1) s.1 g.2.2.2) FUEL (l8, 0) (a11, (l8).length, c13, L10) x44 hx45 hL10 ⟨rfl, rfl, rfl, rfl, rfl, rfl, rfl, rfl, rfl, trivial⟩ (fun _ h => h) ?_
        rintro ⟨l31, s37⟩ ⟨a34, q35, c36, L33⟩ o48 fl49 hm47 hL33 hn50 hd51
        have hm47 : raster_made_s2 p0 p3 s14 l31 s37 = some o48 := hm47
        unfold raster_made_s2 at hm47
        have hqq : q35 = l31.length := OwnE.qlen hL33
        subst hqq
        refine WK.sub (e' := [(0, .int .i64 p0), (3, p3v), (8, .pointer (some ⟨b1, 0, none⟩)), (9, .pointer (some ⟨b7, 0, none⟩)), (10, .int .i64 s14), (20, .int .i64 p1), (21, .int .i64 s14), (24, .int .i64 p0), (25, .int .i64 s37)]) ⟨rfl, rfl, rfl, rfl, rfl, rfl, rfl, rfl, rfl, trivial⟩ (WK.cls (C' := St w0 m m [[⟨b1, 24, [.int .i64 0, .int .i64 0, .int .i64 0, .slice none 0 0]⟩], L33, [⟨b7, 24, [.int .i64 p0, .int .i64 p1, .int .i64 p2, .slice a34 ((l31).length) c36]⟩]]) (fun _ h => h) ?_)
        refine WK_seq ?_
        refine WK_region ?_
        refine WO_pure tbok 1 [(0, .int .i64 p0), (3, p3v), (8, .pointer (some ⟨b1, 0, none⟩)), (9, .pointer (some ⟨b7, 0, none⟩)), (10, .int .i64 s14), (20, .int .i64 p1), (21, .int .i64 s14), (24, .int .i64 p0), (25, .int .i64 s37), (26, .bool (decide (s37 < p0)))] rfl ⟨rfl, rfl, rfl, rfl, rfl, rfl, rfl, rfl, rfl, rfl, trivial⟩ ?_
        refine WO_end ?_
        refine WK_seq ?_
        refine WK_cond (b := decide (s37 < p0)) rfl (fun hb53 => ?_) (fun hb53 => ?_)
        · have hm47 := ifT hb53 hm47
          refine WK_skip ?_
          refine WK_seq ?_
          refine WK_block ?_
          refine WK_seq ?_
          refine WK_region ?_
          refine WO_pure tbok 2 [(0, .int .i64 p0), (3, p3v), (8, .pointer (some ⟨b1, 0, none⟩)), (9, .pointer (some ⟨b7, 0, none⟩)), (10, .int .i64 s14), (11, .int .i64 s37), (20, .int .i64 p1), (21, .int .i64 s14), (24, .int .i64 p0), (25, .int .i64 s37)] rfl ⟨rfl, rfl, rfl, rfl, rfl, rfl, rfl, rfl, rfl, rfl, trivial⟩ ?_
          refine WO_end ?_
          refine WK_draw 7 [0, 1, 2, 3, 4, 5, 6] follows_ok (by kernel_rfl) St_closed ?_
          refine WO_pure tbok 1 [(0, .int .i64 p0), (3, p3v), (8, .pointer (some ⟨b1, 0, none⟩)), (9, .pointer (some ⟨b7, 0, none⟩)), (10, .int .i64 s14), (11, .int .i64 s37), (20, .int .i64 p1), (21, .int .i64 s14), (24, .int .i64 p0), (25, .int .i64 s37), (28, .pointer (some ⟨b7, 3, none⟩))] rfl ⟨rfl, rfl, rfl, rfl, rfl, rfl, rfl, rfl, rfl, rfl, rfl, trivial⟩ ?_
          refine WO_loadB tbok 2 rfl rfl rfl rfl (fun _ h => h) rfl rfl ?_
          refine WO_pure tbok 3 [(0, .int .i64 p0), (3, p3v), (8, .pointer (some ⟨b1, 0, none⟩)), (9, .pointer (some ⟨b7, 0, none⟩)), (10, .int .i64 s14), (20, .int .i64 p1), (21, .int .i64 s14), (24, .int .i64 p0), (25, .int .i64 s37), (29, .slice a34 ((l31).length) c36), (30, p3v), (31, .int .i64 s37), (32, .int .i64 s14)] rfl ⟨rfl, rfl, rfl, rfl, rfl, rfl, rfl, rfl, rfl, rfl, rfl, rfl, rfl, trivial⟩ ?_
          obtain ⟨y54, hc55, hm47⟩ := bind_some hm47
          obtain ⟨f0, first0, cap0, hf0, hcal0, hsp0⟩ := hp3 s37 s14 _ hc55
          refine WO_call0 (.int .i64 y54) rfl rfl St_closed rfl rfl rfl rfl St_closed ⟨f0, first0, cap0, hf0, hcal0, fun w hw => ⟨m, hw.sat, hsp0⟩⟩ ?_
          refine WO_bslice (E := (I1 .i64)) tbok (fun _ => rfl) (by decide) [.int .i64 y54] ([y54] : List Int) rfl rfl St_closed rfl rfl rfl rfl rfl rfl rfl rfl rfl rfl rfl rfl (fun b56 hb56 => ?_)
          refine WO.cls (C' := St w0 m m [[⟨b1, 24, [.int .i64 0, .int .i64 0, .int .i64 0, .slice none 0 0]⟩], L33, [⟨b7, 24, [.int .i64 p0, .int .i64 p1, .int .i64 p2, .slice a34 ((l31).length) c36]⟩], [⟨b56, 3, ([y54] : List Int).flatMap (I1 .i64)⟩]]) (fun _ h => h) ?_
          refine WO_tail ?_
          obtain ⟨hc58, hm47⟩ := chk_some hm47
          refine WO_append (E := (I1 .i64)) tbok (fun _ => rfl) 1 ([y54] : List Int) (fun _ _ => rfl) rfl rfl rfl rfl rfl rfl rfl rfl rfl rfl rfl rfl hL33 rfl (src_seg (j := 3) rfl) (ap_ok (by decide) hc58) (ap_max hc58) (fun a59 c60 L61 hL61 => ?_)
          refine WO.cls (C' := St w0 m m [[⟨b1, 24, [.int .i64 0, .int .i64 0, .int .i64 0, .slice none 0 0]⟩], L61, [⟨b7, 24, [.int .i64 p0, .int .i64 p1, .int .i64 p2, .slice a34 ((l31).length) c36]⟩], [⟨b56, 3, ([y54] : List Int).flatMap (I1 .i64)⟩]]) (fun _ h => h) ?_
          refine WO_pure tbok 1 [(0, .int .i64 p0), (3, p3v), (8, .pointer (some ⟨b1, 0, none⟩)), (9, .pointer (some ⟨b7, 0, none⟩)), (10, .int .i64 s14), (20, .int .i64 p1), (21, .int .i64 s14), (24, .int .i64 p0), (25, .int .i64 s37), (35, .slice a59 ((l31 ++ ([y54] : List Int)).length) c60), (36, .pointer (some ⟨b7, 3, none⟩))] rfl ⟨rfl, rfl, rfl, rfl, rfl, rfl, rfl, rfl, rfl, rfl, rfl, trivial⟩ ?_
          refine WO_storeB tbok 2 [.int .i64 p0, .int .i64 p1, .int .i64 p2, .slice a59 ((l31 ++ ([y54] : List Int)).length) c60] rfl rfl rfl rfl rfl rfl rfl ?_
          refine WO.cls (C' := St w0 m m [[⟨b1, 24, [.int .i64 0, .int .i64 0, .int .i64 0, .slice none 0 0]⟩], L61, [⟨b7, 24, [.int .i64 p0, .int .i64 p1, .int .i64 p2, .slice a59 ((l31 ++ ([y54] : List Int)).length) c60]⟩], [⟨b56, 3, ([y54] : List Int).flatMap (I1 .i64)⟩]]) (fun _ h => h) ?_
          refine WO_end ?_
          refine WK_blk ?_
          refine WK_region ?_
          refine WO_pure tbok 2 [(0, .int .i64 p0), (3, p3v), (8, .pointer (some ⟨b1, 0, none⟩)), (9, .pointer (some ⟨b7, 0, none⟩)), (10, .int .i64 s14), (20, .int .i64 p1), (21, .int .i64 s14), (24, .int .i64 p0), (25, .int .i64 (w64 (s37 + 1)))] rfl ⟨rfl, rfl, rfl, rfl, rfl, rfl, rfl, rfl, rfl, trivial⟩ ?_
          refine WO_end ?_
          cases hm47
          refine WK.sub ?_ (WK.cls (fun _ h => St.take 3 h) (hn50 _ (a59, (l31 ++ ([y54] : List Int)).length, c60, L61) rfl hL61))
          exact ⟨rfl, rfl, rfl, rfl, rfl, rfl, rfl, rfl, rfl, trivial⟩
        · have hm47 := ifF hb53 hm47
          refine WK_exit rfl ?_
          cases hm47
          refine WK.sub ?_ (WK.cls (fun _ h => h) (hk46 (l31, (a34, (l31).length, c36, L33)) ⟨(hd51 _ rfl), hL33⟩))
          exact ⟨rfl, rfl, rfl, rfl, rfl, rfl, trivial⟩
    · have hm24 := ifF hb30 hm24
      refine WK_exit rfl ?_
      cases hm24
      refine WK.sub ?_ (WK.cls (fun _ h => h) (hk23 (l8, (a11, (l8).length, c13, L10)) ⟨(hd28 _ rfl), hL10⟩))
      exact ⟨rfl, rfl, trivial⟩
theorem raster_at_walk {m : Mu} {p0_0 : Int} {p0_1 : Int} {p0_2 : Int} {p0_3 : List Int} {p1 : Int} {p2 : Int} {a_p0_3 : Option Addr} {q_p0_3 c_p0_3 : Nat} (h_p0_3 : SlR (FE (I1 .i64)) 1 m (.slice a_p0_3 q_p0_3 c_p0_3) p0_3) {r : Int} (hm : raster_at p0_0 p0_1 p0_2 p0_3 p1 p2 = some r) :
    Go.E.Spec Try.prog 50 [.agg #[.int .i64 p0_0, .int .i64 p0_1, .int .i64 p0_2, .slice a_p0_3 q_p0_3 c_p0_3], .int .i64 p1, .int .i64 p2] m (fun v _ _ => v = .int .i64 r) := by
  refine Spec_enter Try.func50 rfl rfl rfl (fun w0 => ?_)
  refine WK.sub (e' := [(0, .agg #[.int .i64 p0_0, .int .i64 p0_1, .int .i64 p0_2, .slice a_p0_3 q_p0_3 c_p0_3]), (1, .int .i64 p1), (2, .int .i64 p2)]) ⟨rfl, rfl, rfl, trivial⟩ ?_
  obtain rfl := SlR.qlen h_p0_3
  refine WK.sub (e' := [(0, .agg #[.int .i64 p0_0, .int .i64 p0_1, .int .i64 p0_2, .slice a_p0_3 p0_3.length c_p0_3]), (1, .int .i64 p1), (2, .int .i64 p2)]) ⟨rfl, rfl, rfl, trivial⟩ ?_
  unfold raster_at at hm
  refine WK_seq ?_
  refine WK_region ?_
  refine WO_box [.int .i64 p0_0, .int .i64 p0_1, .int .i64 p0_2, .slice a_p0_3 p0_3.length c_p0_3] rfl rfl trivial rfl rfl rfl (fun b2 => ?_)
  refine WO.cls (C' := St w0 m m [[⟨b2, 24, [.int .i64 p0_0, .int .i64 p0_1, .int .i64 p0_2, .slice a_p0_3 p0_3.length c_p0_3]⟩]]) (fun _ h => h) ?_
  refine WO_pure tbok 1 [(1, .int .i64 p1), (2, .int .i64 p2), (3, .pointer (some ⟨b2, 0, none⟩)), (6, .int .i64 0)] rfl ⟨rfl, rfl, rfl, rfl, trivial⟩ ?_
  refine WO_end ?_
  refine WK_seq ?_
  refine WK_region ?_
  refine WO_pure tbok 1 [(1, .int .i64 p1), (2, .int .i64 p2), (3, .pointer (some ⟨b2, 0, none⟩)), (6, .int .i64 0), (7, .pointer (some ⟨b2, 3, none⟩))] rfl ⟨rfl, rfl, rfl, rfl, rfl, trivial⟩ ?_
  refine WO_loadB tbok 0 rfl rfl rfl rfl (fun _ h => h) rfl rfl ?_
  refine WO_pure tbok 2 [(1, .int .i64 p1), (6, .int .i64 0), (8, .slice a_p0_3 p0_3.length c_p0_3), (9, .int .i64 p2), (10, .pointer (some ⟨b2, 0, none⟩))] rfl ⟨rfl, rfl, rfl, rfl, rfl, trivial⟩ ?_
  refine WO_loadB tbok 0 rfl rfl rfl rfl (fun _ h => h) rfl rfl ?_
  refine WO_pure tbok 3 [(6, .int .i64 0), (8, .slice a_p0_3 p0_3.length c_p0_3), (14, .int .i64 (w64 ((w64 (p2 * p0_0)) + p1)))] rfl ⟨rfl, rfl, rfl, trivial⟩ ?_
  obtain ⟨v3, hy4, hm⟩ := bind_some hm
  obtain ⟨hc5, hy4⟩ := ix_some hy4
  refine WO_index tbok rfl rfl rfl rfl rfl rfl rfl rfl (SlR.addr h_p0_3) hc5 ?_
  refine WO_loadE tbok rfl rfl rfl rfl (fun _ h => St.sat h) h_p0_3 hy4 rfl ?_
  refine WO_pure tbok 1 [(6, .int .i64 v3)] rfl ⟨rfl, trivial⟩ ?_
  refine WO_end ?_
  cases hm
  exact WK_ret (ret_out (L := []) (RLc_tmp rfl RLc_nil) (List.nil_sublist _) rfl)
theorem raster_Turn_c1_walk {m : Mu} {p0 : Int} {p1 : Int} {q0_0 : Int} {q0_1 : Int} {q0_2 : Int} {q0_3 : List Int} {a_q0_3 : Option Addr} {q_q0_3 c_q0_3 : Nat} {b_q0 : Nat} (hb_q0 : m b_q0 = some (Ent.obj ⟨b_q0, 24, [.int .i64 q0_0, .int .i64 q0_1, .int .i64 q0_2, .slice a_q0_3 q_q0_3 c_q0_3]⟩)) (h_q0_3 : SlR (FE (I1 .i64)) 1 m (.slice a_q0_3 q_q0_3 c_q0_3) q0_3) {r : Int} (hm : raster_Turn_c1 p0 p1 q0_0 q0_1 q0_2 q0_3 = some r) :
    Go.E.Spec Try.prog 49 [.int .i64 p0, .int .i64 p1, .pointer (some ⟨b_q0, 0, none⟩)] m (fun v _ _ => v = .int .i64 r) := by
  refine Spec_enter Try.func49 rfl rfl rfl (fun w0 => ?_)
  refine WK.sub (e' := [(0, .int .i64 p0), (1, .int .i64 p1), (2, .pointer (some ⟨b_q0, 0, none⟩))]) ⟨rfl, rfl, rfl, trivial⟩ ?_
  obtain rfl := SlR.qlen h_q0_3
  refine WK.sub (e' := [(0, .int .i64 p0), (1, .int .i64 p1), (2, .pointer (some ⟨b_q0, 0, none⟩))]) ⟨rfl, rfl, rfl, trivial⟩ ?_
  unfold raster_Turn_c1 at hm
  refine WK_seq ?_
  refine WK_region ?_
  refine WO_pure tbok 1 [(0, .int .i64 p0), (1, .int .i64 p1), (2, .pointer (some ⟨b_q0, 0, none⟩)), (5, .int .i64 0)] rfl ⟨rfl, rfl, rfl, rfl, trivial⟩ ?_
  refine WO_end ?_
  refine WK_seq ?_
  refine WK_region ?_
  refine WO_loadM tbok rfl rfl rfl rfl (fun _ h => St.sat h) hb_q0 rfl ?_
  refine WO_pure tbok 1 [(0, .int .i64 p0), (1, .int .i64 p1), (5, .int .i64 0), (6, .agg #[.int .i64 q0_0, .int .i64 q0_1, .int .i64 q0_2, .slice a_q0_3 q0_3.length c_q0_3]), (7, .pointer (some ⟨b_q0, 0, none⟩))] rfl ⟨rfl, rfl, rfl, rfl, rfl, trivial⟩ ?_
  refine WO_loadM tbok rfl rfl rfl rfl (fun _ h => St.sat h) hb_q0 rfl ?_
  refine WO_pure tbok 4 [(5, .int .i64 0), (6, .agg #[.int .i64 q0_0, .int .i64 q0_1, .int .i64 q0_2, .slice a_q0_3 q0_3.length c_q0_3]), (11, .int .i64 (w64 ((w64 (q0_0 - 1)) - p1))), (12, .int .i64 p0)] rfl ⟨rfl, rfl, rfl, rfl, trivial⟩ ?_
  obtain ⟨y2, hc3, hm⟩ := bind_some hm
  refine WO_call0 (.int .i64 y2) rfl rfl trivial rfl rfl rfl rfl St_closed ⟨50, #[], #[], rfl, callable_50, fun w hw => ⟨_, hw.sat, raster_at_walk h_q0_3 hc3⟩⟩ ?_
  refine WO_pure tbok 1 [(5, .int .i64 y2)] rfl ⟨rfl, trivial⟩ ?_
  refine WO_end ?_
  cases hm
  exact WK_ret (ret_out (L := []) (RLc_tmp rfl RLc_nil) (List.nil_sublist _) rfl)
def raster_Turn_Q (r : Int × Int × Int × List Int × Int) : Value → List Ent → Prop := fun v L => ∃ (a0 : Option Addr) (q0 c0 : Nat), v = .tuple #[.agg #[.int .i64 r.1, .int .i64 r.2.1, .int .i64 r.2.2.1, .slice a0 q0 c0], .int .i64 r.2.2.2.2] ∧ OwnE 3 1 (I1 .i64) (.slice a0 q0 c0) r.2.2.2.1 L
theorem raster_Turn_walk {m : Mu} {p0_0 : Int} {p0_1 : Int} {p0_2 : Int} {p0_3 : List Int} {a_p0_3 : Option Addr} {q_p0_3 c_p0_3 : Nat} (h_p0_3 : SlR (FE (I1 .i64)) 1 m (.slice a_p0_3 q_p0_3 c_p0_3) p0_3) {r : Int × Int × Int × List Int × Int} (hm : raster_Turn p0_0 p0_1 p0_2 p0_3 = some r) :
    Go.E.Spec Try.prog 13 [.agg #[.int .i64 p0_0, .int .i64 p0_1, .int .i64 p0_2, .slice a_p0_3 q_p0_3 c_p0_3]] m (fun v _ L => raster_Turn_Q r v L) := by
  refine Spec_enter Try.func13 rfl rfl rfl (fun w0 => ?_)
  refine WK.sub (e' := [(0, .agg #[.int .i64 p0_0, .int .i64 p0_1, .int .i64 p0_2, .slice a_p0_3 q_p0_3 c_p0_3])]) ⟨rfl, trivial⟩ ?_
  obtain rfl := SlR.qlen h_p0_3
  refine WK.sub (e' := [(0, .agg #[.int .i64 p0_0, .int .i64 p0_1, .int .i64 p0_2, .slice a_p0_3 p0_3.length c_p0_3])]) ⟨rfl, trivial⟩ ?_
  unfold raster_Turn at hm
  refine WK_seq ?_
  refine WK_region ?_
  refine WO_box [.int .i64 p0_0, .int .i64 p0_1, .int .i64 p0_2, .slice a_p0_3 p0_3.length c_p0_3] rfl rfl trivial rfl rfl rfl (fun b2 => ?_)
  refine WO.cls (C' := St w0 m m [[⟨b2, 24, [.int .i64 p0_0, .int .i64 p0_1, .int .i64 p0_2, .slice a_p0_3 p0_3.length c_p0_3]⟩]]) (fun _ h => h) ?_
  refine WO_alloc tbok [.int .i64 0, .int .i64 0, .int .i64 0, .slice none 0 0] rfl rfl trivial rfl rfl rfl rfl (fun b3 => ?_)
  refine WO.cls (C' := St w0 m m [[⟨b2, 24, [.int .i64 p0_0, .int .i64 p0_1, .int .i64 p0_2, .slice a_p0_3 p0_3.length c_p0_3]⟩], [⟨b3, 24, [.int .i64 0, .int .i64 0, .int .i64 0, .slice none 0 0]⟩]]) (fun _ h => h) ?_
  refine WO_pure tbok 1 [(1, .pointer (some ⟨b2, 0, none⟩)), (2, .pointer (some ⟨b3, 0, none⟩)), (3, .int .i64 0)] rfl ⟨rfl, rfl, rfl, trivial⟩ ?_
  refine WO_end ?_
  refine WK_seq ?_
  refine WK_seq ?_
  refine WK_region ?_
  refine WO_loadB tbok 0 rfl rfl rfl rfl (fun _ h => h) rfl rfl ?_
  obtain ⟨y4, hc5, hm⟩ := bind_some hm
  refine WO_call0 (.int .i64 y4) rfl rfl trivial rfl rfl rfl rfl St_closed ⟨20, #[], #[], rfl, callable_20, fun w hw => ⟨_, hw.sat, raster_Check_walk h_p0_3 hc5⟩⟩ ?_
  refine WO_pure tbok 1 [(1, .pointer (some ⟨b2, 0, none⟩)), (2, .pointer (some ⟨b3, 0, none⟩)), (3, .int .i64 0), (4, .int .i64 y4)] rfl ⟨rfl, rfl, rfl, rfl, trivial⟩ ?_
  refine WO_end ?_
  refine WK_seq ?_
  refine WK_region ?_
  refine WO_pure tbok 2 [(1, .pointer (some ⟨b2, 0, none⟩)), (2, .pointer (some ⟨b3, 0, none⟩)), (3, .int .i64 0), (4, .int .i64 y4), (8, .bool (y4 != 0))] rfl ⟨rfl, rfl, rfl, rfl, rfl, trivial⟩ ?_
  refine WO_end ?_
  refine WK_cond (b := y4 != 0) rfl (fun hb6 => ?_) (fun hb6 => ?_)
  · have hm := ifT hb6 hm
    refine WK_seq ?_
    refine WK_region ?_
    refine WO_pure tbok 2 [(1, .pointer (some ⟨b2, 0, none⟩)), (2, .pointer (some ⟨b3, 0, none⟩)), (3, .int .i64 0), (9, .agg #[.int .i64 0, .int .i64 0, .int .i64 0, .slice none 0 0]), (10, .int .i64 y4)] rfl ⟨rfl, rfl, rfl, rfl, rfl, trivial⟩ ?_
    refine WO_storeB tbok 1 [.int .i64 0, .int .i64 0, .int .i64 0, .slice none 0 0] rfl rfl rfl rfl rfl rfl rfl ?_
    refine WO.cls (C' := St w0 m m [[⟨b2, 24, [.int .i64 p0_0, .int .i64 p0_1, .int .i64 p0_2, .slice a_p0_3 p0_3.length c_p0_3]⟩], [⟨b3, 24, [.int .i64 0, .int .i64 0, .int .i64 0, .slice none 0 0]⟩]]) (fun _ h => h) ?_
    refine WO_pure tbok 1 [(1, .pointer (some ⟨b2, 0, none⟩)), (2, .pointer (some ⟨b3, 0, none⟩)), (3, .int .i64 y4)] rfl ⟨rfl, rfl, rfl, trivial⟩ ?_
    refine WO_end ?_
    cases hm
    exact WK_ret (ret_out (L := []) (RLc_cell tbok 1 rfl rfl rfl (RLc_tmp rfl RLc_nil)) (List.nil_sublist _) ⟨none, 0, 0, rfl, (OwnE.nil none)⟩)
  · have hm := ifF hb6 hm
    refine WK_skip ?_
    refine WK_seq ?_
    refine WK_region ?_
    refine WO_pure tbok 1 [(1, .pointer (some ⟨b2, 0, none⟩)), (2, .pointer (some ⟨b3, 0, none⟩)), (3, .int .i64 0), (11, .pointer (some ⟨b2, 1, none⟩))] rfl ⟨rfl, rfl, rfl, rfl, trivial⟩ ?_
    refine WO_loadB tbok 0 rfl rfl rfl rfl (fun _ h => h) rfl rfl ?_
    refine WO_pure tbok 1 [(1, .pointer (some ⟨b2, 0, none⟩)), (2, .pointer (some ⟨b3, 0, none⟩)), (3, .int .i64 0), (12, .int .i64 p0_1), (13, .pointer (some ⟨b2, 0, none⟩))] rfl ⟨rfl, rfl, rfl, rfl, rfl, trivial⟩ ?_
    refine WO_loadB tbok 0 rfl rfl rfl rfl (fun _ h => h) rfl rfl ?_
    refine WO_pure tbok 1 [(1, .pointer (some ⟨b2, 0, none⟩)), (2, .pointer (some ⟨b3, 0, none⟩)), (3, .int .i64 0), (12, .int .i64 p0_1), (14, .int .i64 p0_0), (15, .pointer (some ⟨b2, 2, none⟩))] rfl ⟨rfl, rfl, rfl, rfl, rfl, rfl, trivial⟩ ?_
    refine WO_loadB tbok 0 rfl rfl rfl rfl (fun _ h => h) rfl rfl ?_
    refine WO_pure tbok 1 [(2, .pointer (some ⟨b3, 0, none⟩)), (3, .int .i64 0), (12, .int .i64 p0_1), (14, .int .i64 p0_0), (16, .int .i64 p0_2), (17, .func (.func 49) #[] #[.pointer (some ⟨b2, 0, none⟩)])] rfl ⟨rfl, rfl, rfl, rfl, rfl, rfl, trivial⟩ ?_
    obtain ⟨⟨y9, y10, y11, y12⟩, hc13, hm⟩ := bind_some hm
    refine WO_call1 (raster_made_Q (y9, y10, y11, y12)) rfl rfl trivial rfl rfl rfl rfl ⟨48, #[], #[], rfl, callable_48, fun w hw => ⟨_, hw.satV, raster_made_walk (fun z7 z8 _ h => specV_cap callable_49 (raster_Turn_c1_walk (hw.memV (i := 0) rfl (List.mem_singleton.2 rfl)) (h_p0_3.mono (mono_FE _) hw.leV) h)) hc13⟩⟩ (fun v18 L17 hq => ?_)
    obtain ⟨a14, qa14, c15, rfl, hL17⟩ := hq
    obtain rfl := OwnE.qlen hL17
    refine WO.cls (C' := St w0 m m [[⟨b2, 24, [.int .i64 p0_0, .int .i64 p0_1, .int .i64 p0_2, .slice a_p0_3 p0_3.length c_p0_3]⟩], [⟨b3, 24, [.int .i64 0, .int .i64 0, .int .i64 0, .slice none 0 0]⟩], L17]) (fun _ h => h) ?_
    refine WO_storeB tbok 1 [.int .i64 y9, .int .i64 y10, .int .i64 y11, .slice a14 ((y12).length) c15] rfl rfl rfl rfl rfl rfl rfl ?_
    refine WO.cls (C' := St w0 m m [[⟨b2, 24, [.int .i64 p0_0, .int .i64 p0_1, .int .i64 p0_2, .slice a_p0_3 p0_3.length c_p0_3]⟩], [⟨b3, 24, [.int .i64 y9, .int .i64 y10, .int .i64 y11, .slice a14 ((y12).length) c15]⟩], L17]) (fun _ h => h) ?_
    refine WO_pure tbok 1 [(2, .pointer (some ⟨b3, 0, none⟩)), (3, .int .i64 0)] rfl ⟨rfl, rfl, trivial⟩ ?_
    refine WO_end ?_
    cases hm
    exact WK_ret (ret_out (L := L17) (RLc_cell tbok 1 rfl rfl rfl (RLc_tmp rfl RLc_nil)) (seg_sub 2 rfl) ⟨a14, ((y12).length), c15, rfl, hL17⟩)
def raster_Integral_Q (r : List (List Int) × Int) : Value → Mu → List Ent → Prop := fun v m _ => ∃ (a0 : Option Addr) (q0 c0 : Nat), v = .tuple #[.slice a0 q0 c0, .int .i64 r.2] ∧ SlR (RowE (FE (I1 .i64)) 1) 1 m (.slice a0 q0 c0) r.1
theorem raster_Integral_walk {m : Mu} {p0_0 : Int} {p0_1 : Int} {p0_2 : Int} {p0_3 : List Int} {a_p0_3 : Option Addr} {q_p0_3 c_p0_3 : Nat} (h_p0_3 : SlR (FE (I1 .i64)) 1 m (.slice a_p0_3 q_p0_3 c_p0_3) p0_3) {r : List (List Int) × Int} (hm : raster_Integral p0_0 p0_1 p0_2 p0_3 = some r) :
    Go.E.Spec Try.prog 32 [.agg #[.int .i64 p0_0, .int .i64 p0_1, .int .i64 p0_2, .slice a_p0_3 q_p0_3 c_p0_3]] m (raster_Integral_Q r) := by
  refine Spec_enter Try.func32 rfl rfl rfl (fun w0 => ?_)
  refine WK.sub (e' := [(0, .agg #[.int .i64 p0_0, .int .i64 p0_1, .int .i64 p0_2, .slice a_p0_3 q_p0_3 c_p0_3])]) ⟨rfl, trivial⟩ ?_
  obtain rfl := SlR.qlen h_p0_3
  refine WK.sub (e' := [(0, .agg #[.int .i64 p0_0, .int .i64 p0_1, .int .i64 p0_2, .slice a_p0_3 p0_3.length c_p0_3])]) ⟨rfl, trivial⟩ ?_
  unfold raster_Integral at hm
  refine WK_seq ?_
  refine WK_region ?_
  refine WO_box [.int .i64 p0_0, .int .i64 p0_1, .int .i64 p0_2, .slice a_p0_3 p0_3.length c_p0_3] rfl rfl trivial rfl rfl rfl (fun b2 => ?_)
  refine WO.cls (C' := St w0 m m [[⟨b2, 24, [.int .i64 p0_0, .int .i64 p0_1, .int .i64 p0_2, .slice a_p0_3 p0_3.length c_p0_3]⟩]]) (fun _ h => h) ?_
  refine WO_pure tbok 2 [(1, .pointer (some ⟨b2, 0, none⟩)), (2, .slice none 0 0), (3, .int .i64 0)] rfl ⟨rfl, rfl, rfl, trivial⟩ ?_
  refine WO_end ?_
  refine WK_seq ?_
  refine WK_seq ?_
  refine WK_region ?_
  refine WO_loadB tbok 0 rfl rfl rfl rfl (fun _ h => h) rfl rfl ?_
  obtain ⟨y3, hc4, hm⟩ := bind_some hm
  refine WO_call0 (.int .i64 y3) rfl rfl trivial rfl rfl rfl rfl St_closed ⟨20, #[], #[], rfl, callable_20, fun w hw => ⟨_, hw.sat, raster_Check_walk h_p0_3 hc4⟩⟩ ?_
  refine WO_pure tbok 1 [(1, .pointer (some ⟨b2, 0, none⟩)), (2, .slice none 0 0), (3, .int .i64 0), (4, .int .i64 y3)] rfl ⟨rfl, rfl, rfl, rfl, trivial⟩ ?_
  refine WO_end ?_
  refine WK_seq ?_
  refine WK_region ?_
  refine WO_pure tbok 2 [(1, .pointer (some ⟨b2, 0, none⟩)), (2, .slice none 0 0), (3, .int .i64 0), (4, .int .i64 y3), (11, .bool (y3 != 0))] rfl ⟨rfl, rfl, rfl, rfl, rfl, trivial⟩ ?_
  refine WO_end ?_
  refine WK_cond (b := y3 != 0) rfl (fun hb5 => ?_) (fun hb5 => ?_)
  · have hm := ifT hb5 hm
    refine WK_seq ?_
    refine WK_region ?_
    refine WO_pure tbok 3 [(1, .pointer (some ⟨b2, 0, none⟩)), (2, .slice none 0 0), (3, .int .i64 y3)] rfl ⟨rfl, rfl, rfl, trivial⟩ ?_
    refine WO_end ?_
    cases hm
    exact WK_ret (ret_out (L := []) (RLc_tmp rfl (RLc_tmp rfl RLc_nil)) (List.nil_sublist _) ⟨none, 0, 0, rfl, SlR_nil⟩)
  · have hm := ifF hb5 hm
    refine WK_skip ?_
    refine WK_seq ?_
    refine WK_region ?_
    refine WO_pure tbok 1 [(1, .pointer (some ⟨b2, 0, none⟩)), (2, .slice none 0 0), (3, .int .i64 0), (13, .pointer (some ⟨b2, 1, none⟩))] rfl ⟨rfl, rfl, rfl, rfl, trivial⟩ ?_
    refine WO_loadB tbok 0 rfl rfl rfl rfl (fun _ h => h) rfl rfl ?_
    refine WO_pure tbok 1 [(1, .pointer (some ⟨b2, 0, none⟩)), (2, .slice none 0 0), (3, .int .i64 0), (15, .int .i64 (w64 (p0_1 + 1)))] rfl ⟨rfl, rfl, rfl, rfl, trivial⟩ ?_
    obtain ⟨hc6, hm⟩ := chk_some hm
    refine WO_makeT (E := (I1 .i64)) (k := 1) (T0 := 22) (T1 := 3) tbok rfl rfl trivial rfl rfl rfl rfl rfl rfl rfl rfl rfl rfl (mk_ok (by decide) hc6) (fun b7 c8 L9 hL9 => ?_)
    refine WO.cls (C' := St w0 m m [[⟨b2, 24, [.int .i64 p0_0, .int .i64 p0_1, .int .i64 p0_2, .slice a_p0_3 p0_3.length c_p0_3]⟩], L9]) (fun _ h => h) ?_
    refine WO_pure tbok 1 [(1, .pointer (some ⟨b2, 0, none⟩)), (2, .slice none 0 0), (3, .int .i64 0), (5, .slice (some ⟨b7, 0, none⟩) ((List.replicate (w64 (p0_1 + 1) : Int).toNat ([] : List Int)).length) c8)] rfl ⟨rfl, rfl, rfl, rfl, trivial⟩ ?_
    refine WO_end ?_
    refine WK_seq ?_
    refine WK_seq ?_
    refine WK_region ?_
    refine WO_pure tbok 3 [(1, .pointer (some ⟨b2, 0, none⟩)), (2, .slice none 0 0), (3, .int .i64 0), (5, .slice (some ⟨b7, 0, none⟩) ((List.replicate (w64 (p0_1 + 1) : Int).toNat ([] : List Int)).length) c8), (18, .int .i64 ((List.replicate (w64 (p0_1 + 1) : Int).toNat ([] : List Int)).length : Int)), (19, .int .i64 0)] rfl ⟨rfl, rfl, rfl, rfl, rfl, rfl, trivial⟩ ?_
    refine WO_end ?_
    obtain ⟨x20, hx21, hm⟩ := bind_some hm
    refine WK_join (β := (List (List Int)) × (List Value × List Ent)) (fun p => p.1 = x20 ∧ OwnT 22 3 1 (I1 .i64) (.slice (some ⟨b7, 0, none⟩) ((List.replicate (w64 (p0_1 + 1) : Int).toNat ([] : List Int)).length) c8) p.2.1 p.1 p.2.2) (fun p => [(2, .slice none 0 0), (3, .int .i64 0), (5, .slice (some ⟨b7, 0, none⟩) ((List.replicate (w64 (p0_1 + 1) : Int).toNat ([] : List Int)).length) c8)]) (fun p => St w0 m m [[⟨b2, 24, [.int .i64 p0_0, .int .i64 p0_1, .int .i64 p0_2, .slice a_p0_3 p0_3.length c_p0_3]⟩], p.2.2]) ?_ (fun hk22 => ?_)
    · rintro ⟨l16, ⟨vs19, L18⟩⟩ ⟨hq28, hL18⟩
      subst hq28
      refine WK.sub (e' := [(2, .slice none 0 0), (3, .int .i64 0), (5, .slice (some ⟨b7, 0, none⟩) ((List.replicate (w64 (p0_1 + 1) : Int).toNat ([] : List Int)).length) c8)]) ⟨rfl, rfl, rfl, trivial⟩ (WK.cls (C' := St w0 m m [[⟨b2, 24, [.int .i64 p0_0, .int .i64 p0_1, .int .i64 p0_2, .slice a_p0_3 p0_3.length c_p0_3]⟩], L18]) (fun _ h => h) ?_)
      refine WK_seq ?_
      refine WK_region ?_
      refine WO_pure tbok 3 [(2, .slice (some ⟨b7, 0, none⟩) ((List.replicate (w64 (p0_1 + 1) : Int).toNat ([] : List Int)).length) c8), (3, .int .i64 0)] rfl ⟨rfl, rfl, trivial⟩ ?_
      refine WO_end ?_
      cases hm
      refine WK_freeze 1 rfl (fun m29 hle30 hmm31 => ?_)
      refine WK.cls (C' := St w0 m m29 [[⟨b2, 24, [.int .i64 p0_0, .int .i64 p0_1, .int .i64 p0_2, .slice a_p0_3 p0_3.length c_p0_3]⟩], []]) (fun _ h => h) ?_
      exact WK_ret (ret_out (L := []) (RLc_tmp rfl (RLc_tmp rfl RLc_nil)) (List.nil_sublist _) ⟨(some ⟨b7, 0, none⟩), ((List.replicate (w64 (p0_1 + 1) : Int).toNat ([] : List Int)).length), c8, rfl, (OwnT.rd (E := (I1 .i64)) (k := 1) (fun _ => rfl) hL18 hmm31)⟩)
    · refine WK_block ?_
      refine WK_loop (S := List (List Int) × Int) (G := List Value × List Ent) (fun s => raster_Integral_s1 p0_0 p0_1 p0_2 p0_3 s.1 s.2) (fun s g => [(1, .pointer (some ⟨b2, 0, none⟩)), (2, .slice none 0 0), (3, .int .i64 0), (5, .slice (some ⟨b7, 0, none⟩) ((List.replicate (w64 (p0_1 + 1) : Int).toNat ([] : List Int)).length) c8), (18, .int .i64 ((List.replicate (w64 (p0_1 + 1) : Int).toNat ([] : List Int)).length : Int)), (19, .int .i64 s.2)]) (fun s g => St w0 m m [[⟨b2, 24, [.int .i64 p0_0, .int .i64 p0_1, .int .i64 p0_2, .slice a_p0_3 p0_3.length c_p0_3]⟩], g.2]) (fun s g => OwnT 22 3 1 (I1 .i64) (.slice (some ⟨b7, 0, none⟩) ((List.replicate (w64 (p0_1 + 1) : Int).toNat ([] : List Int)).length) c8) g.1 s.1 g.2) FUEL ((List.replicate (w64 (p0_1 + 1) : Int).toNat ([] : List Int)), 0) ((List.replicate (w64 (p0_1 + 1) : Int).toNat (Value.slice none 0 0)), L9) x20 hx21 hL9 ⟨rfl, rfl, rfl, rfl, rfl, rfl, trivial⟩ (fun _ h => h) ?_
      rintro ⟨l11, s15⟩ ⟨vs14, L13⟩ o24 fl25 hm23 hL13 hn26 hd27
      have hm23 : raster_Integral_s1 p0_0 p0_1 p0_2 p0_3 l11 s15 = some o24 := hm23
      unfold raster_Integral_s1 at hm23
      refine WK.sub (e' := [(1, .pointer (some ⟨b2, 0, none⟩)), (2, .slice none 0 0), (3, .int .i64 0), (5, .slice (some ⟨b7, 0, none⟩) ((List.replicate (w64 (p0_1 + 1) : Int).toNat ([] : List Int)).length) c8), (18, .int .i64 ((List.replicate (w64 (p0_1 + 1) : Int).toNat ([] : List Int)).length : Int)), (19, .int .i64 s15)]) ⟨rfl, rfl, rfl, rfl, rfl, rfl, trivial⟩ (WK.cls (C' := St w0 m m [[⟨b2, 24, [.int .i64 p0_0, .int .i64 p0_1, .int .i64 p0_2, .slice a_p0_3 p0_3.length c_p0_3]⟩], L13]) (fun _ h => h) ?_)
      refine WK_seq ?_
      refine WK_region ?_
      refine WO_pure tbok 1 [(1, .pointer (some ⟨b2, 0, none⟩)), (2, .slice none 0 0), (3, .int .i64 0), (5, .slice (some ⟨b7, 0, none⟩) ((List.replicate (w64 (p0_1 + 1) : Int).toNat ([] : List Int)).length) c8), (18, .int .i64 ((List.replicate (w64 (p0_1 + 1) : Int).toNat ([] : List Int)).length : Int)), (19, .int .i64 s15), (20, .bool (decide (s15 < ((List.replicate (w64 (p0_1 + 1) : Int).toNat ([] : List Int)).length : Int))))] rfl ⟨rfl, rfl, rfl, rfl, rfl, rfl, rfl, trivial⟩ ?_
      refine WO_end ?_
      refine WK_seq ?_
      refine WK_cond (b := decide (s15 < ((List.replicate (w64 (p0_1 + 1) : Int).toNat ([] : List Int)).length : Int))) rfl (fun hb32 => ?_) (fun hb32 => ?_)
      · have hm23 := ifT hb32 hm23
        refine WK_skip ?_
        refine WK_seq ?_
        refine WK_block ?_
        refine WK_seq ?_
        refine WK_region ?_
        refine WO_pure tbok 2 [(1, .pointer (some ⟨b2, 0, none⟩)), (2, .slice none 0 0), (3, .int .i64 0), (5, .slice (some ⟨b7, 0, none⟩) ((List.replicate (w64 (p0_1 + 1) : Int).toNat ([] : List Int)).length) c8), (6, .int .i64 s15), (18, .int .i64 ((List.replicate (w64 (p0_1 + 1) : Int).toNat ([] : List Int)).length : Int)), (19, .int .i64 s15)] rfl ⟨rfl, rfl, rfl, rfl, rfl, rfl, rfl, trivial⟩ ?_
        refine WO_end ?_
        refine WK_seq ?_
        refine WK_region ?_
        refine WO_pure tbok 3 [(1, .pointer (some ⟨b2, 0, none⟩)), (2, .slice none 0 0), (3, .int .i64 0), (5, .slice (some ⟨b7, 0, none⟩) ((List.replicate (w64 (p0_1 + 1) : Int).toNat ([] : List Int)).length) c8), (6, .int .i64 s15), (18, .int .i64 ((List.replicate (w64 (p0_1 + 1) : Int).toNat ([] : List Int)).length : Int)), (19, .int .i64 s15), (22, .slice (some ⟨b7, 0, none⟩) ((List.replicate (w64 (p0_1 + 1) : Int).toNat ([] : List Int)).length) c8), (23, .int .i64 s15), (24, .pointer (some ⟨b2, 0, none⟩))] rfl ⟨rfl, rfl, rfl, rfl, rfl, rfl, rfl, rfl, rfl, rfl, trivial⟩ ?_
        refine WO_loadB tbok 0 rfl rfl rfl rfl (fun _ h => h) rfl rfl ?_
        refine WO_pure tbok 1 [(1, .pointer (some ⟨b2, 0, none⟩)), (2, .slice none 0 0), (3, .int .i64 0), (5, .slice (some ⟨b7, 0, none⟩) ((List.replicate (w64 (p0_1 + 1) : Int).toNat ([] : List Int)).length) c8), (6, .int .i64 s15), (18, .int .i64 ((List.replicate (w64 (p0_1 + 1) : Int).toNat ([] : List Int)).length : Int)), (19, .int .i64 s15), (22, .slice (some ⟨b7, 0, none⟩) ((List.replicate (w64 (p0_1 + 1) : Int).toNat ([] : List Int)).length) c8), (23, .int .i64 s15), (26, .int .i64 (w64 (p0_0 + 1)))] rfl ⟨rfl, rfl, rfl, rfl, rfl, rfl, rfl, rfl, rfl, rfl, trivial⟩ ?_
        obtain ⟨hc33, hm23⟩ := chk_some hm23
        refine WO_make (E := (I1 .i64)) tbok (fun _ => rfl) (by decide) (0 : Int) rfl rfl trivial rfl rfl rfl rfl rfl rfl rfl rfl rfl (mk_ok (by decide) hc33) (fun b34 c35 L36 hL36 => ?_)
        refine WO.cls (C' := St w0 m m [[⟨b2, 24, [.int .i64 p0_0, .int .i64 p0_1, .int .i64 p0_2, .slice a_p0_3 p0_3.length c_p0_3]⟩], L13, L36]) (fun _ h => h) ?_
        obtain ⟨hc38, hm23⟩ := chk_some hm23
        refine WO_index tbok rfl rfl rfl rfl rfl rfl rfl rfl (OwnT.addr hL13) (by simpa using hc38) ?_
        refine WO_storeTR tbok 1 2 rfl rfl rfl rfl rfl hL13 rfl hL36 rfl rfl (by simpa using idx_lt hc38) rfl rfl rfl rfl (fun L39 hL39 => ?_)
        refine WO.cls (C' := St w0 m m [[⟨b2, 24, [.int .i64 p0_0, .int .i64 p0_1, .int .i64 p0_2, .slice a_p0_3 p0_3.length c_p0_3]⟩], L39, []]) (fun _ h => h) ?_
        refine WO_end ?_
        refine WK_seq ?_
        refine WK_region ?_
        refine WO_pure tbok 1 [(1, .pointer (some ⟨b2, 0, none⟩)), (2, .slice none 0 0), (3, .int .i64 0), (5, .slice (some ⟨b7, 0, none⟩) ((List.replicate (w64 (p0_1 + 1) : Int).toNat ([] : List Int)).length) c8), (6, .int .i64 s15), (7, .int .i64 1), (18, .int .i64 ((List.replicate (w64 (p0_1 + 1) : Int).toNat ([] : List Int)).length : Int)), (19, .int .i64 s15)] rfl ⟨rfl, rfl, rfl, rfl, rfl, rfl, rfl, rfl, trivial⟩ ?_
        refine WO_end ?_
        obtain ⟨x50, hx51, hm23⟩ := bind_some hm23
        refine WK_join (β := (List (List Int)) × (List Value × List Ent)) (fun p => p.1 = x50 ∧ OwnT 22 3 1 (I1 .i64) (.slice (some ⟨b7, 0, none⟩) ((List.replicate (w64 (p0_1 + 1) : Int).toNat ([] : List Int)).length) c8) p.2.1 p.1 p.2.2) (fun p => [(1, .pointer (some ⟨b2, 0, none⟩)), (2, .slice none 0 0), (3, .int .i64 0), (5, .slice (some ⟨b7, 0, none⟩) ((List.replicate (w64 (p0_1 + 1) : Int).toNat ([] : List Int)).length) c8), (18, .int .i64 ((List.replicate (w64 (p0_1 + 1) : Int).toNat ([] : List Int)).length : Int)), (19, .int .i64 s15)]) (fun p => St w0 m m [[⟨b2, 24, [.int .i64 p0_0, .int .i64 p0_1, .int .i64 p0_2, .slice a_p0_3 p0_3.length c_p0_3]⟩], p.2.2, []]) ?_ (fun hk52 => ?_)
        · rintro ⟨l46, ⟨vs49, L48⟩⟩ ⟨hq58, hL48⟩
          subst hq58
          refine WK.sub (e' := [(1, .pointer (some ⟨b2, 0, none⟩)), (2, .slice none 0 0), (3, .int .i64 0), (5, .slice (some ⟨b7, 0, none⟩) ((List.replicate (w64 (p0_1 + 1) : Int).toNat ([] : List Int)).length) c8), (18, .int .i64 ((List.replicate (w64 (p0_1 + 1) : Int).toNat ([] : List Int)).length : Int)), (19, .int .i64 s15)]) ⟨rfl, rfl, rfl, rfl, rfl, rfl, trivial⟩ (WK.cls (C' := St w0 m m [[⟨b2, 24, [.int .i64 p0_0, .int .i64 p0_1, .int .i64 p0_2, .slice a_p0_3 p0_3.length c_p0_3]⟩], L48, []]) (fun _ h => h) ?_)
          refine WK_blk ?_
          refine WK_region ?_
          refine WO_pure tbok 2 [(1, .pointer (some ⟨b2, 0, none⟩)), (2, .slice none 0 0), (3, .int .i64 0), (5, .slice (some ⟨b7, 0, none⟩) ((List.replicate (w64 (p0_1 + 1) : Int).toNat ([] : List Int)).length) c8), (18, .int .i64 ((List.replicate (w64 (p0_1 + 1) : Int).toNat ([] : List Int)).length : Int)), (19, .int .i64 (w64 (s15 + 1)))] rfl ⟨rfl, rfl, rfl, rfl, rfl, rfl, trivial⟩ ?_
          refine WO_end ?_
          cases hm23
          refine WK.sub ?_ (WK.cls (fun _ h => St.take 2 h) (hn26 _ (vs49, L48) rfl hL48))
          exact ⟨rfl, rfl, rfl, rfl, rfl, rfl, trivial⟩
        · refine WK_block ?_
          refine WK_loop (S := List (List Int) × Int) (G := List Value × List Ent) (fun s => raster_Integral_s2 p0_0 p0_1 p0_2 p0_3 s15 s.1 s.2) (fun s g => [(1, .pointer (some ⟨b2, 0, none⟩)), (2, .slice none 0 0), (3, .int .i64 0), (5, .slice (some ⟨b7, 0, none⟩) ((List.replicate (w64 (p0_1 + 1) : Int).toNat ([] : List Int)).length) c8), (6, .int .i64 s15), (7, .int .i64 s.2), (18, .int .i64 ((List.replicate (w64 (p0_1 + 1) : Int).toNat ([] : List Int)).length : Int)), (19, .int .i64 s15)]) (fun s g => St w0 m m [[⟨b2, 24, [.int .i64 p0_0, .int .i64 p0_1, .int .i64 p0_2, .slice a_p0_3 p0_3.length c_p0_3]⟩], g.2, []]) (fun s g => OwnT 22 3 1 (I1 .i64) (.slice (some ⟨b7, 0, none⟩) ((List.replicate (w64 (p0_1 + 1) : Int).toNat ([] : List Int)).length) c8) g.1 s.1 g.2) FUEL ((l11.set s15.toNat (List.replicate (w64 (p0_0 + 1)).toNat (0 : Int))), 1) ((vs14.set s15.toNat (.slice (some ⟨b34, 0, none⟩) ((List.replicate (w64 (p0_0 + 1)).toNat (0 : Int)).length) c35)), L39) x50 hx51 hL39 ⟨rfl, rfl, rfl, rfl, rfl, rfl, rfl, rfl, trivial⟩ (fun _ h => h) ?_
          rintro ⟨l41, s45⟩ ⟨vs44, L43⟩ o54 fl55 hm53 hL43 hn56 hd57
          have hm53 : raster_Integral_s2 p0_0 p0_1 p0_2 p0_3 s15 l41 s45 = some o54 := hm53
          unfold raster_Integral_s2 at hm53
          refine WK.sub (e' := [(1, .pointer (some ⟨b2, 0, none⟩)), (2, .slice none 0 0), (3, .int .i64 0), (5, .slice (some ⟨b7, 0, none⟩) ((List.replicate (w64 (p0_1 + 1) : Int).toNat ([] : List Int)).length) c8), (6, .int .i64 s15), (7, .int .i64 s45), (18, .int .i64 ((List.replicate (w64 (p0_1 + 1) : Int).toNat ([] : List Int)).length : Int)), (19, .int .i64 s15)]) ⟨rfl, rfl, rfl, rfl, rfl, rfl, rfl, rfl, trivial⟩ (WK.cls (C' := St w0 m m [[⟨b2, 24, [.int .i64 p0_0, .int .i64 p0_1, .int .i64 p0_2, .slice a_p0_3 p0_3.length c_p0_3]⟩], L43, []]) (fun _ h => h) ?_)
          refine WK_seq ?_
          refine WK_seq ?_
          obtain ⟨s59, hx60, hm53⟩ := bind_some hm53
          refine WK_meet [(1, .pointer (some ⟨b2, 0, none⟩)), (2, .slice none 0 0), (3, .int .i64 0), (5, .slice (some ⟨b7, 0, none⟩) ((List.replicate (w64 (p0_1 + 1) : Int).toNat ([] : List Int)).length) c8), (6, .int .i64 s15), (7, .int .i64 s45), (18, .int .i64 ((List.replicate (w64 (p0_1 + 1) : Int).toNat ([] : List Int)).length : Int)), (19, .int .i64 s15), (36, .bool s59)] (St w0 m m [[⟨b2, 24, [.int .i64 p0_0, .int .i64 p0_1, .int .i64 p0_2, .slice a_p0_3 p0_3.length c_p0_3]⟩], L43, []]) ?_ (fun hk61 => ?_)
          · refine WK_cond (b := s59) rfl (fun hb62 => ?_) (fun hb62 => ?_)
            · have hm53 := ifT hb62 hm53
              refine WK_skip ?_
              refine WK_seq ?_
              refine WK_block ?_
              refine WK_draw 40 [0, 1, 2, 3, 4, 5, 6, 7, 8, 9, 10, 11, 12, 13, 14, 15, 16, 17, 18, 19, 20, 21, 22, 23, 24, 25, 26, 27, 28, 29, 30, 31, 32, 33, 34, 35, 36, 37, 38, 39] follows_ok (by kernel_rfl) St_closed ?_
              refine WO_pure tbok 2 [(1, .pointer (some ⟨b2, 0, none⟩)), (2, .slice none 0 0), (3, .int .i64 0), (5, .slice (some ⟨b7, 0, none⟩) ((List.replicate (w64 (p0_1 + 1) : Int).toNat ([] : List Int)).length) c8), (6, .int .i64 s15), (7, .int .i64 s45), (18, .int .i64 ((List.replicate (w64 (p0_1 + 1) : Int).toNat ([] : List Int)).length : Int)), (19, .int .i64 s15), (39, .slice (some ⟨b7, 0, none⟩) ((List.replicate (w64 (p0_1 + 1) : Int).toNat ([] : List Int)).length) c8), (40, .int .i64 s15)] rfl ⟨rfl, rfl, rfl, rfl, rfl, rfl, rfl, rfl, rfl, rfl, trivial⟩ ?_
              obtain ⟨v63, hy64, hm53⟩ := bind_some hm53
              obtain ⟨hc65, hy64⟩ := ix_some hy64
              refine WO_index tbok rfl rfl rfl rfl rfl rfl rfl rfl (OwnT.addr hL43) (by simpa using hc65) ?_
              refine WO_loadT tbok 1 rfl rfl rfl rfl (fun _ h => h) hL43 rfl hy64 rfl rfl (fun a66 c67 L68 hv69 hr70 => ?_)
              refine WO_pure tbok 4 [(1, .pointer (some ⟨b2, 0, none⟩)), (2, .slice none 0 0), (3, .int .i64 0), (5, .slice (some ⟨b7, 0, none⟩) ((List.replicate (w64 (p0_1 + 1) : Int).toNat ([] : List Int)).length) c8), (6, .int .i64 s15), (7, .int .i64 s45), (18, .int .i64 ((List.replicate (w64 (p0_1 + 1) : Int).toNat ([] : List Int)).length : Int)), (19, .int .i64 s15), (42, .slice a66 v63.length c67), (43, .int .i64 s45), (44, .slice (some ⟨b7, 0, none⟩) ((List.replicate (w64 (p0_1 + 1) : Int).toNat ([] : List Int)).length) c8), (46, .int .i64 (w64 (s15 - 1)))] rfl ⟨rfl, rfl, rfl, rfl, rfl, rfl, rfl, rfl, rfl, rfl, rfl, rfl, trivial⟩ ?_
              obtain ⟨v72, hy73, hm53⟩ := bind_some hm53
              obtain ⟨hc74, hy73⟩ := ix_some hy73
              refine WO_index tbok rfl rfl rfl rfl rfl rfl rfl rfl (OwnT.addr hL43) (by simpa using hc74) ?_
              refine WO_loadT tbok 1 rfl rfl rfl rfl (fun _ h => h) hL43 rfl hy73 rfl rfl (fun a75 c76 L77 hv78 hr79 => ?_)
              refine WO_pure tbok 1 [(1, .pointer (some ⟨b2, 0, none⟩)), (2, .slice none 0 0), (3, .int .i64 0), (5, .slice (some ⟨b7, 0, none⟩) ((List.replicate (w64 (p0_1 + 1) : Int).toNat ([] : List Int)).length) c8), (6, .int .i64 s15), (7, .int .i64 s45), (18, .int .i64 ((List.replicate (w64 (p0_1 + 1) : Int).toNat ([] : List Int)).length : Int)), (19, .int .i64 s15), (42, .slice a66 v63.length c67), (43, .int .i64 s45), (48, .slice a75 v72.length c76), (49, .int .i64 s45)] rfl ⟨rfl, rfl, rfl, rfl, rfl, rfl, rfl, rfl, rfl, rfl, rfl, rfl, trivial⟩ ?_
              obtain ⟨v81, hy82, hm53⟩ := bind_some hm53
              obtain ⟨hc83, hy82⟩ := ix_some hy82
              refine WO_index tbok rfl rfl rfl rfl rfl rfl rfl rfl (OwnE.addr hr79) (by simpa using hc83) ?_
              refine WO_loadTE (E := (I1 .i64)) tbok (fun _ => rfl) 1 rfl rfl rfl rfl (fun _ h => h) hL43 rfl hv78 hy73 hy82 rfl ?_
              refine WO_pure tbok 2 [(1, .pointer (some ⟨b2, 0, none⟩)), (2, .slice none 0 0), (3, .int .i64 0), (5, .slice (some ⟨b7, 0, none⟩) ((List.replicate (w64 (p0_1 + 1) : Int).toNat ([] : List Int)).length) c8), (6, .int .i64 s15), (7, .int .i64 s45), (18, .int .i64 ((List.replicate (w64 (p0_1 + 1) : Int).toNat ([] : List Int)).length : Int)), (19, .int .i64 s15), (42, .slice a66 v63.length c67), (43, .int .i64 s45), (51, .int .i64 v81), (52, .slice (some ⟨b7, 0, none⟩) ((List.replicate (w64 (p0_1 + 1) : Int).toNat ([] : List Int)).length) c8), (53, .int .i64 s15)] rfl ⟨rfl, rfl, rfl, rfl, rfl, rfl, rfl, rfl, rfl, rfl, rfl, rfl, rfl, trivial⟩ ?_
              obtain ⟨v84, hy85, hm53⟩ := bind_some hm53
              obtain ⟨hc86, hy85⟩ := ix_some hy85
              refine WO_index tbok rfl rfl rfl rfl rfl rfl rfl rfl (OwnT.addr hL43) (by simpa using hc86) ?_
              refine WO_loadT tbok 1 rfl rfl rfl rfl (fun _ h => h) hL43 rfl hy85 rfl rfl (fun a87 c88 L89 hv90 hr91 => ?_)
              refine WO_pure tbok 2 [(1, .pointer (some ⟨b2, 0, none⟩)), (2, .slice none 0 0), (3, .int .i64 0), (5, .slice (some ⟨b7, 0, none⟩) ((List.replicate (w64 (p0_1 + 1) : Int).toNat ([] : List Int)).length) c8), (6, .int .i64 s15), (7, .int .i64 s45), (18, .int .i64 ((List.replicate (w64 (p0_1 + 1) : Int).toNat ([] : List Int)).length : Int)), (19, .int .i64 s15), (42, .slice a66 v63.length c67), (43, .int .i64 s45), (51, .int .i64 v81), (55, .slice a87 v84.length c88), (57, .int .i64 (w64 (s45 - 1)))] rfl ⟨rfl, rfl, rfl, rfl, rfl, rfl, rfl, rfl, rfl, rfl, rfl, rfl, rfl, trivial⟩ ?_
              obtain ⟨v93, hy94, hm53⟩ := bind_some hm53
              obtain ⟨hc95, hy94⟩ := ix_some hy94
              refine WO_index tbok rfl rfl rfl rfl rfl rfl rfl rfl (OwnE.addr hr91) (by simpa using hc95) ?_
              refine WO_loadTE (E := (I1 .i64)) tbok (fun _ => rfl) 1 rfl rfl rfl rfl (fun _ h => h) hL43 rfl hv90 hy85 hy94 rfl ?_
              refine WO_pure tbok 4 [(1, .pointer (some ⟨b2, 0, none⟩)), (2, .slice none 0 0), (3, .int .i64 0), (5, .slice (some ⟨b7, 0, none⟩) ((List.replicate (w64 (p0_1 + 1) : Int).toNat ([] : List Int)).length) c8), (6, .int .i64 s15), (7, .int .i64 s45), (18, .int .i64 ((List.replicate (w64 (p0_1 + 1) : Int).toNat ([] : List Int)).length : Int)), (19, .int .i64 s15), (42, .slice a66 v63.length c67), (43, .int .i64 s45), (60, .int .i64 (w64 (v81 + v93))), (61, .slice (some ⟨b7, 0, none⟩) ((List.replicate (w64 (p0_1 + 1) : Int).toNat ([] : List Int)).length) c8), (63, .int .i64 (w64 (s15 - 1)))] rfl ⟨rfl, rfl, rfl, rfl, rfl, rfl, rfl, rfl, rfl, rfl, rfl, rfl, rfl, trivial⟩ ?_
              obtain ⟨v96, hy97, hm53⟩ := bind_some hm53
              obtain ⟨hc98, hy97⟩ := ix_some hy97
              refine WO_index tbok rfl rfl rfl rfl rfl rfl rfl rfl (OwnT.addr hL43) (by simpa using hc98) ?_
              refine WO_loadT tbok 1 rfl rfl rfl rfl (fun _ h => h) hL43 rfl hy97 rfl rfl (fun a99 c100 L101 hv102 hr103 => ?_)
              refine WO_pure tbok 2 [(1, .pointer (some ⟨b2, 0, none⟩)), (2, .slice none 0 0), (3, .int .i64 0), (5, .slice (some ⟨b7, 0, none⟩) ((List.replicate (w64 (p0_1 + 1) : Int).toNat ([] : List Int)).length) c8), (6, .int .i64 s15), (7, .int .i64 s45), (18, .int .i64 ((List.replicate (w64 (p0_1 + 1) : Int).toNat ([] : List Int)).length : Int)), (19, .int .i64 s15), (42, .slice a66 v63.length c67), (43, .int .i64 s45), (60, .int .i64 (w64 (v81 + v93))), (65, .slice a99 v96.length c100), (67, .int .i64 (w64 (s45 - 1)))] rfl ⟨rfl, rfl, rfl, rfl, rfl, rfl, rfl, rfl, rfl, rfl, rfl, rfl, rfl, trivial⟩ ?_
              obtain ⟨v105, hy106, hm53⟩ := bind_some hm53
              obtain ⟨hc107, hy106⟩ := ix_some hy106
              refine WO_index tbok rfl rfl rfl rfl rfl rfl rfl rfl (OwnE.addr hr103) (by simpa using hc107) ?_
              refine WO_loadTE (E := (I1 .i64)) tbok (fun _ => rfl) 1 rfl rfl rfl rfl (fun _ h => h) hL43 rfl hv102 hy97 hy106 rfl ?_
              refine WO_pure tbok 1 [(1, .pointer (some ⟨b2, 0, none⟩)), (2, .slice none 0 0), (3, .int .i64 0), (5, .slice (some ⟨b7, 0, none⟩) ((List.replicate (w64 (p0_1 + 1) : Int).toNat ([] : List Int)).length) c8), (6, .int .i64 s15), (7, .int .i64 s45), (18, .int .i64 ((List.replicate (w64 (p0_1 + 1) : Int).toNat ([] : List Int)).length : Int)), (19, .int .i64 s15), (42, .slice a66 v63.length c67), (43, .int .i64 s45), (70, .int .i64 (w64 ((w64 (v81 + v93)) - v105)))] rfl ⟨rfl, rfl, rfl, rfl, rfl, rfl, rfl, rfl, rfl, rfl, rfl, trivial⟩ ?_
              refine WO_loadB tbok 0 rfl rfl rfl rfl (fun _ h => h) rfl rfl ?_
              refine WO_pure tbok 4 [(1, .pointer (some ⟨b2, 0, none⟩)), (2, .slice none 0 0), (3, .int .i64 0), (5, .slice (some ⟨b7, 0, none⟩) ((List.replicate (w64 (p0_1 + 1) : Int).toNat ([] : List Int)).length) c8), (6, .int .i64 s15), (7, .int .i64 s45), (18, .int .i64 ((List.replicate (w64 (p0_1 + 1) : Int).toNat ([] : List Int)).length : Int)), (19, .int .i64 s15), (42, .slice a66 v63.length c67), (43, .int .i64 s45), (70, .int .i64 (w64 ((w64 (v81 + v93)) - v105))), (71, .agg #[.int .i64 p0_0, .int .i64 p0_1, .int .i64 p0_2, .slice a_p0_3 p0_3.length c_p0_3]), (73, .int .i64 (w64 (s45 - 1))), (75, .int .i64 (w64 (s15 - 1)))] rfl ⟨rfl, rfl, rfl, rfl, rfl, rfl, rfl, rfl, rfl, rfl, rfl, rfl, rfl, rfl, trivial⟩ ?_
              obtain ⟨y108, hc109, hm53⟩ := bind_some hm53
              refine WO_call0 (.int .i64 y108) rfl rfl St_closed rfl rfl rfl rfl St_closed ⟨50, #[], #[], rfl, callable_50, fun w hw => ⟨_, hw.sat, raster_at_walk h_p0_3 hc109⟩⟩ ?_
              refine WO_pure tbok 1 [(1, .pointer (some ⟨b2, 0, none⟩)), (2, .slice none 0 0), (3, .int .i64 0), (5, .slice (some ⟨b7, 0, none⟩) ((List.replicate (w64 (p0_1 + 1) : Int).toNat ([] : List Int)).length) c8), (6, .int .i64 s15), (7, .int .i64 s45), (18, .int .i64 ((List.replicate (w64 (p0_1 + 1) : Int).toNat ([] : List Int)).length : Int)), (19, .int .i64 s15), (42, .slice a66 v63.length c67), (43, .int .i64 s45), (77, .int .i64 (w64 ((w64 ((w64 (v81 + v93)) - v105)) + y108)))] rfl ⟨rfl, rfl, rfl, rfl, rfl, rfl, rfl, rfl, rfl, rfl, rfl, trivial⟩ ?_
              obtain ⟨hc110, hm53⟩ := chk_some hm53
              refine WO_index tbok rfl rfl rfl rfl rfl rfl rfl rfl (OwnE.addr hr70) (by simpa using hc110) ?_
              refine WO_tail ?_
              refine WO_storeTE (E := (I1 .i64)) tbok (fun _ => rfl) 1 (w64 ((w64 ((w64 (v81 + v93)) - v105)) + y108)) rfl rfl rfl rfl rfl hL43 rfl hv69 hy64 (by simpa using idx_lt hc110) rfl rfl rfl rfl (fun L111 hL111 => ?_)
              refine WO.cls (C' := St w0 m m [[⟨b2, 24, [.int .i64 p0_0, .int .i64 p0_1, .int .i64 p0_2, .slice a_p0_3 p0_3.length c_p0_3]⟩], L111, []]) (fun _ h => h) ?_
              refine WO_end ?_
              refine WK_blk ?_
              refine WK_region ?_
              refine WO_pure tbok 3 [(1, .pointer (some ⟨b2, 0, none⟩)), (2, .slice none 0 0), (3, .int .i64 0), (5, .slice (some ⟨b7, 0, none⟩) ((List.replicate (w64 (p0_1 + 1) : Int).toNat ([] : List Int)).length) c8), (6, .int .i64 s15), (7, .int .i64 (w64 (s45 + 1))), (18, .int .i64 ((List.replicate (w64 (p0_1 + 1) : Int).toNat ([] : List Int)).length : Int)), (19, .int .i64 s15)] rfl ⟨rfl, rfl, rfl, rfl, rfl, rfl, rfl, rfl, trivial⟩ ?_
              refine WO_end ?_
              cases hm53
              refine WK.sub ?_ (WK.cls (fun _ h => h) (hn56 _ (vs44, L111) rfl hL111))
              exact ⟨rfl, rfl, rfl, rfl, rfl, rfl, rfl, rfl, trivial⟩
            · have hm53 := ifF hb62 hm53
              refine WK_exit rfl ?_
              cases hm53
              refine WK.sub ?_ (WK.cls (fun _ h => h) (hk52 (l41, (vs44, L43)) ⟨(hd57 _ rfl), hL43⟩))
              exact ⟨rfl, rfl, rfl, rfl, rfl, rfl, trivial⟩
          · refine WK_region ?_
            refine WO_pure tbok 2 [(1, .pointer (some ⟨b2, 0, none⟩)), (2, .slice none 0 0), (3, .int .i64 0), (5, .slice (some ⟨b7, 0, none⟩) ((List.replicate (w64 (p0_1 + 1) : Int).toNat ([] : List Int)).length) c8), (6, .int .i64 s15), (7, .int .i64 s45), (18, .int .i64 ((List.replicate (w64 (p0_1 + 1) : Int).toNat ([] : List Int)).length : Int)), (19, .int .i64 s15), (29, .int .i64 s45), (30, .pointer (some ⟨b2, 0, none⟩))] rfl ⟨rfl, rfl, rfl, rfl, rfl, rfl, rfl, rfl, rfl, rfl, trivial⟩ ?_
            refine WO_loadB tbok 0 rfl rfl rfl rfl (fun _ h => h) rfl rfl ?_
            refine WO_pure tbok 2 [(1, .pointer (some ⟨b2, 0, none⟩)), (2, .slice none 0 0), (3, .int .i64 0), (5, .slice (some ⟨b7, 0, none⟩) ((List.replicate (w64 (p0_1 + 1) : Int).toNat ([] : List Int)).length) c8), (6, .int .i64 s15), (7, .int .i64 s45), (18, .int .i64 ((List.replicate (w64 (p0_1 + 1) : Int).toNat ([] : List Int)).length : Int)), (19, .int .i64 s15), (33, .bool (decide (s45 ≤ p0_0)))] rfl ⟨rfl, rfl, rfl, rfl, rfl, rfl, rfl, rfl, rfl, trivial⟩ ?_
            refine WO_split (d := 33) (b := decide (s45 ≤ p0_0)) rfl (fun hb113 => ?_) (fun hb113 => ?_)
            · have hx60 := ifT hb113 hx60
              refine WO_pure tbok 3 [(1, .pointer (some ⟨b2, 0, none⟩)), (2, .slice none 0 0), (3, .int .i64 0), (5, .slice (some ⟨b7, 0, none⟩) ((List.replicate (w64 (p0_1 + 1) : Int).toNat ([] : List Int)).length) c8), (6, .int .i64 s15), (7, .int .i64 s45), (18, .int .i64 ((List.replicate (w64 (p0_1 + 1) : Int).toNat ([] : List Int)).length : Int)), (19, .int .i64 s15), (36, .bool (decide (0 < s15)))] rfl ⟨rfl, rfl, rfl, rfl, rfl, rfl, rfl, rfl, rfl, trivial⟩ ?_
              refine WO_end ?_
              cases hx60
              refine WK.sub ?_ (WK.cls (fun _ h => h) hk61)
              exact ⟨rfl, rfl, rfl, rfl, rfl, rfl, rfl, rfl, rfl, trivial⟩
            · have hx60 := ifF hb113 hx60
              refine WO_pure tbok 3 [(1, .pointer (some ⟨b2, 0, none⟩)), (2, .slice none 0 0), (3, .int .i64 0), (5, .slice (some ⟨b7, 0, none⟩) ((List.replicate (w64 (p0_1 + 1) : Int).toNat ([] : List Int)).length) c8), (6, .int .i64 s15), (7, .int .i64 s45), (18, .int .i64 ((List.replicate (w64 (p0_1 + 1) : Int).toNat ([] : List Int)).length : Int)), (19, .int .i64 s15), (36, .bool false)] rfl ⟨rfl, rfl, rfl, rfl, rfl, rfl, rfl, rfl, rfl, trivial⟩ ?_
              refine WO_end ?_
              cases hx60
              refine WK.sub ?_ (WK.cls (fun _ h => h) hk61)
              exact ⟨rfl, rfl, rfl, rfl, rfl, rfl, rfl, rfl, rfl, trivial⟩
      · have hm23 := ifF hb32 hm23
        refine WK_exit rfl ?_
        cases hm23
        refine WK.sub ?_ (WK.cls (fun _ h => h) (hk22 (l11, (vs14, L13)) ⟨(hd27 _ rfl), hL13⟩))
        exact ⟨rfl, rfl, rfl, trivial⟩
theorem slices_Equal_sint_walk {m : Mu} {p0 : List Int} {p1 : List Int} {a_p0 : Option Addr} {q_p0 c_p0 : Nat} {a_p1 : Option Addr} {q_p1 c_p1 : Nat} (h_p0 : SlR (FE (I1 .i64)) 1 m (.slice a_p0 q_p0 c_p0) p0) (h_p1 : SlR (FE (I1 .i64)) 1 m (.slice a_p1 q_p1 c_p1) p1) {r : Bool} (hm : slices_Equal_sint p0 p1 = some r) :
    Go.E.Spec Try.prog 27 [.slice a_p0 q_p0 c_p0, .slice a_p1 q_p1 c_p1] m (fun v _ _ => v = .bool r) := by
  refine Spec_enter Try.func27 rfl rfl rfl (fun w0 => ?_)
  refine WK.sub (e' := [(0, .slice a_p0 q_p0 c_p0), (1, .slice a_p1 q_p1 c_p1)]) ⟨rfl, rfl, trivial⟩ ?_
  obtain rfl := SlR.qlen h_p0
  obtain rfl := SlR.qlen h_p1
  refine WK.sub (e' := [(0, .slice a_p0 p0.length c_p0), (1, .slice a_p1 p1.length c_p1)]) ⟨rfl, rfl, trivial⟩ ?_
  unfold slices_Equal_sint at hm
  refine WK_seq ?_
  refine WK_region ?_
  refine WO_pure tbok 1 [(0, .slice a_p0 p0.length c_p0), (1, .slice a_p1 p1.length c_p1), (4, .bool false)] rfl ⟨rfl, rfl, rfl, trivial⟩ ?_
  refine WO_end ?_
  refine WK_seq ?_
  refine WK_seq ?_
  refine WK_region ?_
  refine WO_pure tbok 5 [(0, .slice a_p0 p0.length c_p0), (1, .slice a_p1 p1.length c_p1), (4, .bool false), (10, .bool ((p0.length : Int) != (p1.length : Int)))] rfl ⟨rfl, rfl, rfl, rfl, trivial⟩ ?_
  refine WO_end ?_
  refine WK_cond (b := (p0.length : Int) != (p1.length : Int)) rfl (fun hb3 => ?_) (fun hb3 => ?_)
  · have hm := ifT hb3 hm
    refine WK_seq ?_
    refine WK_region ?_
    refine WO_pure tbok 1 [(0, .slice a_p0 p0.length c_p0), (1, .slice a_p1 p1.length c_p1), (4, .bool false)] rfl ⟨rfl, rfl, rfl, trivial⟩ ?_
    refine WO_end ?_
    cases hm
    exact WK_ret (ret_out (L := []) (RLc_tmp rfl RLc_nil) (List.nil_sublist _) rfl)
  · have hm := ifF hb3 hm
    refine WK_skip ?_
    refine WK_seq ?_
    refine WK_seq ?_
    refine WK_region ?_
    refine WO_pure tbok 3 [(0, .slice a_p0 p0.length c_p0), (1, .slice a_p1 p1.length c_p1), (4, .bool false), (12, .int .i64 (p0.length : Int)), (13, .int .i64 0)] rfl ⟨rfl, rfl, rfl, rfl, rfl, trivial⟩ ?_
    refine WO_end ?_
    obtain ⟨x5, hx6, hm⟩ := bind_some hm
    refine WK_join (β := Unit × Unit) (fun p => Sum.inr p.1 = x5) (fun p => [(4, .bool false)]) (fun p => St w0 m m []) ?_ (fun hk7 => ?_)
    · rintro ⟨⟨⟩, ⟨⟩⟩ hq13
      subst hq13
      refine WK.sub (e' := [(4, .bool false)]) ⟨rfl, trivial⟩ (WK.cls (C' := St w0 m m []) (fun _ h => h) ?_)
      refine WK_seq ?_
      refine WK_region ?_
      refine WO_pure tbok 1 [(4, .bool true)] rfl ⟨rfl, trivial⟩ ?_
      refine WO_end ?_
      cases hm
      exact WK_ret (ret_out (L := []) (RLc_tmp rfl RLc_nil) (List.nil_sublist _) rfl)
    · refine WK_block ?_
      refine WK_loop (S := Int) (G := Unit) (fun s => slices_Equal_sint_s1 p0 p1 s) (fun s g => [(0, .slice a_p0 p0.length c_p0), (1, .slice a_p1 p1.length c_p1), (4, .bool false), (12, .int .i64 (p0.length : Int)), (13, .int .i64 s)]) (fun s g => St w0 m m []) (fun s g => True) FUEL 0 () x5 hx6 trivial ⟨rfl, rfl, rfl, rfl, rfl, trivial⟩ (fun _ h => h) ?_
      rintro s4 ⟨⟩ o9 fl10 hm8 - hn11 hd12
      have hm8 : slices_Equal_sint_s1 p0 p1 s4 = some o9 := hm8
      unfold slices_Equal_sint_s1 at hm8
      refine WK.sub (e' := [(0, .slice a_p0 p0.length c_p0), (1, .slice a_p1 p1.length c_p1), (4, .bool false), (12, .int .i64 (p0.length : Int)), (13, .int .i64 s4)]) ⟨rfl, rfl, rfl, rfl, rfl, trivial⟩ (WK.cls (C' := St w0 m m []) (fun _ h => h) ?_)
      refine WK_seq ?_
      refine WK_region ?_
      refine WO_pure tbok 1 [(0, .slice a_p0 p0.length c_p0), (1, .slice a_p1 p1.length c_p1), (4, .bool false), (12, .int .i64 (p0.length : Int)), (13, .int .i64 s4), (14, .bool (decide (s4 < (p0.length : Int))))] rfl ⟨rfl, rfl, rfl, rfl, rfl, rfl, trivial⟩ ?_
      refine WO_end ?_
      refine WK_seq ?_
      refine WK_cond (b := decide (s4 < (p0.length : Int))) rfl (fun hb14 => ?_) (fun hb14 => ?_)
      · have hm8 := ifT hb14 hm8
        refine WK_skip ?_
        refine WK_seq ?_
        refine WK_block ?_
        refine WK_seq ?_
        refine WK_region ?_
        refine WO_pure tbok 2 [(0, .slice a_p0 p0.length c_p0), (1, .slice a_p1 p1.length c_p1), (4, .bool false), (5, .int .i64 s4), (12, .int .i64 (p0.length : Int)), (13, .int .i64 s4)] rfl ⟨rfl, rfl, rfl, rfl, rfl, rfl, trivial⟩ ?_
        refine WO_end ?_
        refine WK_seq ?_
        refine WK_draw 9 [0, 1, 2, 3, 4, 5, 6, 7, 8] follows_ok (by kernel_rfl) St_closed ?_
        refine WO_pure tbok 2 [(0, .slice a_p0 p0.length c_p0), (1, .slice a_p1 p1.length c_p1), (4, .bool false), (5, .int .i64 s4), (12, .int .i64 (p0.length : Int)), (13, .int .i64 s4), (16, .slice a_p0 p0.length c_p0), (17, .int .i64 s4)] rfl ⟨rfl, rfl, rfl, rfl, rfl, rfl, rfl, rfl, trivial⟩ ?_
        obtain ⟨v15, hy16, hm8⟩ := bind_some hm8
        obtain ⟨hc17, hy16⟩ := ix_some hy16
        refine WO_index tbok rfl rfl rfl rfl rfl rfl rfl rfl (SlR.addr h_p0) hc17 ?_
        refine WO_loadE tbok rfl rfl rfl rfl (fun _ h => St.sat h) h_p0 hy16 rfl ?_
        refine WO_pure tbok 2 [(0, .slice a_p0 p0.length c_p0), (1, .slice a_p1 p1.length c_p1), (4, .bool false), (12, .int .i64 (p0.length : Int)), (13, .int .i64 s4), (19, .int .i64 v15), (20, .slice a_p1 p1.length c_p1), (21, .int .i64 s4)] rfl ⟨rfl, rfl, rfl, rfl, rfl, rfl, rfl, rfl, trivial⟩ ?_
        obtain ⟨v18, hy19, hm8⟩ := bind_some hm8
        obtain ⟨hc20, hy19⟩ := ix_some hy19
        refine WO_index tbok rfl rfl rfl rfl rfl rfl rfl rfl (SlR.addr h_p1) hc20 ?_
        refine WO_loadE tbok rfl rfl rfl rfl (fun _ h => St.sat h) h_p1 hy19 rfl ?_
        refine WO_pure tbok 1 [(0, .slice a_p0 p0.length c_p0), (1, .slice a_p1 p1.length c_p1), (4, .bool false), (12, .int .i64 (p0.length : Int)), (13, .int .i64 s4), (24, .bool (v15 != v18))] rfl ⟨rfl, rfl, rfl, rfl, rfl, rfl, trivial⟩ ?_
        refine WO_tail ?_
        refine WO_end ?_
        refine WK_cond (b := v15 != v18) rfl (fun hb21 => ?_) (fun hb21 => ?_)
        · have hm8 := ifT hb21 hm8
          refine WK_seq ?_
          refine WK_region ?_
          refine WO_pure tbok 1 [(0, .slice a_p0 p0.length c_p0), (1, .slice a_p1 p1.length c_p1), (4, .bool false), (12, .int .i64 (p0.length : Int)), (13, .int .i64 s4)] rfl ⟨rfl, rfl, rfl, rfl, rfl, trivial⟩ ?_
          refine WO_end ?_
          cases hm8
          have hq := hd12 _ rfl
          subst hq
          have hm : some _ = some _ := hm
          cases hm
          exact WK_ret (ret_out (L := []) (RLc_tmp rfl RLc_nil) (List.nil_sublist _) rfl)
        · have hm8 := ifF hb21 hm8
          refine WK_skip ?_
          refine WK_blk ?_
          refine WK_region ?_
          refine WO_pure tbok 2 [(0, .slice a_p0 p0.length c_p0), (1, .slice a_p1 p1.length c_p1), (4, .bool false), (12, .int .i64 (p0.length : Int)), (13, .int .i64 (w64 (s4 + 1)))] rfl ⟨rfl, rfl, rfl, rfl, rfl, trivial⟩ ?_
          refine WO_end ?_
          cases hm8
          refine WK.sub ?_ (WK.cls (fun _ h => h) (hn11 _ () rfl trivial))
          exact ⟨rfl, rfl, rfl, rfl, rfl, trivial⟩
      · have hm8 := ifF hb14 hm8
        refine WK_exit rfl ?_
        cases hm8
        refine WK.sub ?_ (WK.cls (fun _ h => h) (hk7 ((), ()) (hd12 _ rfl)))
        exact ⟨rfl, trivial⟩
theorem fiduciallaw13_known_walk {m : Mu}    {r : Bool} (hm : fiduciallaw13_known = some r) :
    Go.E.Spec Try.prog 11 [] m (fun v _ _ => v = .bool r) := by
  refine Spec_enter Try.func11 rfl rfl rfl (fun w0 => ?_)
  refine WK.sub (e' := []) trivial ?_
  refine WK.sub (e' := []) trivial ?_
  unfold fiduciallaw13_known at hm
  refine WK_seq ?_
  refine WK_region ?_
  refine WO_pure tbok 1 [(0, .bool false)] rfl ⟨rfl, trivial⟩ ?_
  refine WO_end ?_
  refine WK_seq ?_
  refine WK_region ?_
  refine WO_bslice (E := (I1 .i64)) tbok (fun _ => rfl) (by decide) [.int .i64 1, .int .i64 2, .int .i64 3, .int .i64 4] ([1, 2, 3, 4] : List Int) rfl rfl trivial rfl rfl rfl rfl rfl rfl rfl rfl rfl rfl rfl rfl (fun b1 hb1 => ?_)
  refine WO.cls (C' := St w0 m m [[⟨b1, 3, ([1, 2, 3, 4] : List Int).flatMap (I1 .i64)⟩]]) (fun _ h => h) ?_
  refine WO_pure tbok 1 [(0, .bool false), (7, .agg #[.int .i64 2, .int .i64 2, .int .i64 9, .slice (some ⟨b1, 0, none⟩) 4 4])] rfl ⟨rfl, rfl, trivial⟩ ?_
  refine WO_alloc tbok [.int .i64 0, .int .i64 0, .int .i64 0, .slice none 0 0] rfl rfl trivial rfl rfl rfl rfl (fun b3 => ?_)
  refine WO.cls (C' := St w0 m m [[⟨b1, 3, ([1, 2, 3, 4] : List Int).flatMap (I1 .i64)⟩], [⟨b3, 24, [.int .i64 0, .int .i64 0, .int .i64 0, .slice none 0 0]⟩]]) (fun _ h => h) ?_
  refine WO_storeB tbok 1 [.int .i64 2, .int .i64 2, .int .i64 9, .slice (some ⟨b1, 0, none⟩) 4 4] rfl rfl rfl rfl rfl rfl rfl ?_
  refine WO.cls (C' := St w0 m m [[⟨b1, 3, ([1, 2, 3, 4] : List Int).flatMap (I1 .i64)⟩], [⟨b3, 24, [.int .i64 2, .int .i64 2, .int .i64 9, .slice (some ⟨b1, 0, none⟩) 4 4]⟩]]) (fun _ h => h) ?_
  refine WO_end ?_
  refine WK_seq ?_
  refine WK_region ?_
  refine WO_loadB tbok 1 rfl rfl rfl rfl (fun _ h => h) rfl rfl ?_
  obtain ⟨⟨y4, y5, y6, y7, y8⟩, hc9, hm⟩ := bind_some hm
  refine WO_call1 (raster_Turn_Q (y4, y5, y6, y7, y8)) rfl rfl trivial rfl rfl rfl rfl ⟨13, #[], #[], rfl, callable_13, fun w hw => ⟨_, hw.satV, raster_Turn_walk (OwnE.rd (E := (I1 .i64)) (k := 1) (fun _ => rfl) hb1 (fun _ hx => hw.memV (i := 0) rfl hx)) hc9⟩⟩ (fun v14 L13 hq => ?_)
  obtain ⟨a10, qa10, c11, rfl, hL13⟩ := hq
  obtain rfl := OwnE.qlen hL13
  refine WO.cls (C' := St w0 m m [[⟨b1, 3, ([1, 2, 3, 4] : List Int).flatMap (I1 .i64)⟩], [⟨b3, 24, [.int .i64 2, .int .i64 2, .int .i64 9, .slice (some ⟨b1, 0, none⟩) 4 4]⟩], L13]) (fun _ h => h) ?_
  refine WO_pure tbok 3 [(0, .bool false), (1, .pointer (some ⟨b3, 0, none⟩)), (11, .agg #[.int .i64 y4, .int .i64 y5, .int .i64 y6, .slice a10 ((y7).length) c11]), (12, .int .i64 y8)] rfl ⟨rfl, rfl, rfl, rfl, trivial⟩ ?_
  refine WO_alloc tbok [.int .i64 0, .int .i64 0, .int .i64 0, .slice none 0 0] rfl rfl trivial rfl rfl rfl rfl (fun b15 => ?_)
  refine WO.cls (C' := St w0 m m [[⟨b1, 3, ([1, 2, 3, 4] : List Int).flatMap (I1 .i64)⟩], [⟨b3, 24, [.int .i64 2, .int .i64 2, .int .i64 9, .slice (some ⟨b1, 0, none⟩) 4 4]⟩], L13, [⟨b15, 24, [.int .i64 0, .int .i64 0, .int .i64 0, .slice none 0 0]⟩]]) (fun _ h => h) ?_
  refine WO_storeB tbok 3 [.int .i64 y4, .int .i64 y5, .int .i64 y6, .slice a10 ((y7).length) c11] rfl rfl rfl rfl rfl rfl rfl ?_
  refine WO.cls (C' := St w0 m m [[⟨b1, 3, ([1, 2, 3, 4] : List Int).flatMap (I1 .i64)⟩], [⟨b3, 24, [.int .i64 2, .int .i64 2, .int .i64 9, .slice (some ⟨b1, 0, none⟩) 4 4]⟩], L13, [⟨b15, 24, [.int .i64 y4, .int .i64 y5, .int .i64 y6, .slice a10 ((y7).length) c11]⟩]]) (fun _ h => h) ?_
  refine WO_pure tbok 1 [(0, .bool false), (1, .pointer (some ⟨b3, 0, none⟩)), (2, .pointer (some ⟨b15, 0, none⟩)), (3, .int .i64 y8)] rfl ⟨rfl, rfl, rfl, rfl, trivial⟩ ?_
  refine WO_end ?_
  refine WK_seq ?_
  refine WK_region ?_
  refine WO_loadB tbok 1 rfl rfl rfl rfl (fun _ h => h) rfl rfl ?_
  refine WO_freeze 0 rfl (fun m16 hle17 hmm18 => ?_)
  refine WO.cls (C' := St w0 m m16 [[], [⟨b3, 24, [.int .i64 2, .int .i64 2, .int .i64 9, .slice (some ⟨b1, 0, none⟩) 4 4]⟩], L13, [⟨b15, 24, [.int .i64 y4, .int .i64 y5, .int .i64 y6, .slice a10 ((y7).length) c11]⟩]]) (fun _ h => h) ?_
  obtain ⟨⟨y19, y20⟩, hc21, hm⟩ := bind_some hm
  refine WO_call2 (raster_Integral_Q (y19, y20)) rfl rfl trivial rfl rfl rfl rfl ⟨32, #[], #[], rfl, callable_32, raster_Integral_walk (OwnE.rd (E := (I1 .i64)) (k := 1) (fun _ => rfl) hb1 hmm18) hc21⟩ (fun v26 m27 L25 hle28 hq => ?_)
  obtain ⟨a22, qa22, c23, rfl, h29⟩ := hq
  obtain rfl := SlR.qlen h29
  refine WO.cls (C' := St w0 m m27 [[], [⟨b3, 24, [.int .i64 2, .int .i64 2, .int .i64 9, .slice (some ⟨b1, 0, none⟩) 4 4]⟩], L13, [⟨b15, 24, [.int .i64 y4, .int .i64 y5, .int .i64 y6, .slice a10 ((y7).length) c11]⟩], L25]) (fun _ h => h.sub (by simp)) ?_
  refine WO_pure tbok 5 [(0, .bool false), (2, .pointer (some ⟨b15, 0, none⟩)), (3, .int .i64 y8), (4, .slice a22 ((y19).length) c23), (5, .int .i64 y20)] rfl ⟨rfl, rfl, rfl, rfl, rfl, trivial⟩ ?_
  refine WO_end ?_
  refine WK_seq ?_
  refine WK_region ?_
  refine WO_pure tbok 3 [(0, .bool false), (2, .pointer (some ⟨b15, 0, none⟩)), (4, .slice a22 ((y19).length) c23), (5, .int .i64 y20), (20, .bool (y8 == 0))] rfl ⟨rfl, rfl, rfl, rfl, rfl, trivial⟩ ?_
  refine WO_split (d := 20) (b := y8 == 0) rfl (fun hb30 => ?_) (fun hb30 => ?_)
  · have hm := ifT hb30 hm
    refine WO_pure tbok 1 [(0, .bool false), (4, .slice a22 ((y19).length) c23), (5, .int .i64 y20), (20, .bool true), (21, .pointer (some ⟨b15, 3, none⟩))] rfl ⟨rfl, rfl, rfl, rfl, rfl, trivial⟩ ?_
    refine WO_loadB tbok 3 rfl rfl rfl rfl (fun _ h => h) rfl rfl ?_
    refine WO_bslice (E := (I1 .i64)) tbok (fun _ => rfl) (by decide) [.int .i64 2, .int .i64 4, .int .i64 1, .int .i64 3] ([2, 4, 1, 3] : List Int) rfl rfl trivial rfl rfl rfl rfl rfl rfl rfl rfl rfl rfl rfl rfl (fun b31 hb31 => ?_)
    refine WO.cls (C' := St w0 m m27 [[], [⟨b3, 24, [.int .i64 2, .int .i64 2, .int .i64 9, .slice (some ⟨b1, 0, none⟩) 4 4]⟩], L13, [⟨b15, 24, [.int .i64 y4, .int .i64 y5, .int .i64 y6, .slice a10 ((y7).length) c11]⟩], L25, [⟨b31, 3, ([2, 4, 1, 3] : List Int).flatMap (I1 .i64)⟩]]) (fun _ h => h) ?_
    obtain ⟨y33, hc34, hm⟩ := bind_some hm
    refine WO_call0 (.bool y33) rfl rfl trivial rfl rfl rfl rfl St_closed ⟨27, #[], #[], rfl, callable_27, fun w hw => ⟨_, hw.satV, slices_Equal_sint_walk (OwnE.rd (E := (I1 .i64)) (k := 1) (fun _ => rfl) hL13 (fun _ hx => hw.memV (i := 2) rfl hx)) (OwnE.rd (E := (I1 .i64)) (k := 1) (fun _ => rfl) hb31 (fun _ hx => hw.memV (i := 5) rfl hx)) hc34⟩⟩ ?_
    refine WO_pure tbok 2 [(0, .bool false), (4, .slice a22 ((y19).length) c23), (5, .int .i64 y20), (26, .bool y33)] rfl ⟨rfl, rfl, rfl, rfl, trivial⟩ ?_
    refine WO_split (d := 26) (b := y33) rfl (fun hb35 => ?_) (fun hb35 => ?_)
    · have hm := ifT hb35 hm
      refine WO_pure tbok 4 [(0, .bool false), (4, .slice a22 ((y19).length) c23), (30, .bool (y20 == 0))] rfl ⟨rfl, rfl, rfl, trivial⟩ ?_
      refine WO_split (d := 30) (b := y20 == 0) rfl (fun hb36 => ?_) (fun hb36 => ?_)
      · have hm := ifT hb36 hm
        refine WO_pure tbok 5 [(0, .bool false), (4, .slice a22 ((y19).length) c23), (35, .bool (((y19).length : Int) == 3))] rfl ⟨rfl, rfl, rfl, trivial⟩ ?_
        refine WO_split (d := 35) (b := ((y19).length : Int) == 3) rfl (fun hb37 => ?_) (fun hb37 => ?_)
        · have hm := ifT hb37 hm
          refine WO_pure tbok 1 [(0, .bool false), (35, .bool true), (36, .slice a22 ((y19).length) c23)] rfl ⟨rfl, rfl, rfl, trivial⟩ ?_
          obtain ⟨v38, hy39, hm⟩ := bind_some hm
          obtain ⟨hc40, hy39⟩ := ix_some hy39
          refine WO_index tbok rfl rfl rfl rfl rfl rfl rfl rfl (SlR.addr h29) hc40 ?_
          refine WO_loadR tbok rfl rfl rfl rfl (fun _ h => St.sat h) h29 hy39 rfl rfl (fun a41 c42 h43 => ?_)
          refine WO_bslice (E := (I1 .i64)) tbok (fun _ => rfl) (by decide) [.int .i64 0, .int .i64 4, .int .i64 10] ([0, 4, 10] : List Int) rfl rfl trivial rfl rfl rfl rfl rfl rfl rfl rfl rfl rfl rfl rfl (fun b45 hb45 => ?_)
          refine WO.cls (C' := St w0 m m27 [[], [⟨b3, 24, [.int .i64 2, .int .i64 2, .int .i64 9, .slice (some ⟨b1, 0, none⟩) 4 4]⟩], L13, [⟨b15, 24, [.int .i64 y4, .int .i64 y5, .int .i64 y6, .slice a10 ((y7).length) c11]⟩], L25, [⟨b31, 3, ([2, 4, 1, 3] : List Int).flatMap (I1 .i64)⟩], [⟨b45, 3, ([0, 4, 10] : List Int).flatMap (I1 .i64)⟩]]) (fun _ h => h) ?_
          obtain ⟨y47, hc48, hm⟩ := bind_some hm
          refine WO_call0 (.bool y47) rfl rfl trivial rfl rfl rfl rfl St_closed ⟨27, #[], #[], rfl, callable_27, fun w hw => ⟨_, hw.satV, slices_Equal_sint_walk (h43.mono (mono_FE _) hw.leV) (OwnE.rd (E := (I1 .i64)) (k := 1) (fun _ => rfl) hb45 (fun _ hx => hw.memV (i := 6) rfl hx)) hc48⟩⟩ ?_
          refine WO_pure tbok 2 [(0, .bool false), (42, .bool y47)] rfl ⟨rfl, rfl, trivial⟩ ?_
          refine WO_split (d := 42) (b := y47) rfl (fun hb49 => ?_) (fun hb49 => ?_)
          · have hm := ifT hb49 hm
            refine WO_pure tbok 1 [(0, .bool false), (42, .bool true), (43, .agg #[.int .i64 0, .int .i64 0, .int .i64 0, .slice none 0 0])] rfl ⟨rfl, rfl, rfl, trivial⟩ ?_
            obtain ⟨y50, hc51, hm⟩ := bind_some hm
            refine WO_call0 (.int .i64 y50) rfl rfl trivial rfl rfl rfl rfl St_closed ⟨20, #[], #[], rfl, callable_20, fun w hw => ⟨_, hw.sat, raster_Check_walk SlR_nil hc51⟩⟩ ?_
            refine WO_pure tbok 3 [(0, .bool (y50 == 1))] rfl ⟨rfl, trivial⟩ ?_
            refine WO_end ?_
            cases hm
            exact WK_ret (ret_out (L := []) (RLc_tmp rfl RLc_nil) (List.nil_sublist _) rfl)
          · have hm := ifF hb49 hm
            refine WO_pure tbok 1 [(0, .bool false), (42, .bool false)] rfl ⟨rfl, rfl, trivial⟩ ?_
            refine WO_skip rfl rfl ?_
            refine WO_pure tbok 3 [(0, .bool false)] rfl ⟨rfl, trivial⟩ ?_
            refine WO_end ?_
            cases hm
            exact WK_ret (ret_out (L := []) (RLc_tmp rfl RLc_nil) (List.nil_sublist _) rfl)
        · have hm := ifF hb37 hm
          refine WO_pure tbok 3 [(0, .bool false), (35, .bool false)] rfl ⟨rfl, rfl, trivial⟩ ?_
          refine WO_skip rfl rfl ?_
          refine WO_skip rfl rfl ?_
          refine WO_pure tbok 3 [(0, .bool false), (42, .bool false)] rfl ⟨rfl, rfl, trivial⟩ ?_
          refine WO_skip rfl rfl ?_
          refine WO_pure tbok 3 [(0, .bool false)] rfl ⟨rfl, trivial⟩ ?_
          refine WO_end ?_
          cases hm
          exact WK_ret (ret_out (L := []) (RLc_tmp rfl RLc_nil) (List.nil_sublist _) rfl)
      · have hm := ifF hb36 hm
        refine WO_pure tbok 8 [(0, .bool false), (35, .bool false)] rfl ⟨rfl, rfl, trivial⟩ ?_
        refine WO_skip rfl rfl ?_
        refine WO_skip rfl rfl ?_
        refine WO_pure tbok 3 [(0, .bool false), (42, .bool false)] rfl ⟨rfl, rfl, trivial⟩ ?_
        refine WO_skip rfl rfl ?_
        refine WO_pure tbok 3 [(0, .bool false)] rfl ⟨rfl, trivial⟩ ?_
        refine WO_end ?_
        cases hm
        exact WK_ret (ret_out (L := []) (RLc_tmp rfl RLc_nil) (List.nil_sublist _) rfl)
    · have hm := ifF hb35 hm
      refine WO_pure tbok 12 [(0, .bool false), (35, .bool false)] rfl ⟨rfl, rfl, trivial⟩ ?_
      refine WO_skip rfl rfl ?_
      refine WO_skip rfl rfl ?_
      refine WO_pure tbok 3 [(0, .bool false), (42, .bool false)] rfl ⟨rfl, rfl, trivial⟩ ?_
      refine WO_skip rfl rfl ?_
      refine WO_pure tbok 3 [(0, .bool false)] rfl ⟨rfl, trivial⟩ ?_
      refine WO_end ?_
      cases hm
      exact WK_ret (ret_out (L := []) (RLc_tmp rfl RLc_nil) (List.nil_sublist _) rfl)
  · have hm := ifF hb30 hm
    refine WO_pure tbok 2 [(0, .bool false), (4, .slice a22 ((y19).length) c23), (5, .int .i64 y20), (20, .bool false)] rfl ⟨rfl, rfl, rfl, rfl, trivial⟩ ?_
    refine WO_skip rfl rfl ?_
    refine WO_skip rfl rfl ?_
    refine WO_pure tbok 14 [(0, .bool false), (35, .bool false)] rfl ⟨rfl, rfl, trivial⟩ ?_
    refine WO_skip rfl rfl ?_
    refine WO_skip rfl rfl ?_
    refine WO_pure tbok 3 [(0, .bool false), (42, .bool false)] rfl ⟨rfl, rfl, trivial⟩ ?_
    refine WO_skip rfl rfl ?_
    refine WO_pure tbok 3 [(0, .bool false)] rfl ⟨rfl, trivial⟩ ?_
    refine WO_end ?_
    cases hm
    exact WK_ret (ret_out (L := []) (RLc_tmp rfl RLc_nil) (List.nil_sublist _) rfl)
theorem slices_IndexFunc_sapi_Raster_walk {m : Mu} {p0 : List (Int × Int × Int × List Int)} {p1 : Int → Int → Int → List Int → Option Bool} {a_p0 : Option Addr} {q_p0 c_p0 : Nat} {p1v : Value} (h_p0 : SlR El24 4 m (.slice a_p0 q_p0 c_p0) p0) (hp1 : ∀ (u1 : Int), ∀ (u2 : Int), ∀ (u3 : Int), ∀ (au4 : Option Addr) (qu4 cu4 : Nat) (u4 : List Int), SlR (FE (I1 .i64)) 1 m (.slice au4 qu4 cu4) u4 → ∀ (r : Bool), p1 u1 u2 u3 u4 = some r → SpecV Try.prog p1v [.agg #[.int .i64 u1, .int .i64 u2, .int .i64 u3, .slice au4 qu4 cu4]] m (fun v _ _ => v = .bool r)) {r : Int} (hm : slices_IndexFunc_sapi_Raster p0 p1 = some r) :
    Go.E.Spec Try.prog 65 [.slice a_p0 q_p0 c_p0, p1v] m (fun v _ _ => v = .int .i64 r) := by
  refine Spec_enter Try.func65 rfl rfl rfl (fun w0 => ?_)
  refine WK.sub (e' := [(0, .slice a_p0 q_p0 c_p0), (1, p1v)]) ⟨rfl, rfl, trivial⟩ ?_
  obtain rfl := SlR.qlen h_p0
  refine WK.sub (e' := [(0, .slice a_p0 p0.length c_p0), (1, p1v)]) ⟨rfl, rfl, trivial⟩ ?_
  unfold slices_IndexFunc_sapi_Raster at hm
  refine WK_seq ?_
  refine WK_region ?_
  refine WO_pure tbok 1 [(0, .slice a_p0 p0.length c_p0), (1, p1v), (4, .int .i64 0)] rfl ⟨rfl, rfl, rfl, trivial⟩ ?_
  refine WO_end ?_
  refine WK_seq ?_
  refine WK_seq ?_
  refine WK_region ?_
  refine WO_pure tbok 3 [(0, .slice a_p0 p0.length c_p0), (1, p1v), (4, .int .i64 0), (7, .int .i64 (p0.length : Int)), (8, .int .i64 0)] rfl ⟨rfl, rfl, rfl, rfl, rfl, trivial⟩ ?_
  refine WO_end ?_
  obtain ⟨x3, hx4, hm⟩ := bind_some hm
  refine WK_join (β := Unit × Unit) (fun p => Sum.inr p.1 = x3) (fun p => [(4, .int .i64 0)]) (fun p => St w0 m m []) ?_ (fun hk5 => ?_)
  · rintro ⟨⟨⟩, ⟨⟩⟩ hq11
    subst hq11
    refine WK.sub (e' := [(4, .int .i64 0)]) ⟨rfl, trivial⟩ (WK.cls (C' := St w0 m m []) (fun _ h => h) ?_)
    refine WK_seq ?_
    refine WK_region ?_
    refine WO_pure tbok 1 [(4, .int .i64 (-1))] rfl ⟨rfl, trivial⟩ ?_
    refine WO_end ?_
    cases hm
    exact WK_ret (ret_out (L := []) (RLc_tmp rfl RLc_nil) (List.nil_sublist _) rfl)
  · refine WK_block ?_
    refine WK_loop (S := Int) (G := Unit) (fun s => slices_IndexFunc_sapi_Raster_s1 p0 p1 s) (fun s g => [(0, .slice a_p0 p0.length c_p0), (1, p1v), (4, .int .i64 0), (7, .int .i64 (p0.length : Int)), (8, .int .i64 s)]) (fun s g => St w0 m m []) (fun s g => True) FUEL 0 () x3 hx4 trivial ⟨rfl, rfl, rfl, rfl, rfl, trivial⟩ (fun _ h => h) ?_
    rintro s2 ⟨⟩ o7 fl8 hm6 - hn9 hd10
    have hm6 : slices_IndexFunc_sapi_Raster_s1 p0 p1 s2 = some o7 := hm6
    unfold slices_IndexFunc_sapi_Raster_s1 at hm6
    refine WK.sub (e' := [(0, .slice a_p0 p0.length c_p0), (1, p1v), (4, .int .i64 0), (7, .int .i64 (p0.length : Int)), (8, .int .i64 s2)]) ⟨rfl, rfl, rfl, rfl, rfl, trivial⟩ (WK.cls (C' := St w0 m m []) (fun _ h => h) ?_)
    refine WK_seq ?_
    refine WK_region ?_
    refine WO_pure tbok 1 [(0, .slice a_p0 p0.length c_p0), (1, p1v), (4, .int .i64 0), (7, .int .i64 (p0.length : Int)), (8, .int .i64 s2), (9, .bool (decide (s2 < (p0.length : Int))))] rfl ⟨rfl, rfl, rfl, rfl, rfl, rfl, trivial⟩ ?_
    refine WO_end ?_
    refine WK_seq ?_
    refine WK_cond (b := decide (s2 < (p0.length : Int))) rfl (fun hb12 => ?_) (fun hb12 => ?_)
    · have hm6 := ifT hb12 hm6
      refine WK_skip ?_
      refine WK_seq ?_
      refine WK_block ?_
      refine WK_seq ?_
      refine WK_region ?_
      refine WO_pure tbok 2 [(0, .slice a_p0 p0.length c_p0), (1, p1v), (4, .int .i64 0), (5, .int .i64 s2), (7, .int .i64 (p0.length : Int)), (8, .int .i64 s2)] rfl ⟨rfl, rfl, rfl, rfl, rfl, rfl, trivial⟩ ?_
      refine WO_end ?_
      refine WK_seq ?_
      refine WK_region ?_
      refine WO_pure tbok 3 [(0, .slice a_p0 p0.length c_p0), (1, p1v), (4, .int .i64 0), (5, .int .i64 s2), (7, .int .i64 (p0.length : Int)), (8, .int .i64 s2), (11, p1v), (12, .slice a_p0 p0.length c_p0), (13, .int .i64 s2)] rfl ⟨rfl, rfl, rfl, rfl, rfl, rfl, rfl, rfl, rfl, trivial⟩ ?_
      obtain ⟨v13, hy14, hm6⟩ := bind_some hm6
      obtain ⟨hc15, hy14⟩ := ix_some hy14
      refine WO_index tbok rfl rfl rfl rfl rfl rfl rfl rfl (SlR.addr h_p0) hc15 ?_
      refine WO_loadX tbok rfl rfl rfl rfl (fun _ h => St.sat h) h_p0 hy14 (fun cs hcs => ?_)
      obtain ⟨a16, qa16, c17, rfl, h18⟩ := hcs
      obtain rfl := SlR.qlen h18
      refine ⟨_, rfl, ?_⟩
      obtain ⟨y20, hc21, hm6⟩ := bind_some hm6
      obtain ⟨f0, first0, cap0, hf0, hcal0, hsp0⟩ := hp1 v13.1 v13.2.1 v13.2.2.1 _ _ _ v13.2.2.2 h18 _ hc21
      refine WO_call0 (.bool y20) rfl rfl trivial rfl rfl rfl rfl St_closed ⟨f0, first0, cap0, hf0, hcal0, fun w hw => ⟨m, hw.sat, hsp0⟩⟩ ?_
      refine WO_end ?_
      refine WK_cond (b := y20) rfl (fun hb22 => ?_) (fun hb22 => ?_)
      · have hm6 := ifT hb22 hm6
        refine WK_seq ?_
        refine WK_region ?_
        refine WO_pure tbok 2 [(0, .slice a_p0 p0.length c_p0), (1, p1v), (4, .int .i64 s2), (7, .int .i64 (p0.length : Int)), (8, .int .i64 s2)] rfl ⟨rfl, rfl, rfl, rfl, rfl, trivial⟩ ?_
        refine WO_end ?_
        cases hm6
        have hq := hd10 _ rfl
        subst hq
        have hm : some _ = some _ := hm
        cases hm
        exact WK_ret (ret_out (L := []) (RLc_tmp rfl RLc_nil) (List.nil_sublist _) rfl)
      · have hm6 := ifF hb22 hm6
        refine WK_skip ?_
        refine WK_blk ?_
        refine WK_region ?_
        refine WO_pure tbok 2 [(0, .slice a_p0 p0.length c_p0), (1, p1v), (4, .int .i64 0), (7, .int .i64 (p0.length : Int)), (8, .int .i64 (w64 (s2 + 1)))] rfl ⟨rfl, rfl, rfl, rfl, rfl, trivial⟩ ?_
        refine WO_end ?_
        cases hm6
        refine WK.sub ?_ (WK.cls (fun _ h => h) (hn9 _ () rfl trivial))
        exact ⟨rfl, rfl, rfl, rfl, rfl, trivial⟩
    · have hm6 := ifF hb12 hm6
      refine WK_exit rfl ?_
      cases hm6
      refine WK.sub ?_ (WK.cls (fun _ h => h) (hk5 ((), ()) (hd10 _ rfl)))
      exact ⟨rfl, trivial⟩
theorem slices_ContainsFunc_sapi_Raster_walk {m : Mu} {p0 : List (Int × Int × Int × List Int)} {p1 : Int → Int → Int → List Int → Option Bool} {a_p0 : Option Addr} {q_p0 c_p0 : Nat} {p1v : Value} (h_p0 : SlR El24 4 m (.slice a_p0 q_p0 c_p0) p0) (hp1 : ∀ (u1 : Int), ∀ (u2 : Int), ∀ (u3 : Int), ∀ (au4 : Option Addr) (qu4 cu4 : Nat) (u4 : List Int), SlR (FE (I1 .i64)) 1 m (.slice au4 qu4 cu4) u4 → ∀ (r : Bool), p1 u1 u2 u3 u4 = some r → SpecV Try.prog p1v [.agg #[.int .i64 u1, .int .i64 u2, .int .i64 u3, .slice au4 qu4 cu4]] m (fun v _ _ => v = .bool r)) {r : Bool} (hm : slices_ContainsFunc_sapi_Raster p0 p1 = some r) :
    Go.E.Spec Try.prog 46 [.slice a_p0 q_p0 c_p0, p1v] m (fun v _ _ => v = .bool r) := by
  refine Spec_enter Try.func46 rfl rfl rfl (fun w0 => ?_)
  refine WK.sub (e' := [(0, .slice a_p0 q_p0 c_p0), (1, p1v)]) ⟨rfl, rfl, trivial⟩ ?_
  obtain rfl := SlR.qlen h_p0
  refine WK.sub (e' := [(0, .slice a_p0 p0.length c_p0), (1, p1v)]) ⟨rfl, rfl, trivial⟩ ?_
  unfold slices_ContainsFunc_sapi_Raster at hm
  refine WK_seq ?_
  refine WK_region ?_
  refine WO_pure tbok 1 [(0, .slice a_p0 p0.length c_p0), (1, p1v), (4, .bool false)] rfl ⟨rfl, rfl, rfl, trivial⟩ ?_
  refine WO_end ?_
  refine WK_seq ?_
  refine WK_region ?_
  refine WO_pure tbok 2 [(4, .bool false), (5, .slice a_p0 p0.length c_p0), (6, p1v)] rfl ⟨rfl, rfl, rfl, trivial⟩ ?_
  obtain ⟨y2, hc3, hm⟩ := bind_some hm
  refine WO_call0 (.int .i64 y2) rfl rfl trivial rfl rfl rfl rfl St_closed ⟨65, #[], #[], rfl, callable_65, fun w hw => ⟨_, hw.sat, slices_IndexFunc_sapi_Raster_walk h_p0 hp1 hc3⟩⟩ ?_
  refine WO_pure tbok 2 [(4, .bool (decide (0 ≤ y2)))] rfl ⟨rfl, trivial⟩ ?_
  refine WO_end ?_
  cases hm
  exact WK_ret (ret_out (L := []) (RLc_tmp rfl RLc_nil) (List.nil_sublist _) rfl)
theorem fiduciallaw13_few_c1_walk {m : Mu} {p0_0 : Int} {p0_1 : Int} {p0_2 : Int} {p0_3 : List Int} {a_p0_3 : Option Addr} {q_p0_3 c_p0_3 : Nat} (h_p0_3 : SlR (FE (I1 .i64)) 1 m (.slice a_p0_3 q_p0_3 c_p0_3) p0_3) {r : Bool} (hm : fiduciallaw13_few_c1 p0_0 p0_1 p0_2 p0_3 = some r) :
    Go.E.Spec Try.prog 47 [.agg #[.int .i64 p0_0, .int .i64 p0_1, .int .i64 p0_2, .slice a_p0_3 q_p0_3 c_p0_3]] m (fun v _ _ => v = .bool r) := by
  refine Spec_enter Try.func47 rfl rfl rfl (fun w0 => ?_)
  refine WK.sub (e' := [(0, .agg #[.int .i64 p0_0, .int .i64 p0_1, .int .i64 p0_2, .slice a_p0_3 q_p0_3 c_p0_3])]) ⟨rfl, trivial⟩ ?_
  obtain rfl := SlR.qlen h_p0_3
  refine WK.sub (e' := [(0, .agg #[.int .i64 p0_0, .int .i64 p0_1, .int .i64 p0_2, .slice a_p0_3 p0_3.length c_p0_3])]) ⟨rfl, trivial⟩ ?_
  unfold fiduciallaw13_few_c1 at hm
  refine WK_seq ?_
  refine WK_region ?_
  refine WO_box [.int .i64 p0_0, .int .i64 p0_1, .int .i64 p0_2, .slice a_p0_3 p0_3.length c_p0_3] rfl rfl trivial rfl rfl rfl (fun b2 => ?_)
  refine WO.cls (C' := St w0 m m [[⟨b2, 24, [.int .i64 p0_0, .int .i64 p0_1, .int .i64 p0_2, .slice a_p0_3 p0_3.length c_p0_3]⟩]]) (fun _ h => h) ?_
  refine WO_pure tbok 1 [(1, .pointer (some ⟨b2, 0, none⟩)), (2, .bool false)] rfl ⟨rfl, rfl, trivial⟩ ?_
  refine WO_end ?_
  refine WK_seq ?_
  refine WK_region ?_
  refine WO_pure tbok 1 [(2, .bool false), (3, .pointer (some ⟨b2, 3, none⟩))] rfl ⟨rfl, rfl, trivial⟩ ?_
  refine WO_loadB tbok 0 rfl rfl rfl rfl (fun _ h => h) rfl rfl ?_
  refine WO_pure tbok 3 [(2, .bool (decide (600 < (p0_3.length : Int))))] rfl ⟨rfl, trivial⟩ ?_
  refine WO_end ?_
  cases hm
  exact WK_ret (ret_out (L := []) (RLc_tmp rfl RLc_nil) (List.nil_sublist _) rfl)
theorem fiduciallaw13_few_walk {m : Mu} {p0 : List (Int × Int × Int × List Int)} {a_p0 : Option Addr} {q_p0 c_p0 : Nat} (h_p0 : SlR El24 4 m (.slice a_p0 q_p0 c_p0) p0) {r : Bool} (hm : fiduciallaw13_few p0 = some r) :
    Go.E.Spec Try.prog 12 [.slice a_p0 q_p0 c_p0] m (fun v _ _ => v = .bool r) := by
  refine Spec_enter Try.func12 rfl rfl rfl (fun w0 => ?_)
  refine WK.sub (e' := [(0, .slice a_p0 q_p0 c_p0)]) ⟨rfl, trivial⟩ ?_
  obtain rfl := SlR.qlen h_p0
  refine WK.sub (e' := [(0, .slice a_p0 p0.length c_p0)]) ⟨rfl, trivial⟩ ?_
  unfold fiduciallaw13_few at hm
  refine WK_seq ?_
  refine WK_region ?_
  refine WO_pure tbok 1 [(0, .slice a_p0 p0.length c_p0), (2, .bool false)] rfl ⟨rfl, rfl, trivial⟩ ?_
  refine WO_end ?_
  refine WK_seq ?_
  refine WK_region ?_
  refine WO_pure tbok 1 [(2, .bool false), (3, .slice a_p0 p0.length c_p0)] rfl ⟨rfl, rfl, trivial⟩ ?_
  obtain ⟨y7, hc8, hm⟩ := bind_some hm
  refine WO_call0 (.bool y7) rfl rfl trivial rfl rfl rfl rfl St_closed ⟨46, #[], #[], rfl, callable_46, fun w hw => ⟨_, hw.sat, slices_ContainsFunc_sapi_Raster_walk h_p0 (fun z2 z3 z4 _ _ _ z5 h6 _ h => specV_cap callable_47 (fiduciallaw13_few_c1_walk h6 h)) hc8⟩⟩ ?_
  refine WO_pure tbok 2 [(2, .bool (!y7))] rfl ⟨rfl, trivial⟩ ?_
  refine WO_end ?_
  cases hm
  exact WK_ret (ret_out (L := []) (RLc_tmp rfl RLc_nil) (List.nil_sublist _) rfl)
theorem raster_Mirror_c1_walk {m : Mu} {p0 : Int} {p1 : Int} {q0_0 : Int} {q0_1 : Int} {q0_2 : Int} {q0_3 : List Int} {a_q0_3 : Option Addr} {q_q0_3 c_q0_3 : Nat} {b_q0 : Nat} (hb_q0 : m b_q0 = some (Ent.obj ⟨b_q0, 24, [.int .i64 q0_0, .int .i64 q0_1, .int .i64 q0_2, .slice a_q0_3 q_q0_3 c_q0_3]⟩)) (h_q0_3 : SlR (FE (I1 .i64)) 1 m (.slice a_q0_3 q_q0_3 c_q0_3) q0_3) {r : Int} (hm : raster_Mirror_c1 p0 p1 q0_0 q0_1 q0_2 q0_3 = some r) :
    Go.E.Spec Try.prog 51 [.int .i64 p0, .int .i64 p1, .pointer (some ⟨b_q0, 0, none⟩)] m (fun v _ _ => v = .int .i64 r) := by
  refine Spec_enter Try.func51 rfl rfl rfl (fun w0 => ?_)
  refine WK.sub (e' := [(0, .int .i64 p0), (1, .int .i64 p1), (2, .pointer (some ⟨b_q0, 0, none⟩))]) ⟨rfl, rfl, rfl, trivial⟩ ?_
  obtain rfl := SlR.qlen h_q0_3
  refine WK.sub (e' := [(0, .int .i64 p0), (1, .int .i64 p1), (2, .pointer (some ⟨b_q0, 0, none⟩))]) ⟨rfl, rfl, rfl, trivial⟩ ?_
  unfold raster_Mirror_c1 at hm
  refine WK_seq ?_
  refine WK_region ?_
  refine WO_pure tbok 1 [(0, .int .i64 p0), (1, .int .i64 p1), (2, .pointer (some ⟨b_q0, 0, none⟩)), (5, .int .i64 0)] rfl ⟨rfl, rfl, rfl, rfl, trivial⟩ ?_
  refine WO_end ?_
  refine WK_seq ?_
  refine WK_region ?_
  refine WO_loadM tbok rfl rfl rfl rfl (fun _ h => St.sat h) hb_q0 rfl ?_
  refine WO_pure tbok 1 [(0, .int .i64 p0), (1, .int .i64 p1), (5, .int .i64 0), (6, .agg #[.int .i64 q0_0, .int .i64 q0_1, .int .i64 q0_2, .slice a_q0_3 q0_3.length c_q0_3]), (7, .pointer (some ⟨b_q0, 0, none⟩))] rfl ⟨rfl, rfl, rfl, rfl, rfl, trivial⟩ ?_
  refine WO_loadM tbok rfl rfl rfl rfl (fun _ h => St.sat h) hb_q0 rfl ?_
  refine WO_pure tbok 4 [(5, .int .i64 0), (6, .agg #[.int .i64 q0_0, .int .i64 q0_1, .int .i64 q0_2, .slice a_q0_3 q0_3.length c_q0_3]), (11, .int .i64 (w64 ((w64 (q0_0 - 1)) - p0))), (12, .int .i64 p1)] rfl ⟨rfl, rfl, rfl, rfl, trivial⟩ ?_
  obtain ⟨y2, hc3, hm⟩ := bind_some hm
  refine WO_call0 (.int .i64 y2) rfl rfl trivial rfl rfl rfl rfl St_closed ⟨50, #[], #[], rfl, callable_50, fun w hw => ⟨_, hw.sat, raster_at_walk h_q0_3 hc3⟩⟩ ?_
  refine WO_pure tbok 1 [(5, .int .i64 y2)] rfl ⟨rfl, trivial⟩ ?_
  refine WO_end ?_
  cases hm
  exact WK_ret (ret_out (L := []) (RLc_tmp rfl RLc_nil) (List.nil_sublist _) rfl)
def raster_Mirror_Q (r : Int × Int × Int × List Int × Int) : Value → List Ent → Prop := fun v L => ∃ (a0 : Option Addr) (q0 c0 : Nat), v = .tuple #[.agg #[.int .i64 r.1, .int .i64 r.2.1, .int .i64 r.2.2.1, .slice a0 q0 c0], .int .i64 r.2.2.2.2] ∧ OwnE 3 1 (I1 .i64) (.slice a0 q0 c0) r.2.2.2.1 L
theorem raster_Mirror_walk {m : Mu} {p0_0 : Int} {p0_1 : Int} {p0_2 : Int} {p0_3 : List Int} {a_p0_3 : Option Addr} {q_p0_3 c_p0_3 : Nat} (h_p0_3 : SlR (FE (I1 .i64)) 1 m (.slice a_p0_3 q_p0_3 c_p0_3) p0_3) {r : Int × Int × Int × List Int × Int} (hm : raster_Mirror p0_0 p0_1 p0_2 p0_3 = some r) :
    Go.E.Spec Try.prog 14 [.agg #[.int .i64 p0_0, .int .i64 p0_1, .int .i64 p0_2, .slice a_p0_3 q_p0_3 c_p0_3]] m (fun v _ L => raster_Mirror_Q r v L) := by
  refine Spec_enter Try.func14 rfl rfl rfl (fun w0 => ?_)
  refine WK.sub (e' := [(0, .agg #[.int .i64 p0_0, .int .i64 p0_1, .int .i64 p0_2, .slice a_p0_3 q_p0_3 c_p0_3])]) ⟨rfl, trivial⟩ ?_
  obtain rfl := SlR.qlen h_p0_3
  refine WK.sub (e' := [(0, .agg #[.int .i64 p0_0, .int .i64 p0_1, .int .i64 p0_2, .slice a_p0_3 p0_3.length c_p0_3])]) ⟨rfl, trivial⟩ ?_
  unfold raster_Mirror at hm
  refine WK_seq ?_
  refine WK_region ?_
  refine WO_box [.int .i64 p0_0, .int .i64 p0_1, .int .i64 p0_2, .slice a_p0_3 p0_3.length c_p0_3] rfl rfl trivial rfl rfl rfl (fun b2 => ?_)
  refine WO.cls (C' := St w0 m m [[⟨b2, 24, [.int .i64 p0_0, .int .i64 p0_1, .int .i64 p0_2, .slice a_p0_3 p0_3.length c_p0_3]⟩]]) (fun _ h => h) ?_
  refine WO_alloc tbok [.int .i64 0, .int .i64 0, .int .i64 0, .slice none 0 0] rfl rfl trivial rfl rfl rfl rfl (fun b3 => ?_)
  refine WO.cls (C' := St w0 m m [[⟨b2, 24, [.int .i64 p0_0, .int .i64 p0_1, .int .i64 p0_2, .slice a_p0_3 p0_3.length c_p0_3]⟩], [⟨b3, 24, [.int .i64 0, .int .i64 0, .int .i64 0, .slice none 0 0]⟩]]) (fun _ h => h) ?_
  refine WO_pure tbok 1 [(1, .pointer (some ⟨b2, 0, none⟩)), (2, .pointer (some ⟨b3, 0, none⟩)), (3, .int .i64 0)] rfl ⟨rfl, rfl, rfl, trivial⟩ ?_
  refine WO_end ?_
  refine WK_seq ?_
  refine WK_seq ?_
  refine WK_region ?_
  refine WO_loadB tbok 0 rfl rfl rfl rfl (fun _ h => h) rfl rfl ?_
  obtain ⟨y4, hc5, hm⟩ := bind_some hm
  refine WO_call0 (.int .i64 y4) rfl rfl trivial rfl rfl rfl rfl St_closed ⟨20, #[], #[], rfl, callable_20, fun w hw => ⟨_, hw.sat, raster_Check_walk h_p0_3 hc5⟩⟩ ?_
  refine WO_pure tbok 1 [(1, .pointer (some ⟨b2, 0, none⟩)), (2, .pointer (some ⟨b3, 0, none⟩)), (3, .int .i64 0), (4, .int .i64 y4)] rfl ⟨rfl, rfl, rfl, rfl, trivial⟩ ?_
  refine WO_end ?_
  refine WK_seq ?_
  refine WK_region ?_
  refine WO_pure tbok 2 [(1, .pointer (some ⟨b2, 0, none⟩)), (2, .pointer (some ⟨b3, 0, none⟩)), (3, .int .i64 0), (4, .int .i64 y4), (8, .bool (y4 != 0))] rfl ⟨rfl, rfl, rfl, rfl, rfl, trivial⟩ ?_
  refine WO_end ?_
  refine WK_cond (b := y4 != 0) rfl (fun hb6 => ?_) (fun hb6 => ?_)
  · have hm := ifT hb6 hm
    refine WK_seq ?_
    refine WK_region ?_
    refine WO_pure tbok 2 [(1, .pointer (some ⟨b2, 0, none⟩)), (2, .pointer (some ⟨b3, 0, none⟩)), (3, .int .i64 0), (9, .agg #[.int .i64 0, .int .i64 0, .int .i64 0, .slice none 0 0]), (10, .int .i64 y4)] rfl ⟨rfl, rfl, rfl, rfl, rfl, trivial⟩ ?_
    refine WO_storeB tbok 1 [.int .i64 0, .int .i64 0, .int .i64 0, .slice none 0 0] rfl rfl rfl rfl rfl rfl rfl ?_
    refine WO.cls (C' := St w0 m m [[⟨b2, 24, [.int .i64 p0_0, .int .i64 p0_1, .int .i64 p0_2, .slice a_p0_3 p0_3.length c_p0_3]⟩], [⟨b3, 24, [.int .i64 0, .int .i64 0, .int .i64 0, .slice none 0 0]⟩]]) (fun _ h => h) ?_
    refine WO_pure tbok 1 [(1, .pointer (some ⟨b2, 0, none⟩)), (2, .pointer (some ⟨b3, 0, none⟩)), (3, .int .i64 y4)] rfl ⟨rfl, rfl, rfl, trivial⟩ ?_
    refine WO_end ?_
    cases hm
    exact WK_ret (ret_out (L := []) (RLc_cell tbok 1 rfl rfl rfl (RLc_tmp rfl RLc_nil)) (List.nil_sublist _) ⟨none, 0, 0, rfl, (OwnE.nil none)⟩)
  · have hm := ifF hb6 hm
    refine WK_skip ?_
    refine WK_seq ?_
    refine WK_region ?_
    refine WO_pure tbok 1 [(1, .pointer (some ⟨b2, 0, none⟩)), (2, .pointer (some ⟨b3, 0, none⟩)), (3, .int .i64 0), (11, .pointer (some ⟨b2, 0, none⟩))] rfl ⟨rfl, rfl, rfl, rfl, trivial⟩ ?_
    refine WO_loadB tbok 0 rfl rfl rfl rfl (fun _ h => h) rfl rfl ?_
    refine WO_pure tbok 1 [(1, .pointer (some ⟨b2, 0, none⟩)), (2, .pointer (some ⟨b3, 0, none⟩)), (3, .int .i64 0), (12, .int .i64 p0_0), (13, .pointer (some ⟨b2, 1, none⟩))] rfl ⟨rfl, rfl, rfl, rfl, rfl, trivial⟩ ?_
    refine WO_loadB tbok 0 rfl rfl rfl rfl (fun _ h => h) rfl rfl ?_
    refine WO_pure tbok 1 [(1, .pointer (some ⟨b2, 0, none⟩)), (2, .pointer (some ⟨b3, 0, none⟩)), (3, .int .i64 0), (12, .int .i64 p0_0), (14, .int .i64 p0_1), (15, .pointer (some ⟨b2, 2, none⟩))] rfl ⟨rfl, rfl, rfl, rfl, rfl, rfl, trivial⟩ ?_
    refine WO_loadB tbok 0 rfl rfl rfl rfl (fun _ h => h) rfl rfl ?_
    refine WO_pure tbok 1 [(2, .pointer (some ⟨b3, 0, none⟩)), (3, .int .i64 0), (12, .int .i64 p0_0), (14, .int .i64 p0_1), (16, .int .i64 p0_2), (17, .func (.func 51) #[] #[.pointer (some ⟨b2, 0, none⟩)])] rfl ⟨rfl, rfl, rfl, rfl, rfl, rfl, trivial⟩ ?_
    obtain ⟨⟨y9, y10, y11, y12⟩, hc13, hm⟩ := bind_some hm
    refine WO_call1 (raster_made_Q (y9, y10, y11, y12)) rfl rfl trivial rfl rfl rfl rfl ⟨48, #[], #[], rfl, callable_48, fun w hw => ⟨_, hw.satV, raster_made_walk (fun z7 z8 _ h => specV_cap callable_51 (raster_Mirror_c1_walk (hw.memV (i := 0) rfl (List.mem_singleton.2 rfl)) (h_p0_3.mono (mono_FE _) hw.leV) h)) hc13⟩⟩ (fun v18 L17 hq => ?_)
    obtain ⟨a14, qa14, c15, rfl, hL17⟩ := hq
    obtain rfl := OwnE.qlen hL17
    refine WO.cls (C' := St w0 m m [[⟨b2, 24, [.int .i64 p0_0, .int .i64 p0_1, .int .i64 p0_2, .slice a_p0_3 p0_3.length c_p0_3]⟩], [⟨b3, 24, [.int .i64 0, .int .i64 0, .int .i64 0, .slice none 0 0]⟩], L17]) (fun _ h => h) ?_
    refine WO_storeB tbok 1 [.int .i64 y9, .int .i64 y10, .int .i64 y11, .slice a14 ((y12).length) c15] rfl rfl rfl rfl rfl rfl rfl ?_
    refine WO.cls (C' := St w0 m m [[⟨b2, 24, [.int .i64 p0_0, .int .i64 p0_1, .int .i64 p0_2, .slice a_p0_3 p0_3.length c_p0_3]⟩], [⟨b3, 24, [.int .i64 y9, .int .i64 y10, .int .i64 y11, .slice a14 ((y12).length) c15]⟩], L17]) (fun _ h => h) ?_
    refine WO_pure tbok 1 [(2, .pointer (some ⟨b3, 0, none⟩)), (3, .int .i64 0)] rfl ⟨rfl, rfl, trivial⟩ ?_
    refine WO_end ?_
    cases hm
    exact WK_ret (ret_out (L := L17) (RLc_cell tbok 1 rfl rfl rfl (RLc_tmp rfl RLc_nil)) (seg_sub 2 rfl) ⟨a14, ((y12).length), c15, rfl, hL17⟩)
theorem fiducialref13_Check_walk {m : Mu} {p0_0 : Int} {p0_1 : Int} {p0_2 : Int} {p0_3 : List Int} {a_p0_3 : Option Addr} {q_p0_3 c_p0_3 : Nat} (h_p0_3 : SlR (FE (I1 .i64)) 1 m (.slice a_p0_3 q_p0_3 c_p0_3) p0_3) {r : Int} (hm : fiducialref13_Check p0_0 p0_1 p0_2 p0_3 = some r) :
    Go.E.Spec Try.prog 15 [.agg #[.int .i64 p0_0, .int .i64 p0_1, .int .i64 p0_2, .slice a_p0_3 q_p0_3 c_p0_3]] m (fun v _ _ => v = .int .i64 r) := by
  refine Spec_enter Try.func15 rfl rfl rfl (fun w0 => ?_)
  refine WK.sub (e' := [(0, .agg #[.int .i64 p0_0, .int .i64 p0_1, .int .i64 p0_2, .slice a_p0_3 q_p0_3 c_p0_3])]) ⟨rfl, trivial⟩ ?_
  obtain rfl := SlR.qlen h_p0_3
  refine WK.sub (e' := [(0, .agg #[.int .i64 p0_0, .int .i64 p0_1, .int .i64 p0_2, .slice a_p0_3 p0_3.length c_p0_3])]) ⟨rfl, trivial⟩ ?_
  unfold fiducialref13_Check at hm
  refine WK_seq ?_
  refine WK_region ?_
  refine WO_box [.int .i64 p0_0, .int .i64 p0_1, .int .i64 p0_2, .slice a_p0_3 p0_3.length c_p0_3] rfl rfl trivial rfl rfl rfl (fun b2 => ?_)
  refine WO.cls (C' := St w0 m m [[⟨b2, 24, [.int .i64 p0_0, .int .i64 p0_1, .int .i64 p0_2, .slice a_p0_3 p0_3.length c_p0_3]⟩]]) (fun _ h => h) ?_
  refine WO_pure tbok 1 [(1, .pointer (some ⟨b2, 0, none⟩)), (2, .int .i64 0)] rfl ⟨rfl, rfl, trivial⟩ ?_
  refine WO_end ?_
  refine WK_seq ?_
  refine WK_seq ?_
  obtain ⟨s3, hx4, hm⟩ := bind_some hm
  refine WK_meet [(1, .pointer (some ⟨b2, 0, none⟩)), (2, .int .i64 0), (42, .bool s3)] (St w0 m m [[⟨b2, 24, [.int .i64 p0_0, .int .i64 p0_1, .int .i64 p0_2, .slice a_p0_3 p0_3.length c_p0_3]⟩]]) ?_ (fun hk5 => ?_)
  · refine WK_cond (b := s3) rfl (fun hb6 => ?_) (fun hb6 => ?_)
    · have hm := ifT hb6 hm
      refine WK_seq ?_
      refine WK_region ?_
      refine WO_pure tbok 1 [(1, .pointer (some ⟨b2, 0, none⟩)), (2, .int .i64 1)] rfl ⟨rfl, rfl, trivial⟩ ?_
      refine WO_end ?_
      cases hm
      exact WK_ret (ret_out (L := []) (RLc_tmp rfl RLc_nil) (List.nil_sublist _) rfl)
    · have hm := ifF hb6 hm
      refine WK_skip ?_
      refine WK_seq ?_
      refine WK_seq ?_
      refine WK_region ?_
      refine WO_pure tbok 1 [(1, .pointer (some ⟨b2, 0, none⟩)), (2, .int .i64 0), (3, .int .i64 0)] rfl ⟨rfl, rfl, rfl, trivial⟩ ?_
      refine WO_end ?_
      obtain ⟨x8, hx9, hm⟩ := bind_some hm
      refine WK_join (β := Unit × Unit) (fun p => Sum.inr p.1 = x8) (fun p => [(2, .int .i64 0)]) (fun p => St w0 m m [[⟨b2, 24, [.int .i64 p0_0, .int .i64 p0_1, .int .i64 p0_2, .slice a_p0_3 p0_3.length c_p0_3]⟩]]) ?_ (fun hk10 => ?_)
      · rintro ⟨⟨⟩, ⟨⟩⟩ hq16
        subst hq16
        refine WK.sub (e' := [(2, .int .i64 0)]) ⟨rfl, trivial⟩ (WK.cls (C' := St w0 m m [[⟨b2, 24, [.int .i64 p0_0, .int .i64 p0_1, .int .i64 p0_2, .slice a_p0_3 p0_3.length c_p0_3]⟩]]) (fun _ h => h) ?_)
        refine WK_seq ?_
        refine WK_region ?_
        refine WO_pure tbok 1 [(2, .int .i64 0)] rfl ⟨rfl, trivial⟩ ?_
        refine WO_end ?_
        cases hm
        exact WK_ret (ret_out (L := []) (RLc_tmp rfl RLc_nil) (List.nil_sublist _) rfl)
      · refine WK_block ?_
        refine WK_loop (S := Int) (G := Unit) (fun s => fiducialref13_Check_s1 p0_2 p0_3 s) (fun s g => [(1, .pointer (some ⟨b2, 0, none⟩)), (2, .int .i64 0), (3, .int .i64 s)]) (fun s g => St w0 m m [[⟨b2, 24, [.int .i64 p0_0, .int .i64 p0_1, .int .i64 p0_2, .slice a_p0_3 p0_3.length c_p0_3]⟩]]) (fun s g => True) FUEL 0 () x8 hx9 trivial ⟨rfl, rfl, rfl, trivial⟩ (fun _ h => h) ?_
        rintro s7 ⟨⟩ o12 fl13 hm11 - hn14 hd15
        have hm11 : fiducialref13_Check_s1 p0_2 p0_3 s7 = some o12 := hm11
        unfold fiducialref13_Check_s1 at hm11
        refine WK.sub (e' := [(1, .pointer (some ⟨b2, 0, none⟩)), (2, .int .i64 0), (3, .int .i64 s7)]) ⟨rfl, rfl, rfl, trivial⟩ (WK.cls (C' := St w0 m m [[⟨b2, 24, [.int .i64 p0_0, .int .i64 p0_1, .int .i64 p0_2, .slice a_p0_3 p0_3.length c_p0_3]⟩]]) (fun _ h => h) ?_)
        refine WK_seq ?_
        refine WK_seq ?_
        refine WK_region ?_
        refine WO_pure tbok 2 [(1, .pointer (some ⟨b2, 0, none⟩)), (2, .int .i64 0), (3, .int .i64 s7), (43, .int .i64 s7), (44, .pointer (some ⟨b2, 3, none⟩))] rfl ⟨rfl, rfl, rfl, rfl, rfl, trivial⟩ ?_
        refine WO_loadB tbok 0 rfl rfl rfl rfl (fun _ h => h) rfl rfl ?_
        refine WO_pure tbok 2 [(1, .pointer (some ⟨b2, 0, none⟩)), (2, .int .i64 0), (3, .int .i64 s7), (47, .bool (decide (s7 < (p0_3.length : Int))))] rfl ⟨rfl, rfl, rfl, rfl, trivial⟩ ?_
        refine WO_end ?_
        refine WK_cond (b := decide (s7 < (p0_3.length : Int))) rfl (fun hb17 => ?_) (fun hb17 => ?_)
        · have hm11 := ifT hb17 hm11
          refine WK_skip ?_
          refine WK_seq ?_
          refine WK_block ?_
          refine WK_seq ?_
          obtain ⟨s18, hx19, hm11⟩ := bind_some hm11
          refine WK_meet [(1, .pointer (some ⟨b2, 0, none⟩)), (2, .int .i64 0), (3, .int .i64 s7), (65, .bool s18)] (St w0 m m [[⟨b2, 24, [.int .i64 p0_0, .int .i64 p0_1, .int .i64 p0_2, .slice a_p0_3 p0_3.length c_p0_3]⟩]]) ?_ (fun hk20 => ?_)
          · refine WK_cond (b := s18) rfl (fun hb21 => ?_) (fun hb21 => ?_)
            · have hm11 := ifT hb21 hm11
              refine WK_seq ?_
              refine WK_region ?_
              refine WO_pure tbok 1 [(1, .pointer (some ⟨b2, 0, none⟩)), (2, .int .i64 1), (3, .int .i64 s7)] rfl ⟨rfl, rfl, rfl, trivial⟩ ?_
              refine WO_end ?_
              cases hm11
              have hq := hd15 _ rfl
              subst hq
              have hm : some _ = some _ := hm
              cases hm
              exact WK_ret (ret_out (L := []) (RLc_tmp rfl RLc_nil) (List.nil_sublist _) rfl)
            · have hm11 := ifF hb21 hm11
              refine WK_skip ?_
              refine WK_blk ?_
              refine WK_region ?_
              refine WO_pure tbok 3 [(1, .pointer (some ⟨b2, 0, none⟩)), (2, .int .i64 0), (3, .int .i64 (w64 (s7 + 1)))] rfl ⟨rfl, rfl, rfl, trivial⟩ ?_
              refine WO_end ?_
              cases hm11
              refine WK.sub ?_ (WK.cls (fun _ h => h) (hn14 _ () rfl trivial))
              exact ⟨rfl, rfl, rfl, trivial⟩
          · refine WK_draw 16 [0, 1, 2, 3, 4, 5, 6, 7, 8, 9, 10, 11, 12, 13, 14, 15] follows_ok (by kernel_rfl) St_closed ?_
            refine WO_pure tbok 1 [(1, .pointer (some ⟨b2, 0, none⟩)), (2, .int .i64 0), (3, .int .i64 s7), (50, .pointer (some ⟨b2, 3, none⟩))] rfl ⟨rfl, rfl, rfl, rfl, trivial⟩ ?_
            refine WO_loadB tbok 0 rfl rfl rfl rfl (fun _ h => h) rfl rfl ?_
            refine WO_pure tbok 1 [(1, .pointer (some ⟨b2, 0, none⟩)), (2, .int .i64 0), (3, .int .i64 s7), (51, .slice a_p0_3 p0_3.length c_p0_3), (52, .int .i64 s7)] rfl ⟨rfl, rfl, rfl, rfl, rfl, trivial⟩ ?_
            obtain ⟨v22, hy23, hx19⟩ := bind_some hx19
            obtain ⟨hc24, hy23⟩ := ix_some hy23
            refine WO_index tbok rfl rfl rfl rfl rfl rfl rfl rfl (SlR.addr h_p0_3) hc24 ?_
            refine WO_loadE tbok rfl rfl rfl rfl (fun _ h => St.sat h) h_p0_3 hy23 rfl ?_
            refine WO_pure tbok 2 [(1, .pointer (some ⟨b2, 0, none⟩)), (2, .int .i64 0), (3, .int .i64 s7), (56, .bool (decide (v22 < 0)))] rfl ⟨rfl, rfl, rfl, rfl, trivial⟩ ?_
            refine WO_split (d := 56) (b := decide (v22 < 0)) rfl (fun hb25 => ?_) (fun hb25 => ?_)
            · have hx19 := ifT hb25 hx19
              refine WO_pure tbok 9 [(1, .pointer (some ⟨b2, 0, none⟩)), (2, .int .i64 0), (3, .int .i64 s7), (65, .bool true)] rfl ⟨rfl, rfl, rfl, rfl, trivial⟩ ?_
              refine WO_tail ?_
              refine WO_end ?_
              cases hx19
              refine WK.sub ?_ (WK.cls (fun _ h => h) hk20)
              exact ⟨rfl, rfl, rfl, rfl, trivial⟩
            · have hx19 := ifF hb25 hx19
              refine WO_pure tbok 1 [(1, .pointer (some ⟨b2, 0, none⟩)), (2, .int .i64 0), (3, .int .i64 s7), (56, .bool false), (57, .pointer (some ⟨b2, 3, none⟩))] rfl ⟨rfl, rfl, rfl, rfl, rfl, trivial⟩ ?_
              refine WO_loadB tbok 0 rfl rfl rfl rfl (fun _ h => h) rfl rfl ?_
              refine WO_pure tbok 1 [(1, .pointer (some ⟨b2, 0, none⟩)), (2, .int .i64 0), (3, .int .i64 s7), (56, .bool false), (58, .slice a_p0_3 p0_3.length c_p0_3), (59, .int .i64 s7)] rfl ⟨rfl, rfl, rfl, rfl, rfl, rfl, trivial⟩ ?_
              obtain ⟨v26, hy27, hx19⟩ := bind_some hx19
              obtain ⟨hc28, hy27⟩ := ix_some hy27
              refine WO_index tbok rfl rfl rfl rfl rfl rfl rfl rfl (SlR.addr h_p0_3) hc28 ?_
              refine WO_loadE tbok rfl rfl rfl rfl (fun _ h => St.sat h) h_p0_3 hy27 rfl ?_
              refine WO_pure tbok 1 [(1, .pointer (some ⟨b2, 0, none⟩)), (2, .int .i64 0), (3, .int .i64 s7), (56, .bool false), (61, .int .i64 v26), (62, .pointer (some ⟨b2, 2, none⟩))] rfl ⟨rfl, rfl, rfl, rfl, rfl, rfl, trivial⟩ ?_
              refine WO_loadB tbok 0 rfl rfl rfl rfl (fun _ h => h) rfl rfl ?_
              refine WO_pure tbok 2 [(1, .pointer (some ⟨b2, 0, none⟩)), (2, .int .i64 0), (3, .int .i64 s7), (65, .bool (decide (p0_2 < v26)))] rfl ⟨rfl, rfl, rfl, rfl, trivial⟩ ?_
              refine WO_tail ?_
              refine WO_end ?_
              cases hx19
              refine WK.sub ?_ (WK.cls (fun _ h => h) hk20)
              exact ⟨rfl, rfl, rfl, rfl, trivial⟩
        · have hm11 := ifF hb17 hm11
          refine WK_exit rfl ?_
          cases hm11
          refine WK.sub ?_ (WK.cls (fun _ h => h) (hk10 ((), ()) (hd15 _ rfl)))
          exact ⟨rfl, trivial⟩
  · refine WK_region ?_
    refine WO_pure tbok 1 [(1, .pointer (some ⟨b2, 0, none⟩)), (2, .int .i64 0), (4, .pointer (some ⟨b2, 0, none⟩))] rfl ⟨rfl, rfl, rfl, trivial⟩ ?_
    refine WO_loadB tbok 0 rfl rfl rfl rfl (fun _ h => h) rfl rfl ?_
    refine WO_pure tbok 2 [(1, .pointer (some ⟨b2, 0, none⟩)), (2, .int .i64 0), (7, .bool (decide (p0_0 < 1)))] rfl ⟨rfl, rfl, rfl, trivial⟩ ?_
    refine WO_split (d := 7) (b := decide (p0_0 < 1)) rfl (fun hb29 => ?_) (fun hb29 => ?_)
    · have hx4 := ifT hb29 hx4
      refine WO_pure tbok 35 [(1, .pointer (some ⟨b2, 0, none⟩)), (2, .int .i64 0), (42, .bool true)] rfl ⟨rfl, rfl, rfl, trivial⟩ ?_
      refine WO_end ?_
      cases hx4
      refine WK.sub ?_ (WK.cls (fun _ h => h) hk5)
      exact ⟨rfl, rfl, rfl, trivial⟩
    · have hx4 := ifF hb29 hx4
      refine WO_pure tbok 1 [(1, .pointer (some ⟨b2, 0, none⟩)), (2, .int .i64 0), (7, .bool false), (8, .pointer (some ⟨b2, 0, none⟩))] rfl ⟨rfl, rfl, rfl, rfl, trivial⟩ ?_
      refine WO_loadB tbok 0 rfl rfl rfl rfl (fun _ h => h) rfl rfl ?_
      refine WO_pure tbok 3 [(1, .pointer (some ⟨b2, 0, none⟩)), (2, .int .i64 0), (12, .bool (decide (64 < p0_0)))] rfl ⟨rfl, rfl, rfl, trivial⟩ ?_
      refine WO_split (d := 12) (b := decide (64 < p0_0)) rfl (fun hb30 => ?_) (fun hb30 => ?_)
      · have hx4 := ifT hb30 hx4
        refine WO_pure tbok 30 [(1, .pointer (some ⟨b2, 0, none⟩)), (2, .int .i64 0), (42, .bool true)] rfl ⟨rfl, rfl, rfl, trivial⟩ ?_
        refine WO_end ?_
        cases hx4
        refine WK.sub ?_ (WK.cls (fun _ h => h) hk5)
        exact ⟨rfl, rfl, rfl, trivial⟩
      · have hx4 := ifF hb30 hx4
        refine WO_pure tbok 1 [(1, .pointer (some ⟨b2, 0, none⟩)), (2, .int .i64 0), (12, .bool false), (13, .pointer (some ⟨b2, 1, none⟩))] rfl ⟨rfl, rfl, rfl, rfl, trivial⟩ ?_
        refine WO_loadB tbok 0 rfl rfl rfl rfl (fun _ h => h) rfl rfl ?_
        refine WO_pure tbok 3 [(1, .pointer (some ⟨b2, 0, none⟩)), (2, .int .i64 0), (17, .bool (decide (p0_1 < 1)))] rfl ⟨rfl, rfl, rfl, trivial⟩ ?_
        refine WO_split (d := 17) (b := decide (p0_1 < 1)) rfl (fun hb31 => ?_) (fun hb31 => ?_)
        · have hx4 := ifT hb31 hx4
          refine WO_pure tbok 25 [(1, .pointer (some ⟨b2, 0, none⟩)), (2, .int .i64 0), (42, .bool true)] rfl ⟨rfl, rfl, rfl, trivial⟩ ?_
          refine WO_end ?_
          cases hx4
          refine WK.sub ?_ (WK.cls (fun _ h => h) hk5)
          exact ⟨rfl, rfl, rfl, trivial⟩
        · have hx4 := ifF hb31 hx4
          refine WO_pure tbok 1 [(1, .pointer (some ⟨b2, 0, none⟩)), (2, .int .i64 0), (17, .bool false), (18, .pointer (some ⟨b2, 1, none⟩))] rfl ⟨rfl, rfl, rfl, rfl, trivial⟩ ?_
          refine WO_loadB tbok 0 rfl rfl rfl rfl (fun _ h => h) rfl rfl ?_
          refine WO_pure tbok 3 [(1, .pointer (some ⟨b2, 0, none⟩)), (2, .int .i64 0), (22, .bool (decide (64 < p0_1)))] rfl ⟨rfl, rfl, rfl, trivial⟩ ?_
          refine WO_split (d := 22) (b := decide (64 < p0_1)) rfl (fun hb32 => ?_) (fun hb32 => ?_)
          · have hx4 := ifT hb32 hx4
            refine WO_pure tbok 20 [(1, .pointer (some ⟨b2, 0, none⟩)), (2, .int .i64 0), (42, .bool true)] rfl ⟨rfl, rfl, rfl, trivial⟩ ?_
            refine WO_end ?_
            cases hx4
            refine WK.sub ?_ (WK.cls (fun _ h => h) hk5)
            exact ⟨rfl, rfl, rfl, trivial⟩
          · have hx4 := ifF hb32 hx4
            refine WO_pure tbok 1 [(1, .pointer (some ⟨b2, 0, none⟩)), (2, .int .i64 0), (22, .bool false), (23, .pointer (some ⟨b2, 2, none⟩))] rfl ⟨rfl, rfl, rfl, rfl, trivial⟩ ?_
            refine WO_loadB tbok 0 rfl rfl rfl rfl (fun _ h => h) rfl rfl ?_
            refine WO_pure tbok 3 [(1, .pointer (some ⟨b2, 0, none⟩)), (2, .int .i64 0), (27, .bool (decide (p0_2 < 1)))] rfl ⟨rfl, rfl, rfl, trivial⟩ ?_
            refine WO_split (d := 27) (b := decide (p0_2 < 1)) rfl (fun hb33 => ?_) (fun hb33 => ?_)
            · have hx4 := ifT hb33 hx4
              refine WO_pure tbok 15 [(1, .pointer (some ⟨b2, 0, none⟩)), (2, .int .i64 0), (42, .bool true)] rfl ⟨rfl, rfl, rfl, trivial⟩ ?_
              refine WO_end ?_
              cases hx4
              refine WK.sub ?_ (WK.cls (fun _ h => h) hk5)
              exact ⟨rfl, rfl, rfl, trivial⟩
            · have hx4 := ifF hb33 hx4
              refine WO_pure tbok 1 [(1, .pointer (some ⟨b2, 0, none⟩)), (2, .int .i64 0), (27, .bool false), (28, .pointer (some ⟨b2, 2, none⟩))] rfl ⟨rfl, rfl, rfl, rfl, trivial⟩ ?_
              refine WO_loadB tbok 0 rfl rfl rfl rfl (fun _ h => h) rfl rfl ?_
              refine WO_pure tbok 3 [(1, .pointer (some ⟨b2, 0, none⟩)), (2, .int .i64 0), (32, .bool (decide (65535 < p0_2)))] rfl ⟨rfl, rfl, rfl, trivial⟩ ?_
              refine WO_split (d := 32) (b := decide (65535 < p0_2)) rfl (fun hb34 => ?_) (fun hb34 => ?_)
              · have hx4 := ifT hb34 hx4
                refine WO_pure tbok 10 [(1, .pointer (some ⟨b2, 0, none⟩)), (2, .int .i64 0), (42, .bool true)] rfl ⟨rfl, rfl, rfl, trivial⟩ ?_
                refine WO_end ?_
                cases hx4
                refine WK.sub ?_ (WK.cls (fun _ h => h) hk5)
                exact ⟨rfl, rfl, rfl, trivial⟩
              · have hx4 := ifF hb34 hx4
                refine WO_pure tbok 1 [(1, .pointer (some ⟨b2, 0, none⟩)), (2, .int .i64 0), (32, .bool false), (33, .pointer (some ⟨b2, 3, none⟩))] rfl ⟨rfl, rfl, rfl, rfl, trivial⟩ ?_
                refine WO_loadB tbok 0 rfl rfl rfl rfl (fun _ h => h) rfl rfl ?_
                refine WO_pure tbok 2 [(1, .pointer (some ⟨b2, 0, none⟩)), (2, .int .i64 0), (32, .bool false), (35, .int .i64 (p0_3.length : Int)), (36, .pointer (some ⟨b2, 0, none⟩))] rfl ⟨rfl, rfl, rfl, rfl, rfl, trivial⟩ ?_
                refine WO_loadB tbok 0 rfl rfl rfl rfl (fun _ h => h) rfl rfl ?_
                refine WO_pure tbok 1 [(1, .pointer (some ⟨b2, 0, none⟩)), (2, .int .i64 0), (32, .bool false), (35, .int .i64 (p0_3.length : Int)), (37, .int .i64 p0_0), (38, .pointer (some ⟨b2, 1, none⟩))] rfl ⟨rfl, rfl, rfl, rfl, rfl, rfl, trivial⟩ ?_
                refine WO_loadB tbok 0 rfl rfl rfl rfl (fun _ h => h) rfl rfl ?_
                refine WO_pure tbok 3 [(1, .pointer (some ⟨b2, 0, none⟩)), (2, .int .i64 0), (42, .bool ((p0_3.length : Int) != (w64 (p0_0 * p0_1))))] rfl ⟨rfl, rfl, rfl, trivial⟩ ?_
                refine WO_end ?_
                cases hx4
                refine WK.sub ?_ (WK.cls (fun _ h => h) hk5)
                exact ⟨rfl, rfl, rfl, trivial⟩
theorem fiducialref13_Equal_walk {m : Mu} {p0_0 : Int} {p0_1 : Int} {p0_2 : Int} {p0_3 : List Int} {p1_0 : Int} {p1_1 : Int} {p1_2 : Int} {p1_3 : List Int} {a_p0_3 : Option Addr} {q_p0_3 c_p0_3 : Nat} {a_p1_3 : Option Addr} {q_p1_3 c_p1_3 : Nat} (h_p0_3 : SlR (FE (I1 .i64)) 1 m (.slice a_p0_3 q_p0_3 c_p0_3) p0_3) (h_p1_3 : SlR (FE (I1 .i64)) 1 m (.slice a_p1_3 q_p1_3 c_p1_3) p1_3) {r : Bool} (hm : fiducialref13_Equal p0_0 p0_1 p0_2 p0_3 p1_0 p1_1 p1_2 p1_3 = some r) :
    Go.E.Spec Try.prog 17 [.agg #[.int .i64 p0_0, .int .i64 p0_1, .int .i64 p0_2, .slice a_p0_3 q_p0_3 c_p0_3], .agg #[.int .i64 p1_0, .int .i64 p1_1, .int .i64 p1_2, .slice a_p1_3 q_p1_3 c_p1_3]] m (fun v _ _ => v = .bool r) := by
  refine Spec_enter Try.func17 rfl rfl rfl (fun w0 => ?_)
  refine WK.sub (e' := [(0, .agg #[.int .i64 p0_0, .int .i64 p0_1, .int .i64 p0_2, .slice a_p0_3 q_p0_3 c_p0_3]), (1, .agg #[.int .i64 p1_0, .int .i64 p1_1, .int .i64 p1_2, .slice a_p1_3 q_p1_3 c_p1_3])]) ⟨rfl, rfl, trivial⟩ ?_
  obtain rfl := SlR.qlen h_p0_3
  obtain rfl := SlR.qlen h_p1_3
  refine WK.sub (e' := [(0, .agg #[.int .i64 p0_0, .int .i64 p0_1, .int .i64 p0_2, .slice a_p0_3 p0_3.length c_p0_3]), (1, .agg #[.int .i64 p1_0, .int .i64 p1_1, .int .i64 p1_2, .slice a_p1_3 p1_3.length c_p1_3])]) ⟨rfl, rfl, trivial⟩ ?_
  unfold fiducialref13_Equal at hm
  refine WK_seq ?_
  refine WK_region ?_
  refine WO_box [.int .i64 p0_0, .int .i64 p0_1, .int .i64 p0_2, .slice a_p0_3 p0_3.length c_p0_3] rfl rfl trivial rfl rfl rfl (fun b3 => ?_)
  refine WO.cls (C' := St w0 m m [[⟨b3, 24, [.int .i64 p0_0, .int .i64 p0_1, .int .i64 p0_2, .slice a_p0_3 p0_3.length c_p0_3]⟩]]) (fun _ h => h) ?_
  refine WO_box [.int .i64 p1_0, .int .i64 p1_1, .int .i64 p1_2, .slice a_p1_3 p1_3.length c_p1_3] rfl rfl trivial rfl rfl rfl (fun b4 => ?_)
  refine WO.cls (C' := St w0 m m [[⟨b3, 24, [.int .i64 p0_0, .int .i64 p0_1, .int .i64 p0_2, .slice a_p0_3 p0_3.length c_p0_3]⟩], [⟨b4, 24, [.int .i64 p1_0, .int .i64 p1_1, .int .i64 p1_2, .slice a_p1_3 p1_3.length c_p1_3]⟩]]) (fun _ h => h) ?_
  refine WO_pure tbok 1 [(2, .pointer (some ⟨b3, 0, none⟩)), (3, .pointer (some ⟨b4, 0, none⟩)), (4, .bool false)] rfl ⟨rfl, rfl, rfl, trivial⟩ ?_
  refine WO_end ?_
  refine WK_seq ?_
  refine WK_seq ?_
  obtain ⟨s5, hx6, hm⟩ := bind_some hm
  refine WK_meet [(2, .pointer (some ⟨b3, 0, none⟩)), (3, .pointer (some ⟨b4, 0, none⟩)), (4, .bool false), (33, .bool s5)] (St w0 m m [[⟨b3, 24, [.int .i64 p0_0, .int .i64 p0_1, .int .i64 p0_2, .slice a_p0_3 p0_3.length c_p0_3]⟩], [⟨b4, 24, [.int .i64 p1_0, .int .i64 p1_1, .int .i64 p1_2, .slice a_p1_3 p1_3.length c_p1_3]⟩]]) ?_ (fun hk7 => ?_)
  · refine WK_cond (b := s5) rfl (fun hb8 => ?_) (fun hb8 => ?_)
    · have hm := ifT hb8 hm
      refine WK_seq ?_
      refine WK_region ?_
      refine WO_pure tbok 1 [(2, .pointer (some ⟨b3, 0, none⟩)), (3, .pointer (some ⟨b4, 0, none⟩)), (4, .bool false)] rfl ⟨rfl, rfl, rfl, trivial⟩ ?_
      refine WO_end ?_
      cases hm
      exact WK_ret (ret_out (L := []) (RLc_tmp rfl RLc_nil) (List.nil_sublist _) rfl)
    · have hm := ifF hb8 hm
      refine WK_skip ?_
      refine WK_seq ?_
      refine WK_seq ?_
      refine WK_region ?_
      refine WO_pure tbok 1 [(2, .pointer (some ⟨b3, 0, none⟩)), (3, .pointer (some ⟨b4, 0, none⟩)), (4, .bool false), (5, .int .i64 0)] rfl ⟨rfl, rfl, rfl, rfl, trivial⟩ ?_
      refine WO_end ?_
      obtain ⟨x10, hx11, hm⟩ := bind_some hm
      refine WK_join (β := Unit × Unit) (fun p => Sum.inr p.1 = x10) (fun p => [(4, .bool false)]) (fun p => St w0 m m [[⟨b3, 24, [.int .i64 p0_0, .int .i64 p0_1, .int .i64 p0_2, .slice a_p0_3 p0_3.length c_p0_3]⟩], [⟨b4, 24, [.int .i64 p1_0, .int .i64 p1_1, .int .i64 p1_2, .slice a_p1_3 p1_3.length c_p1_3]⟩]]) ?_ (fun hk12 => ?_)
      · rintro ⟨⟨⟩, ⟨⟩⟩ hq18
        subst hq18
        refine WK.sub (e' := [(4, .bool false)]) ⟨rfl, trivial⟩ (WK.cls (C' := St w0 m m [[⟨b3, 24, [.int .i64 p0_0, .int .i64 p0_1, .int .i64 p0_2, .slice a_p0_3 p0_3.length c_p0_3]⟩], [⟨b4, 24, [.int .i64 p1_0, .int .i64 p1_1, .int .i64 p1_2, .slice a_p1_3 p1_3.length c_p1_3]⟩]]) (fun _ h => h) ?_)
        refine WK_seq ?_
        refine WK_region ?_
        refine WO_pure tbok 1 [(4, .bool true)] rfl ⟨rfl, trivial⟩ ?_
        refine WO_end ?_
        cases hm
        exact WK_ret (ret_out (L := []) (RLc_tmp rfl RLc_nil) (List.nil_sublist _) rfl)
      · refine WK_block ?_
        refine WK_loop (S := Int) (G := Unit) (fun s => fiducialref13_Equal_s1 p0_3 p1_3 s) (fun s g => [(2, .pointer (some ⟨b3, 0, none⟩)), (3, .pointer (some ⟨b4, 0, none⟩)), (4, .bool false), (5, .int .i64 s)]) (fun s g => St w0 m m [[⟨b3, 24, [.int .i64 p0_0, .int .i64 p0_1, .int .i64 p0_2, .slice a_p0_3 p0_3.length c_p0_3]⟩], [⟨b4, 24, [.int .i64 p1_0, .int .i64 p1_1, .int .i64 p1_2, .slice a_p1_3 p1_3.length c_p1_3]⟩]]) (fun s g => True) FUEL 0 () x10 hx11 trivial ⟨rfl, rfl, rfl, rfl, trivial⟩ (fun _ h => h) ?_
        rintro s9 ⟨⟩ o14 fl15 hm13 - hn16 hd17
        have hm13 : fiducialref13_Equal_s1 p0_3 p1_3 s9 = some o14 := hm13
        unfold fiducialref13_Equal_s1 at hm13
        refine WK.sub (e' := [(2, .pointer (some ⟨b3, 0, none⟩)), (3, .pointer (some ⟨b4, 0, none⟩)), (4, .bool false), (5, .int .i64 s9)]) ⟨rfl, rfl, rfl, rfl, trivial⟩ (WK.cls (C' := St w0 m m [[⟨b3, 24, [.int .i64 p0_0, .int .i64 p0_1, .int .i64 p0_2, .slice a_p0_3 p0_3.length c_p0_3]⟩], [⟨b4, 24, [.int .i64 p1_0, .int .i64 p1_1, .int .i64 p1_2, .slice a_p1_3 p1_3.length c_p1_3]⟩]]) (fun _ h => h) ?_)
        refine WK_seq ?_
        refine WK_seq ?_
        refine WK_region ?_
        refine WO_pure tbok 2 [(2, .pointer (some ⟨b3, 0, none⟩)), (3, .pointer (some ⟨b4, 0, none⟩)), (4, .bool false), (5, .int .i64 s9), (34, .int .i64 s9), (35, .pointer (some ⟨b3, 3, none⟩))] rfl ⟨rfl, rfl, rfl, rfl, rfl, rfl, trivial⟩ ?_
        refine WO_loadB tbok 0 rfl rfl rfl rfl (fun _ h => h) rfl rfl ?_
        refine WO_pure tbok 2 [(2, .pointer (some ⟨b3, 0, none⟩)), (3, .pointer (some ⟨b4, 0, none⟩)), (4, .bool false), (5, .int .i64 s9), (38, .bool (decide (s9 < (p0_3.length : Int))))] rfl ⟨rfl, rfl, rfl, rfl, rfl, trivial⟩ ?_
        refine WO_end ?_
        refine WK_cond (b := decide (s9 < (p0_3.length : Int))) rfl (fun hb19 => ?_) (fun hb19 => ?_)
        · have hm13 := ifT hb19 hm13
          refine WK_skip ?_
          refine WK_seq ?_
          refine WK_block ?_
          refine WK_seq ?_
          refine WK_draw 11 [0, 1, 2, 3, 4, 5, 6, 7, 8, 9, 10] follows_ok (by kernel_rfl) St_closed ?_
          refine WO_pure tbok 1 [(2, .pointer (some ⟨b3, 0, none⟩)), (3, .pointer (some ⟨b4, 0, none⟩)), (4, .bool false), (5, .int .i64 s9), (41, .pointer (some ⟨b3, 3, none⟩))] rfl ⟨rfl, rfl, rfl, rfl, rfl, trivial⟩ ?_
          refine WO_loadB tbok 0 rfl rfl rfl rfl (fun _ h => h) rfl rfl ?_
          refine WO_pure tbok 1 [(2, .pointer (some ⟨b3, 0, none⟩)), (3, .pointer (some ⟨b4, 0, none⟩)), (4, .bool false), (5, .int .i64 s9), (42, .slice a_p0_3 p0_3.length c_p0_3), (43, .int .i64 s9)] rfl ⟨rfl, rfl, rfl, rfl, rfl, rfl, trivial⟩ ?_
          obtain ⟨v20, hy21, hm13⟩ := bind_some hm13
          obtain ⟨hc22, hy21⟩ := ix_some hy21
          refine WO_index tbok rfl rfl rfl rfl rfl rfl rfl rfl (SlR.addr h_p0_3) hc22 ?_
          refine WO_loadE tbok rfl rfl rfl rfl (fun _ h => St.sat h) h_p0_3 hy21 rfl ?_
          refine WO_pure tbok 1 [(2, .pointer (some ⟨b3, 0, none⟩)), (3, .pointer (some ⟨b4, 0, none⟩)), (4, .bool false), (5, .int .i64 s9), (45, .int .i64 v20), (46, .pointer (some ⟨b4, 3, none⟩))] rfl ⟨rfl, rfl, rfl, rfl, rfl, rfl, trivial⟩ ?_
          refine WO_loadB tbok 1 rfl rfl rfl rfl (fun _ h => h) rfl rfl ?_
          refine WO_pure tbok 1 [(2, .pointer (some ⟨b3, 0, none⟩)), (3, .pointer (some ⟨b4, 0, none⟩)), (4, .bool false), (5, .int .i64 s9), (45, .int .i64 v20), (47, .slice a_p1_3 p1_3.length c_p1_3), (48, .int .i64 s9)] rfl ⟨rfl, rfl, rfl, rfl, rfl, rfl, rfl, trivial⟩ ?_
          obtain ⟨v23, hy24, hm13⟩ := bind_some hm13
          obtain ⟨hc25, hy24⟩ := ix_some hy24
          refine WO_index tbok rfl rfl rfl rfl rfl rfl rfl rfl (SlR.addr h_p1_3) hc25 ?_
          refine WO_loadE tbok rfl rfl rfl rfl (fun _ h => St.sat h) h_p1_3 hy24 rfl ?_
          refine WO_pure tbok 1 [(2, .pointer (some ⟨b3, 0, none⟩)), (3, .pointer (some ⟨b4, 0, none⟩)), (4, .bool false), (5, .int .i64 s9), (51, .bool (v20 != v23))] rfl ⟨rfl, rfl, rfl, rfl, rfl, trivial⟩ ?_
          refine WO_tail ?_
          refine WO_end ?_
          refine WK_cond (b := v20 != v23) rfl (fun hb26 => ?_) (fun hb26 => ?_)
          · have hm13 := ifT hb26 hm13
            refine WK_seq ?_
            refine WK_region ?_
            refine WO_pure tbok 1 [(2, .pointer (some ⟨b3, 0, none⟩)), (3, .pointer (some ⟨b4, 0, none⟩)), (4, .bool false), (5, .int .i64 s9)] rfl ⟨rfl, rfl, rfl, rfl, trivial⟩ ?_
            refine WO_end ?_
            cases hm13
            have hq := hd17 _ rfl
            subst hq
            have hm : some _ = some _ := hm
            cases hm
            exact WK_ret (ret_out (L := []) (RLc_tmp rfl RLc_nil) (List.nil_sublist _) rfl)
          · have hm13 := ifF hb26 hm13
            refine WK_skip ?_
            refine WK_blk ?_
            refine WK_region ?_
            refine WO_pure tbok 3 [(2, .pointer (some ⟨b3, 0, none⟩)), (3, .pointer (some ⟨b4, 0, none⟩)), (4, .bool false), (5, .int .i64 (w64 (s9 + 1)))] rfl ⟨rfl, rfl, rfl, rfl, trivial⟩ ?_
            refine WO_end ?_
            cases hm13
            refine WK.sub ?_ (WK.cls (fun _ h => h) (hn16 _ () rfl trivial))
            exact ⟨rfl, rfl, rfl, rfl, trivial⟩
        · have hm13 := ifF hb19 hm13
          refine WK_exit rfl ?_
          cases hm13
          refine WK.sub ?_ (WK.cls (fun _ h => h) (hk12 ((), ()) (hd17 _ rfl)))
          exact ⟨rfl, trivial⟩
  · refine WK_region ?_
    refine WO_pure tbok 1 [(2, .pointer (some ⟨b3, 0, none⟩)), (3, .pointer (some ⟨b4, 0, none⟩)), (4, .bool false), (6, .pointer (some ⟨b3, 0, none⟩))] rfl ⟨rfl, rfl, rfl, rfl, trivial⟩ ?_
    refine WO_loadB tbok 0 rfl rfl rfl rfl (fun _ h => h) rfl rfl ?_
    refine WO_pure tbok 1 [(2, .pointer (some ⟨b3, 0, none⟩)), (3, .pointer (some ⟨b4, 0, none⟩)), (4, .bool false), (7, .int .i64 p0_0), (8, .pointer (some ⟨b4, 0, none⟩))] rfl ⟨rfl, rfl, rfl, rfl, rfl, trivial⟩ ?_
    refine WO_loadB tbok 1 rfl rfl rfl rfl (fun _ h => h) rfl rfl ?_
    refine WO_pure tbok 2 [(2, .pointer (some ⟨b3, 0, none⟩)), (3, .pointer (some ⟨b4, 0, none⟩)), (4, .bool false), (11, .bool (p0_0 != p1_0))] rfl ⟨rfl, rfl, rfl, rfl, trivial⟩ ?_
    refine WO_split (d := 11) (b := p0_0 != p1_0) rfl (fun hb27 => ?_) (fun hb27 => ?_)
    · have hx6 := ifT hb27 hx6
      refine WO_pure tbok 22 [(2, .pointer (some ⟨b3, 0, none⟩)), (3, .pointer (some ⟨b4, 0, none⟩)), (4, .bool false), (33, .bool true)] rfl ⟨rfl, rfl, rfl, rfl, trivial⟩ ?_
      refine WO_end ?_
      cases hx6
      refine WK.sub ?_ (WK.cls (fun _ h => h) hk7)
      exact ⟨rfl, rfl, rfl, rfl, trivial⟩
    · have hx6 := ifF hb27 hx6
      refine WO_pure tbok 1 [(2, .pointer (some ⟨b3, 0, none⟩)), (3, .pointer (some ⟨b4, 0, none⟩)), (4, .bool false), (11, .bool false), (12, .pointer (some ⟨b3, 1, none⟩))] rfl ⟨rfl, rfl, rfl, rfl, rfl, trivial⟩ ?_
      refine WO_loadB tbok 0 rfl rfl rfl rfl (fun _ h => h) rfl rfl ?_
      refine WO_pure tbok 1 [(2, .pointer (some ⟨b3, 0, none⟩)), (3, .pointer (some ⟨b4, 0, none⟩)), (4, .bool false), (11, .bool false), (13, .int .i64 p0_1), (14, .pointer (some ⟨b4, 1, none⟩))] rfl ⟨rfl, rfl, rfl, rfl, rfl, rfl, trivial⟩ ?_
      refine WO_loadB tbok 1 rfl rfl rfl rfl (fun _ h => h) rfl rfl ?_
      refine WO_pure tbok 3 [(2, .pointer (some ⟨b3, 0, none⟩)), (3, .pointer (some ⟨b4, 0, none⟩)), (4, .bool false), (18, .bool (p0_1 != p1_1))] rfl ⟨rfl, rfl, rfl, rfl, trivial⟩ ?_
      refine WO_split (d := 18) (b := p0_1 != p1_1) rfl (fun hb28 => ?_) (fun hb28 => ?_)
      · have hx6 := ifT hb28 hx6
        refine WO_pure tbok 15 [(2, .pointer (some ⟨b3, 0, none⟩)), (3, .pointer (some ⟨b4, 0, none⟩)), (4, .bool false), (33, .bool true)] rfl ⟨rfl, rfl, rfl, rfl, trivial⟩ ?_
        refine WO_end ?_
        cases hx6
        refine WK.sub ?_ (WK.cls (fun _ h => h) hk7)
        exact ⟨rfl, rfl, rfl, rfl, trivial⟩
      · have hx6 := ifF hb28 hx6
        refine WO_pure tbok 1 [(2, .pointer (some ⟨b3, 0, none⟩)), (3, .pointer (some ⟨b4, 0, none⟩)), (4, .bool false), (18, .bool false), (19, .pointer (some ⟨b3, 2, none⟩))] rfl ⟨rfl, rfl, rfl, rfl, rfl, trivial⟩ ?_
        refine WO_loadB tbok 0 rfl rfl rfl rfl (fun _ h => h) rfl rfl ?_
        refine WO_pure tbok 1 [(2, .pointer (some ⟨b3, 0, none⟩)), (3, .pointer (some ⟨b4, 0, none⟩)), (4, .bool false), (18, .bool false), (20, .int .i64 p0_2), (21, .pointer (some ⟨b4, 2, none⟩))] rfl ⟨rfl, rfl, rfl, rfl, rfl, rfl, trivial⟩ ?_
        refine WO_loadB tbok 1 rfl rfl rfl rfl (fun _ h => h) rfl rfl ?_
        refine WO_pure tbok 3 [(2, .pointer (some ⟨b3, 0, none⟩)), (3, .pointer (some ⟨b4, 0, none⟩)), (4, .bool false), (25, .bool (p0_2 != p1_2))] rfl ⟨rfl, rfl, rfl, rfl, trivial⟩ ?_
        refine WO_split (d := 25) (b := p0_2 != p1_2) rfl (fun hb29 => ?_) (fun hb29 => ?_)
        · have hx6 := ifT hb29 hx6
          refine WO_pure tbok 8 [(2, .pointer (some ⟨b3, 0, none⟩)), (3, .pointer (some ⟨b4, 0, none⟩)), (4, .bool false), (33, .bool true)] rfl ⟨rfl, rfl, rfl, rfl, trivial⟩ ?_
          refine WO_end ?_
          cases hx6
          refine WK.sub ?_ (WK.cls (fun _ h => h) hk7)
          exact ⟨rfl, rfl, rfl, rfl, trivial⟩
        · have hx6 := ifF hb29 hx6
          refine WO_pure tbok 1 [(2, .pointer (some ⟨b3, 0, none⟩)), (3, .pointer (some ⟨b4, 0, none⟩)), (4, .bool false), (25, .bool false), (26, .pointer (some ⟨b3, 3, none⟩))] rfl ⟨rfl, rfl, rfl, rfl, rfl, trivial⟩ ?_
          refine WO_loadB tbok 0 rfl rfl rfl rfl (fun _ h => h) rfl rfl ?_
          refine WO_pure tbok 2 [(2, .pointer (some ⟨b3, 0, none⟩)), (3, .pointer (some ⟨b4, 0, none⟩)), (4, .bool false), (25, .bool false), (28, .int .i64 (p0_3.length : Int)), (29, .pointer (some ⟨b4, 3, none⟩))] rfl ⟨rfl, rfl, rfl, rfl, rfl, rfl, trivial⟩ ?_
          refine WO_loadB tbok 1 rfl rfl rfl rfl (fun _ h => h) rfl rfl ?_
          refine WO_pure tbok 3 [(2, .pointer (some ⟨b3, 0, none⟩)), (3, .pointer (some ⟨b4, 0, none⟩)), (4, .bool false), (33, .bool ((p0_3.length : Int) != (p1_3.length : Int)))] rfl ⟨rfl, rfl, rfl, rfl, trivial⟩ ?_
          refine WO_end ?_
          cases hx6
          refine WK.sub ?_ (WK.cls (fun _ h => h) hk7)
          exact ⟨rfl, rfl, rfl, rfl, trivial⟩
theorem fiduciallaw13_empty_walk {m : Mu} {p0_0 : Int} {p0_1 : Int} {p0_2 : Int} {p0_3 : List Int} {a_p0_3 : Option Addr} {q_p0_3 c_p0_3 : Nat} (h_p0_3 : SlR (FE (I1 .i64)) 1 m (.slice a_p0_3 q_p0_3 c_p0_3) p0_3) {r : Bool} (hm : fiduciallaw13_empty p0_0 p0_1 p0_2 p0_3 = some r) :
    Go.E.Spec Try.prog 16 [.agg #[.int .i64 p0_0, .int .i64 p0_1, .int .i64 p0_2, .slice a_p0_3 q_p0_3 c_p0_3]] m (fun v _ _ => v = .bool r) := by
  refine Spec_enter Try.func16 rfl rfl rfl (fun w0 => ?_)
  refine WK.sub (e' := [(0, .agg #[.int .i64 p0_0, .int .i64 p0_1, .int .i64 p0_2, .slice a_p0_3 q_p0_3 c_p0_3])]) ⟨rfl, trivial⟩ ?_
  obtain rfl := SlR.qlen h_p0_3
  refine WK.sub (e' := [(0, .agg #[.int .i64 p0_0, .int .i64 p0_1, .int .i64 p0_2, .slice a_p0_3 p0_3.length c_p0_3])]) ⟨rfl, trivial⟩ ?_
  unfold fiduciallaw13_empty at hm
  refine WK_seq ?_
  refine WK_region ?_
  refine WO_box [.int .i64 p0_0, .int .i64 p0_1, .int .i64 p0_2, .slice a_p0_3 p0_3.length c_p0_3] rfl rfl trivial rfl rfl rfl (fun b2 => ?_)
  refine WO.cls (C' := St w0 m m [[⟨b2, 24, [.int .i64 p0_0, .int .i64 p0_1, .int .i64 p0_2, .slice a_p0_3 p0_3.length c_p0_3]⟩]]) (fun _ h => h) ?_
  refine WO_pure tbok 1 [(1, .pointer (some ⟨b2, 0, none⟩)), (2, .bool false)] rfl ⟨rfl, rfl, trivial⟩ ?_
  refine WO_end ?_
  refine WK_seq ?_
  refine WK_region ?_
  refine WO_loadB tbok 0 rfl rfl rfl rfl (fun _ h => h) rfl rfl ?_
  refine WO_pure tbok 1 [(2, .bool false), (3, .agg #[.int .i64 p0_0, .int .i64 p0_1, .int .i64 p0_2, .slice a_p0_3 p0_3.length c_p0_3]), (4, .agg #[.int .i64 0, .int .i64 0, .int .i64 0, .slice none 0 0])] rfl ⟨rfl, rfl, rfl, trivial⟩ ?_
  obtain ⟨y3, hc4, hm⟩ := bind_some hm
  refine WO_call0 (.bool y3) rfl rfl trivial rfl rfl rfl rfl St_closed ⟨17, #[], #[], rfl, callable_17, fun w hw => ⟨_, hw.sat, fiducialref13_Equal_walk h_p0_3 SlR_nil hc4⟩⟩ ?_
  refine WO_pure tbok 1 [(2, .bool y3)] rfl ⟨rfl, trivial⟩ ?_
  refine WO_end ?_
  cases hm
  exact WK_ret (ret_out (L := []) (RLc_tmp rfl RLc_nil) (List.nil_sublist _) rfl)
def fiducialref13_New_Q (r : Int × Int × Int × List Int) : Value → List Ent → Prop := fun v L => ∃ (a0 : Option Addr) (q0 c0 : Nat), v = .agg #[.int .i64 r.1, .int .i64 r.2.1, .int .i64 r.2.2.1, .slice a0 q0 c0] ∧ OwnE 3 1 (I1 .i64) (.slice a0 q0 c0) r.2.2.2 L
theorem fiducialref13_New_walk {m : Mu} {p0 : Int} {p1 : Int} {p2 : Int}   {r : Int × Int × Int × List Int} (hm : fiducialref13_New p0 p1 p2 = some r) :
    Go.E.Spec Try.prog 24 [.int .i64 p0, .int .i64 p1, .int .i64 p2] m (fun v _ L => fiducialref13_New_Q r v L) := by
  refine Spec_enter Try.func24 rfl rfl rfl (fun w0 => ?_)
  refine WK.sub (e' := [(0, .int .i64 p0), (1, .int .i64 p1), (2, .int .i64 p2)]) ⟨rfl, rfl, rfl, trivial⟩ ?_
  refine WK.sub (e' := [(0, .int .i64 p0), (1, .int .i64 p1), (2, .int .i64 p2)]) ⟨rfl, rfl, rfl, trivial⟩ ?_
  unfold fiducialref13_New at hm
  refine WK_seq ?_
  refine WK_region ?_
  refine WO_alloc tbok [.int .i64 0, .int .i64 0, .int .i64 0, .slice none 0 0] rfl rfl trivial rfl rfl rfl rfl (fun b1 => ?_)
  refine WO.cls (C' := St w0 m m [[⟨b1, 24, [.int .i64 0, .int .i64 0, .int .i64 0, .slice none 0 0]⟩]]) (fun _ h => h) ?_
  refine WO_end ?_
  refine WK_seq ?_
  refine WK_region ?_
  refine WO_pure tbok 4 [(0, .int .i64 p0), (1, .int .i64 p1), (6, .pointer (some ⟨b1, 0, none⟩)), (12, .agg #[.int .i64 p0, .int .i64 p1, .int .i64 p2, .slice none 0 0])] rfl ⟨rfl, rfl, rfl, rfl, trivial⟩ ?_
  refine WO_alloc tbok [.int .i64 0, .int .i64 0, .int .i64 0, .slice none 0 0] rfl rfl trivial rfl rfl rfl rfl (fun b2 => ?_)
  refine WO.cls (C' := St w0 m m [[⟨b1, 24, [.int .i64 0, .int .i64 0, .int .i64 0, .slice none 0 0]⟩], [⟨b2, 24, [.int .i64 0, .int .i64 0, .int .i64 0, .slice none 0 0]⟩]]) (fun _ h => h) ?_
  refine WO_storeB tbok 1 [.int .i64 p0, .int .i64 p1, .int .i64 p2, .slice none 0 0] rfl rfl rfl rfl rfl rfl rfl ?_
  refine WO.cls (C' := St w0 m m [[⟨b1, 24, [.int .i64 0, .int .i64 0, .int .i64 0, .slice none 0 0]⟩], [⟨b2, 24, [.int .i64 p0, .int .i64 p1, .int .i64 p2, .slice none 0 0]⟩]]) (fun _ h => h) ?_
  refine WO_end ?_
  refine WK_seq ?_
  refine WK_seq ?_
  refine WK_region ?_
  refine WO_pure tbok 1 [(0, .int .i64 p0), (1, .int .i64 p1), (6, .pointer (some ⟨b1, 0, none⟩)), (7, .pointer (some ⟨b2, 0, none⟩)), (8, .int .i64 0)] rfl ⟨rfl, rfl, rfl, rfl, rfl, trivial⟩ ?_
  refine WO_end ?_
  refine WK_pad ?_
  obtain ⟨x17, hx18, hm⟩ := bind_some hm
  refine WK_join (β := (List Int) × (Option Addr × Nat × Nat × List Ent)) (fun p => p.1 = x17 ∧ OwnE 3 1 (I1 .i64) (.slice p.2.1 p.2.2.1 p.2.2.2.1) p.1 p.2.2.2.2) (fun p => [(6, .pointer (some ⟨b1, 0, none⟩)), (7, .pointer (some ⟨b2, 0, none⟩))]) (fun p => St w0 m m [[⟨b1, 24, [.int .i64 0, .int .i64 0, .int .i64 0, .slice none 0 0]⟩], [⟨b2, 24, [.int .i64 p0, .int .i64 p1, .int .i64 p2, .slice p.2.1 p.2.2.1 p.2.2.2.1]⟩], p.2.2.2.2]) ?_ (fun hk19 => ?_)
  · rintro ⟨l11, ⟨a14, q15, c16, L13⟩⟩ ⟨hq25, hL13⟩
    subst hq25
    have hqq : q15 = l11.length := OwnE.qlen hL13
    subst hqq
    refine WK.sub (e' := [(6, .pointer (some ⟨b1, 0, none⟩)), (7, .pointer (some ⟨b2, 0, none⟩))]) ⟨rfl, rfl, trivial⟩ (WK.cls (C' := St w0 m m [[⟨b1, 24, [.int .i64 0, .int .i64 0, .int .i64 0, .slice none 0 0]⟩], [⟨b2, 24, [.int .i64 p0, .int .i64 p1, .int .i64 p2, .slice a14 ((l11).length) c16]⟩], L13]) (fun _ h => h) ?_)
    refine WK_seq ?_
    refine WK_region ?_
    refine WO_loadB tbok 1 rfl rfl rfl rfl (fun _ h => h) rfl rfl ?_
    refine WO_storeB tbok 0 [.int .i64 p0, .int .i64 p1, .int .i64 p2, .slice a14 ((l11).length) c16] rfl rfl rfl rfl rfl rfl rfl ?_
    refine WO.cls (C' := St w0 m m [[⟨b1, 24, [.int .i64 p0, .int .i64 p1, .int .i64 p2, .slice a14 ((l11).length) c16]⟩], [⟨b2, 24, [.int .i64 p0, .int .i64 p1, .int .i64 p2, .slice a14 ((l11).length) c16]⟩], L13]) (fun _ h => h) ?_
    refine WO_end ?_
    cases hm
    exact WK_ret (ret_out (L := L13) (RLc_cell tbok 0 rfl rfl rfl RLc_nil) (seg_sub 2 rfl) ⟨a14, ((l11).length), c16, rfl, hL13⟩)
  · refine WK_block ?_
    refine WK_loop (S := List Int × Int) (G := Option Addr × Nat × Nat × List Ent) (fun s => fiducialref13_New_s1 p0 p1 s.1 s.2) (fun s g => [(0, .int .i64 p0), (1, .int .i64 p1), (6, .pointer (some ⟨b1, 0, none⟩)), (7, .pointer (some ⟨b2, 0, none⟩)), (8, .int .i64 s.2)]) (fun s g => St w0 m m [[⟨b1, 24, [.int .i64 0, .int .i64 0, .int .i64 0, .slice none 0 0]⟩], [⟨b2, 24, [.int .i64 p0, .int .i64 p1, .int .i64 p2, .slice g.1 g.2.1 g.2.2.1]⟩], g.2.2.2]) (fun s g => OwnE 3 1 (I1 .i64) (.slice g.1 g.2.1 g.2.2.1) s.1 g.2.2.2) FUEL (([] : List Int), 0) (none, 0, 0, []) x17 hx18 (OwnE.nil (T := 3) (k := 1) (E := (I1 .i64)) none) ⟨rfl, rfl, rfl, rfl, rfl, trivial⟩ (fun _ h => h) ?_
    rintro ⟨l4, s10⟩ ⟨a7, q8, c9, L6⟩ o21 fl22 hm20 hL6 hn23 hd24
    have hm20 : fiducialref13_New_s1 p0 p1 l4 s10 = some o21 := hm20
    unfold fiducialref13_New_s1 at hm20
    have hqq : q8 = l4.length := OwnE.qlen hL6
    subst hqq
    refine WK.sub (e' := [(0, .int .i64 p0), (1, .int .i64 p1), (6, .pointer (some ⟨b1, 0, none⟩)), (7, .pointer (some ⟨b2, 0, none⟩)), (8, .int .i64 s10)]) ⟨rfl, rfl, rfl, rfl, rfl, trivial⟩ (WK.cls (C' := St w0 m m [[⟨b1, 24, [.int .i64 0, .int .i64 0, .int .i64 0, .slice none 0 0]⟩], [⟨b2, 24, [.int .i64 p0, .int .i64 p1, .int .i64 p2, .slice a7 ((l4).length) c9]⟩], L6]) (fun _ h => h) ?_)
    refine WK_seq ?_
    refine WK_seq ?_
    refine WK_region ?_
    refine WO_pure tbok 5 [(0, .int .i64 p0), (1, .int .i64 p1), (6, .pointer (some ⟨b1, 0, none⟩)), (7, .pointer (some ⟨b2, 0, none⟩)), (8, .int .i64 s10), (17, .bool (decide (s10 < (w64 (p0 * p1)))))] rfl ⟨rfl, rfl, rfl, rfl, rfl, rfl, trivial⟩ ?_
    refine WO_end ?_
    refine WK_cond (b := decide (s10 < (w64 (p0 * p1)))) rfl (fun hb26 => ?_) (fun hb26 => ?_)
    · have hm20 := ifT hb26 hm20
      refine WK_skip ?_
      refine WK_seq ?_
      refine WK_block ?_
      refine WK_region ?_
      refine WO_pure tbok 1 [(0, .int .i64 p0), (1, .int .i64 p1), (6, .pointer (some ⟨b1, 0, none⟩)), (7, .pointer (some ⟨b2, 0, none⟩)), (8, .int .i64 s10), (20, .pointer (some ⟨b2, 3, none⟩))] rfl ⟨rfl, rfl, rfl, rfl, rfl, rfl, trivial⟩ ?_
      refine WO_loadB tbok 1 rfl rfl rfl rfl (fun _ h => h) rfl rfl ?_
      refine WO_bslice (E := (I1 .i64)) tbok (fun _ => rfl) (by decide) [.int .i64 0] ([0] : List Int) rfl rfl trivial rfl rfl rfl rfl rfl rfl rfl rfl rfl rfl rfl rfl (fun b27 hb27 => ?_)
      refine WO.cls (C' := St w0 m m [[⟨b1, 24, [.int .i64 0, .int .i64 0, .int .i64 0, .slice none 0 0]⟩], [⟨b2, 24, [.int .i64 p0, .int .i64 p1, .int .i64 p2, .slice a7 ((l4).length) c9]⟩], L6, [⟨b27, 3, ([0] : List Int).flatMap (I1 .i64)⟩]]) (fun _ h => h) ?_
      obtain ⟨hc29, hm20⟩ := chk_some hm20
      refine WO_append (E := (I1 .i64)) tbok (fun _ => rfl) 2 ([0] : List Int) (fun _ _ => rfl) rfl rfl rfl rfl rfl rfl rfl rfl rfl rfl rfl rfl hL6 rfl (src_seg (j := 3) rfl) (ap_ok (by decide) hc29) (ap_max hc29) (fun a30 c31 L32 hL32 => ?_)
      refine WO.cls (C' := St w0 m m [[⟨b1, 24, [.int .i64 0, .int .i64 0, .int .i64 0, .slice none 0 0]⟩], [⟨b2, 24, [.int .i64 p0, .int .i64 p1, .int .i64 p2, .slice a7 ((l4).length) c9]⟩], L32, [⟨b27, 3, ([0] : List Int).flatMap (I1 .i64)⟩]]) (fun _ h => h) ?_
      refine WO_pure tbok 1 [(0, .int .i64 p0), (1, .int .i64 p1), (6, .pointer (some ⟨b1, 0, none⟩)), (7, .pointer (some ⟨b2, 0, none⟩)), (8, .int .i64 s10), (23, .slice a30 ((l4 ++ ([0] : List Int)).length) c31), (24, .pointer (some ⟨b2, 3, none⟩))] rfl ⟨rfl, rfl, rfl, rfl, rfl, rfl, rfl, trivial⟩ ?_
      refine WO_storeB tbok 1 [.int .i64 p0, .int .i64 p1, .int .i64 p2, .slice a30 ((l4 ++ ([0] : List Int)).length) c31] rfl rfl rfl rfl rfl rfl rfl ?_
      refine WO.cls (C' := St w0 m m [[⟨b1, 24, [.int .i64 0, .int .i64 0, .int .i64 0, .slice none 0 0]⟩], [⟨b2, 24, [.int .i64 p0, .int .i64 p1, .int .i64 p2, .slice a30 ((l4 ++ ([0] : List Int)).length) c31]⟩], L32, [⟨b27, 3, ([0] : List Int).flatMap (I1 .i64)⟩]]) (fun _ h => h) ?_
      refine WO_end ?_
      refine WK_blk ?_
      refine WK_region ?_
      refine WO_pure tbok 3 [(0, .int .i64 p0), (1, .int .i64 p1), (6, .pointer (some ⟨b1, 0, none⟩)), (7, .pointer (some ⟨b2, 0, none⟩)), (8, .int .i64 (w64 (s10 + 1)))] rfl ⟨rfl, rfl, rfl, rfl, rfl, trivial⟩ ?_
      refine WO_end ?_
      cases hm20
      refine WK.sub ?_ (WK.cls (fun _ h => St.take 3 h) (hn23 _ (a30, (l4 ++ ([0] : List Int)).length, c31, L32) rfl hL32))
      exact ⟨rfl, rfl, rfl, rfl, rfl, trivial⟩
    · have hm20 := ifF hb26 hm20
      refine WK_exit rfl ?_
      cases hm20
      refine WK.sub ?_ (WK.cls (fun _ h => h) (hk19 (l4, (a7, (l4).length, c9, L6)) ⟨(hd24 _ rfl), hL6⟩))
      exact ⟨rfl, rfl, trivial⟩
theorem fiducialref13_At_walk {m : Mu} {p0_0 : Int} {p0_1 : Int} {p0_2 : Int} {p0_3 : List Int} {p1 : Int} {p2 : Int} {a_p0_3 : Option Addr} {q_p0_3 c_p0_3 : Nat} (h_p0_3 : SlR (FE (I1 .i64)) 1 m (.slice a_p0_3 q_p0_3 c_p0_3) p0_3) {r : Int} (hm : fiducialref13_At p0_0 p0_1 p0_2 p0_3 p1 p2 = some r) :
    Go.E.Spec Try.prog 44 [.agg #[.int .i64 p0_0, .int .i64 p0_1, .int .i64 p0_2, .slice a_p0_3 q_p0_3 c_p0_3], .int .i64 p1, .int .i64 p2] m (fun v _ _ => v = .int .i64 r) := by
  refine Spec_enter Try.func44 rfl rfl rfl (fun w0 => ?_)
  refine WK.sub (e' := [(0, .agg #[.int .i64 p0_0, .int .i64 p0_1, .int .i64 p0_2, .slice a_p0_3 q_p0_3 c_p0_3]), (1, .int .i64 p1), (2, .int .i64 p2)]) ⟨rfl, rfl, rfl, trivial⟩ ?_
  obtain rfl := SlR.qlen h_p0_3
  refine WK.sub (e' := [(0, .agg #[.int .i64 p0_0, .int .i64 p0_1, .int .i64 p0_2, .slice a_p0_3 p0_3.length c_p0_3]), (1, .int .i64 p1), (2, .int .i64 p2)]) ⟨rfl, rfl, rfl, trivial⟩ ?_
  unfold fiducialref13_At at hm
  refine WK_seq ?_
  refine WK_region ?_
  refine WO_box [.int .i64 p0_0, .int .i64 p0_1, .int .i64 p0_2, .slice a_p0_3 p0_3.length c_p0_3] rfl rfl trivial rfl rfl rfl (fun b2 => ?_)
  refine WO.cls (C' := St w0 m m [[⟨b2, 24, [.int .i64 p0_0, .int .i64 p0_1, .int .i64 p0_2, .slice a_p0_3 p0_3.length c_p0_3]⟩]]) (fun _ h => h) ?_
  refine WO_pure tbok 1 [(1, .int .i64 p1), (2, .int .i64 p2), (3, .pointer (some ⟨b2, 0, none⟩)), (6, .int .i64 0)] rfl ⟨rfl, rfl, rfl, rfl, trivial⟩ ?_
  refine WO_end ?_
  refine WK_seq ?_
  refine WK_region ?_
  refine WO_pure tbok 1 [(1, .int .i64 p1), (2, .int .i64 p2), (3, .pointer (some ⟨b2, 0, none⟩)), (6, .int .i64 0), (7, .pointer (some ⟨b2, 3, none⟩))] rfl ⟨rfl, rfl, rfl, rfl, rfl, trivial⟩ ?_
  refine WO_loadB tbok 0 rfl rfl rfl rfl (fun _ h => h) rfl rfl ?_
  refine WO_pure tbok 2 [(1, .int .i64 p1), (6, .int .i64 0), (8, .slice a_p0_3 p0_3.length c_p0_3), (9, .int .i64 p2), (10, .pointer (some ⟨b2, 0, none⟩))] rfl ⟨rfl, rfl, rfl, rfl, rfl, trivial⟩ ?_
  refine WO_loadB tbok 0 rfl rfl rfl rfl (fun _ h => h) rfl rfl ?_
  refine WO_pure tbok 3 [(6, .int .i64 0), (8, .slice a_p0_3 p0_3.length c_p0_3), (14, .int .i64 (w64 ((w64 (p2 * p0_0)) + p1)))] rfl ⟨rfl, rfl, rfl, trivial⟩ ?_
  obtain ⟨v3, hy4, hm⟩ := bind_some hm
  obtain ⟨hc5, hy4⟩ := ix_some hy4
  refine WO_index tbok rfl rfl rfl rfl rfl rfl rfl rfl (SlR.addr h_p0_3) hc5 ?_
  refine WO_loadE tbok rfl rfl rfl rfl (fun _ h => St.sat h) h_p0_3 hy4 rfl ?_
  refine WO_pure tbok 1 [(6, .int .i64 v3)] rfl ⟨rfl, trivial⟩ ?_
  refine WO_end ?_
  cases hm
  exact WK_ret (ret_out (L := []) (RLc_tmp rfl RLc_nil) (List.nil_sublist _) rfl)
def fiducialref13_Turn_Q (r : Int × Int × Int × List Int) : Value → List Ent → Prop := fun v L => ∃ (a0 : Option Addr) (q0 c0 : Nat), v = .agg #[.int .i64 r.1, .int .i64 r.2.1, .int .i64 r.2.2.1, .slice a0 q0 c0] ∧ OwnE 3 1 (I1 .i64) (.slice a0 q0 c0) r.2.2.2 L
theorem fiducialref13_Turn_walk {m : Mu} {p0_0 : Int} {p0_1 : Int} {p0_2 : Int} {p0_3 : List Int} {a_p0_3 : Option Addr} {q_p0_3 c_p0_3 : Nat} (h_p0_3 : SlR (FE (I1 .i64)) 1 m (.slice a_p0_3 q_p0_3 c_p0_3) p0_3) {r : Int × Int × Int × List Int} (hm : fiducialref13_Turn p0_0 p0_1 p0_2 p0_3 = some r) :
    Go.E.Spec Try.prog 18 [.agg #[.int .i64 p0_0, .int .i64 p0_1, .int .i64 p0_2, .slice a_p0_3 q_p0_3 c_p0_3]] m (fun v _ L => fiducialref13_Turn_Q r v L) := by
  refine Spec_enter Try.func18 rfl rfl rfl (fun w0 => ?_)
  refine WK.sub (e' := [(0, .agg #[.int .i64 p0_0, .int .i64 p0_1, .int .i64 p0_2, .slice a_p0_3 q_p0_3 c_p0_3])]) ⟨rfl, trivial⟩ ?_
  obtain rfl := SlR.qlen h_p0_3
  refine WK.sub (e' := [(0, .agg #[.int .i64 p0_0, .int .i64 p0_1, .int .i64 p0_2, .slice a_p0_3 p0_3.length c_p0_3])]) ⟨rfl, trivial⟩ ?_
  unfold fiducialref13_Turn at hm
  refine WK_seq ?_
  refine WK_region ?_
  refine WO_box [.int .i64 p0_0, .int .i64 p0_1, .int .i64 p0_2, .slice a_p0_3 p0_3.length c_p0_3] rfl rfl trivial rfl rfl rfl (fun b2 => ?_)
  refine WO.cls (C' := St w0 m m [[⟨b2, 24, [.int .i64 p0_0, .int .i64 p0_1, .int .i64 p0_2, .slice a_p0_3 p0_3.length c_p0_3]⟩]]) (fun _ h => h) ?_
  refine WO_alloc tbok [.int .i64 0, .int .i64 0, .int .i64 0, .slice none 0 0] rfl rfl trivial rfl rfl rfl rfl (fun b3 => ?_)
  refine WO.cls (C' := St w0 m m [[⟨b2, 24, [.int .i64 p0_0, .int .i64 p0_1, .int .i64 p0_2, .slice a_p0_3 p0_3.length c_p0_3]⟩], [⟨b3, 24, [.int .i64 0, .int .i64 0, .int .i64 0, .slice none 0 0]⟩]]) (fun _ h => h) ?_
  refine WO_end ?_
  refine WK_seq ?_
  refine WK_region ?_
  refine WO_pure tbok 1 [(1, .pointer (some ⟨b2, 0, none⟩)), (2, .pointer (some ⟨b3, 0, none⟩)), (6, .pointer (some ⟨b2, 1, none⟩))] rfl ⟨rfl, rfl, rfl, trivial⟩ ?_
  refine WO_loadB tbok 0 rfl rfl rfl rfl (fun _ h => h) rfl rfl ?_
  refine WO_pure tbok 1 [(1, .pointer (some ⟨b2, 0, none⟩)), (2, .pointer (some ⟨b3, 0, none⟩)), (7, .int .i64 p0_1), (8, .pointer (some ⟨b2, 0, none⟩))] rfl ⟨rfl, rfl, rfl, rfl, trivial⟩ ?_
  refine WO_loadB tbok 0 rfl rfl rfl rfl (fun _ h => h) rfl rfl ?_
  refine WO_pure tbok 1 [(1, .pointer (some ⟨b2, 0, none⟩)), (2, .pointer (some ⟨b3, 0, none⟩)), (7, .int .i64 p0_1), (9, .int .i64 p0_0), (10, .pointer (some ⟨b2, 2, none⟩))] rfl ⟨rfl, rfl, rfl, rfl, rfl, trivial⟩ ?_
  refine WO_loadB tbok 0 rfl rfl rfl rfl (fun _ h => h) rfl rfl ?_
  obtain ⟨⟨y4, y5, y6, y7⟩, hc8, hm⟩ := bind_some hm
  refine WO_call1 (fiducialref13_New_Q (y4, y5, y6, y7)) rfl rfl trivial rfl rfl rfl rfl ⟨24, #[], #[], rfl, callable_24, fun w hw => ⟨_, hw.sat, fiducialref13_New_walk hc8⟩⟩ (fun v13 L12 hq => ?_)
  obtain ⟨a9, qa9, c10, rfl, hL12⟩ := hq
  obtain rfl := OwnE.qlen hL12
  refine WO.cls (C' := St w0 m m [[⟨b2, 24, [.int .i64 p0_0, .int .i64 p0_1, .int .i64 p0_2, .slice a_p0_3 p0_3.length c_p0_3]⟩], [⟨b3, 24, [.int .i64 0, .int .i64 0, .int .i64 0, .slice none 0 0]⟩], L12]) (fun _ h => h) ?_
  refine WO_alloc tbok [.int .i64 0, .int .i64 0, .int .i64 0, .slice none 0 0] rfl rfl trivial rfl rfl rfl rfl (fun b14 => ?_)
  refine WO.cls (C' := St w0 m m [[⟨b2, 24, [.int .i64 p0_0, .int .i64 p0_1, .int .i64 p0_2, .slice a_p0_3 p0_3.length c_p0_3]⟩], [⟨b3, 24, [.int .i64 0, .int .i64 0, .int .i64 0, .slice none 0 0]⟩], L12, [⟨b14, 24, [.int .i64 0, .int .i64 0, .int .i64 0, .slice none 0 0]⟩]]) (fun _ h => h) ?_
  refine WO_storeB tbok 3 [.int .i64 y4, .int .i64 y5, .int .i64 y6, .slice a9 ((y7).length) c10] rfl rfl rfl rfl rfl rfl rfl ?_
  refine WO.cls (C' := St w0 m m [[⟨b2, 24, [.int .i64 p0_0, .int .i64 p0_1, .int .i64 p0_2, .slice a_p0_3 p0_3.length c_p0_3]⟩], [⟨b3, 24, [.int .i64 0, .int .i64 0, .int .i64 0, .slice none 0 0]⟩], L12, [⟨b14, 24, [.int .i64 y4, .int .i64 y5, .int .i64 y6, .slice a9 ((y7).length) c10]⟩]]) (fun _ h => h) ?_
  refine WO_end ?_
  refine WK_seq ?_
  refine WK_seq ?_
  refine WK_region ?_
  refine WO_pure tbok 1 [(1, .pointer (some ⟨b2, 0, none⟩)), (2, .pointer (some ⟨b3, 0, none⟩)), (3, .pointer (some ⟨b14, 0, none⟩)), (4, .int .i64 0)] rfl ⟨rfl, rfl, rfl, rfl, trivial⟩ ?_
  refine WO_end ?_
  obtain ⟨x22, hx23, hm⟩ := bind_some hm
  refine WK_join (β := (List Int) × (List Ent)) (fun p => p.1 = x22 ∧ OwnE 3 1 (I1 .i64) (.slice a9 ((y7).length) c10) p.1 p.2) (fun p => [(2, .pointer (some ⟨b3, 0, none⟩)), (3, .pointer (some ⟨b14, 0, none⟩))]) (fun p => St w0 m m [[⟨b2, 24, [.int .i64 p0_0, .int .i64 p0_1, .int .i64 p0_2, .slice a_p0_3 p0_3.length c_p0_3]⟩], [⟨b3, 24, [.int .i64 0, .int .i64 0, .int .i64 0, .slice none 0 0]⟩], p.2, [⟨b14, 24, [.int .i64 y4, .int .i64 y5, .int .i64 y6, .slice a9 ((y7).length) c10]⟩]]) ?_ (fun hk24 => ?_)
  · rintro ⟨l19, L21⟩ ⟨hq30, hL21⟩
    subst hq30
    refine WK.sub (e' := [(2, .pointer (some ⟨b3, 0, none⟩)), (3, .pointer (some ⟨b14, 0, none⟩))]) ⟨rfl, rfl, trivial⟩ (WK.cls (C' := St w0 m m [[⟨b2, 24, [.int .i64 p0_0, .int .i64 p0_1, .int .i64 p0_2, .slice a_p0_3 p0_3.length c_p0_3]⟩], [⟨b3, 24, [.int .i64 0, .int .i64 0, .int .i64 0, .slice none 0 0]⟩], L21, [⟨b14, 24, [.int .i64 y4, .int .i64 y5, .int .i64 y6, .slice a9 ((y7).length) c10]⟩]]) (fun _ h => h) ?_)
    refine WK_seq ?_
    refine WK_region ?_
    refine WO_loadB tbok 3 rfl rfl rfl rfl (fun _ h => h) rfl rfl ?_
    refine WO_storeB tbok 1 [.int .i64 y4, .int .i64 y5, .int .i64 y6, .slice a9 ((y7).length) c10] rfl rfl rfl rfl rfl rfl rfl ?_
    refine WO.cls (C' := St w0 m m [[⟨b2, 24, [.int .i64 p0_0, .int .i64 p0_1, .int .i64 p0_2, .slice a_p0_3 p0_3.length c_p0_3]⟩], [⟨b3, 24, [.int .i64 y4, .int .i64 y5, .int .i64 y6, .slice a9 ((y7).length) c10]⟩], L21, [⟨b14, 24, [.int .i64 y4, .int .i64 y5, .int .i64 y6, .slice a9 ((y7).length) c10]⟩]]) (fun _ h => h) ?_
    refine WO_end ?_
    cases hm
    exact WK_ret (ret_out (L := L21) (RLc_cell tbok 1 rfl rfl rfl RLc_nil) (seg_sub 2 rfl) ⟨a9, ((y7).length), c10, rfl, hL21⟩)
  · refine WK_block ?_
    refine WK_loop (S := List Int × Int) (G := List Ent) (fun s => fiducialref13_Turn_s1 p0_0 p0_1 p0_2 p0_3 y4 y5 s.1 s.2) (fun s g => [(1, .pointer (some ⟨b2, 0, none⟩)), (2, .pointer (some ⟨b3, 0, none⟩)), (3, .pointer (some ⟨b14, 0, none⟩)), (4, .int .i64 s.2)]) (fun s g => St w0 m m [[⟨b2, 24, [.int .i64 p0_0, .int .i64 p0_1, .int .i64 p0_2, .slice a_p0_3 p0_3.length c_p0_3]⟩], [⟨b3, 24, [.int .i64 0, .int .i64 0, .int .i64 0, .slice none 0 0]⟩], g, [⟨b14, 24, [.int .i64 y4, .int .i64 y5, .int .i64 y6, .slice a9 ((y7).length) c10]⟩]]) (fun s g => OwnE 3 1 (I1 .i64) (.slice a9 ((y7).length) c10) s.1 g) FUEL (y7, 0) L12 x22 hx23 hL12 ⟨rfl, rfl, rfl, rfl, trivial⟩ (fun _ h => h) ?_
    rintro ⟨l15, s18⟩ L17 o26 fl27 hm25 hL17 hn28 hd29
    have hm25 : fiducialref13_Turn_s1 p0_0 p0_1 p0_2 p0_3 y4 y5 l15 s18 = some o26 := hm25
    unfold fiducialref13_Turn_s1 at hm25
    refine WK.sub (e' := [(1, .pointer (some ⟨b2, 0, none⟩)), (2, .pointer (some ⟨b3, 0, none⟩)), (3, .pointer (some ⟨b14, 0, none⟩)), (4, .int .i64 s18)]) ⟨rfl, rfl, rfl, rfl, trivial⟩ (WK.cls (C' := St w0 m m [[⟨b2, 24, [.int .i64 p0_0, .int .i64 p0_1, .int .i64 p0_2, .slice a_p0_3 p0_3.length c_p0_3]⟩], [⟨b3, 24, [.int .i64 0, .int .i64 0, .int .i64 0, .slice none 0 0]⟩], L17, [⟨b14, 24, [.int .i64 y4, .int .i64 y5, .int .i64 y6, .slice a9 ((y7).length) c10]⟩]]) (fun _ h => h) ?_)
    refine WK_seq ?_
    refine WK_seq ?_
    refine WK_region ?_
    refine WO_pure tbok 2 [(1, .pointer (some ⟨b2, 0, none⟩)), (2, .pointer (some ⟨b3, 0, none⟩)), (3, .pointer (some ⟨b14, 0, none⟩)), (4, .int .i64 s18), (13, .int .i64 s18), (14, .pointer (some ⟨b14, 1, none⟩))] rfl ⟨rfl, rfl, rfl, rfl, rfl, rfl, trivial⟩ ?_
    refine WO_loadB tbok 3 rfl rfl rfl rfl (fun _ h => h) rfl rfl ?_
    refine WO_pure tbok 1 [(1, .pointer (some ⟨b2, 0, none⟩)), (2, .pointer (some ⟨b3, 0, none⟩)), (3, .pointer (some ⟨b14, 0, none⟩)), (4, .int .i64 s18), (16, .bool (decide (s18 < y5)))] rfl ⟨rfl, rfl, rfl, rfl, rfl, trivial⟩ ?_
    refine WO_end ?_
    refine WK_cond (b := decide (s18 < y5)) rfl (fun hb31 => ?_) (fun hb31 => ?_)
    · have hm25 := ifT hb31 hm25
      refine WK_skip ?_
      refine WK_seq ?_
      refine WK_block ?_
      refine WK_seq ?_
      refine WK_region ?_
      refine WO_pure tbok 1 [(1, .pointer (some ⟨b2, 0, none⟩)), (2, .pointer (some ⟨b3, 0, none⟩)), (3, .pointer (some ⟨b14, 0, none⟩)), (4, .int .i64 s18), (5, .int .i64 0)] rfl ⟨rfl, rfl, rfl, rfl, rfl, trivial⟩ ?_
      refine WO_end ?_
      obtain ⟨x39, hx40, hm25⟩ := bind_some hm25
      refine WK_join (β := (List Int) × (List Ent)) (fun p => p.1 = x39 ∧ OwnE 3 1 (I1 .i64) (.slice a9 ((y7).length) c10) p.1 p.2) (fun p => [(1, .pointer (some ⟨b2, 0, none⟩)), (2, .pointer (some ⟨b3, 0, none⟩)), (3, .pointer (some ⟨b14, 0, none⟩)), (4, .int .i64 s18)]) (fun p => St w0 m m [[⟨b2, 24, [.int .i64 p0_0, .int .i64 p0_1, .int .i64 p0_2, .slice a_p0_3 p0_3.length c_p0_3]⟩], [⟨b3, 24, [.int .i64 0, .int .i64 0, .int .i64 0, .slice none 0 0]⟩], p.2, [⟨b14, 24, [.int .i64 y4, .int .i64 y5, .int .i64 y6, .slice a9 ((y7).length) c10]⟩]]) ?_ (fun hk41 => ?_)
      · rintro ⟨l36, L38⟩ ⟨hq47, hL38⟩
        subst hq47
        refine WK.sub (e' := [(1, .pointer (some ⟨b2, 0, none⟩)), (2, .pointer (some ⟨b3, 0, none⟩)), (3, .pointer (some ⟨b14, 0, none⟩)), (4, .int .i64 s18)]) ⟨rfl, rfl, rfl, rfl, trivial⟩ (WK.cls (C' := St w0 m m [[⟨b2, 24, [.int .i64 p0_0, .int .i64 p0_1, .int .i64 p0_2, .slice a_p0_3 p0_3.length c_p0_3]⟩], [⟨b3, 24, [.int .i64 0, .int .i64 0, .int .i64 0, .slice none 0 0]⟩], L38, [⟨b14, 24, [.int .i64 y4, .int .i64 y5, .int .i64 y6, .slice a9 ((y7).length) c10]⟩]]) (fun _ h => h) ?_)
        refine WK_blk ?_
        refine WK_region ?_
        refine WO_pure tbok 3 [(1, .pointer (some ⟨b2, 0, none⟩)), (2, .pointer (some ⟨b3, 0, none⟩)), (3, .pointer (some ⟨b14, 0, none⟩)), (4, .int .i64 (w64 (s18 + 1)))] rfl ⟨rfl, rfl, rfl, rfl, trivial⟩ ?_
        refine WO_end ?_
        cases hm25
        refine WK.sub ?_ (WK.cls (fun _ h => h) (hn28 _ L38 rfl hL38))
        exact ⟨rfl, rfl, rfl, rfl, trivial⟩
      · refine WK_block ?_
        refine WK_loop (S := List Int × Int) (G := List Ent) (fun s => fiducialref13_Turn_s2 p0_0 p0_1 p0_2 p0_3 y4 s18 s.1 s.2) (fun s g => [(1, .pointer (some ⟨b2, 0, none⟩)), (2, .pointer (some ⟨b3, 0, none⟩)), (3, .pointer (some ⟨b14, 0, none⟩)), (4, .int .i64 s18), (5, .int .i64 s.2)]) (fun s g => St w0 m m [[⟨b2, 24, [.int .i64 p0_0, .int .i64 p0_1, .int .i64 p0_2, .slice a_p0_3 p0_3.length c_p0_3]⟩], [⟨b3, 24, [.int .i64 0, .int .i64 0, .int .i64 0, .slice none 0 0]⟩], g, [⟨b14, 24, [.int .i64 y4, .int .i64 y5, .int .i64 y6, .slice a9 ((y7).length) c10]⟩]]) (fun s g => OwnE 3 1 (I1 .i64) (.slice a9 ((y7).length) c10) s.1 g) FUEL (l15, 0) L17 x39 hx40 hL17 ⟨rfl, rfl, rfl, rfl, rfl, trivial⟩ (fun _ h => h) ?_
        rintro ⟨l32, s35⟩ L34 o43 fl44 hm42 hL34 hn45 hd46
        have hm42 : fiducialref13_Turn_s2 p0_0 p0_1 p0_2 p0_3 y4 s18 l32 s35 = some o43 := hm42
        unfold fiducialref13_Turn_s2 at hm42
        refine WK.sub (e' := [(1, .pointer (some ⟨b2, 0, none⟩)), (2, .pointer (some ⟨b3, 0, none⟩)), (3, .pointer (some ⟨b14, 0, none⟩)), (4, .int .i64 s18), (5, .int .i64 s35)]) ⟨rfl, rfl, rfl, rfl, rfl, trivial⟩ (WK.cls (C' := St w0 m m [[⟨b2, 24, [.int .i64 p0_0, .int .i64 p0_1, .int .i64 p0_2, .slice a_p0_3 p0_3.length c_p0_3]⟩], [⟨b3, 24, [.int .i64 0, .int .i64 0, .int .i64 0, .slice none 0 0]⟩], L34, [⟨b14, 24, [.int .i64 y4, .int .i64 y5, .int .i64 y6, .slice a9 ((y7).length) c10]⟩]]) (fun _ h => h) ?_)
        refine WK_seq ?_
        refine WK_seq ?_
        refine WK_region ?_
        refine WO_pure tbok 2 [(1, .pointer (some ⟨b2, 0, none⟩)), (2, .pointer (some ⟨b3, 0, none⟩)), (3, .pointer (some ⟨b14, 0, none⟩)), (4, .int .i64 s18), (5, .int .i64 s35), (19, .int .i64 s35), (20, .pointer (some ⟨b14, 0, none⟩))] rfl ⟨rfl, rfl, rfl, rfl, rfl, rfl, rfl, trivial⟩ ?_
        refine WO_loadB tbok 3 rfl rfl rfl rfl (fun _ h => h) rfl rfl ?_
        refine WO_pure tbok 1 [(1, .pointer (some ⟨b2, 0, none⟩)), (2, .pointer (some ⟨b3, 0, none⟩)), (3, .pointer (some ⟨b14, 0, none⟩)), (4, .int .i64 s18), (5, .int .i64 s35), (22, .bool (decide (s35 < y4)))] rfl ⟨rfl, rfl, rfl, rfl, rfl, rfl, trivial⟩ ?_
        refine WO_end ?_
        refine WK_cond (b := decide (s35 < y4)) rfl (fun hb48 => ?_) (fun hb48 => ?_)
        · have hm42 := ifT hb48 hm42
          refine WK_skip ?_
          refine WK_seq ?_
          refine WK_block ?_
          refine WK_draw 17 [0, 1, 2, 3, 4, 5, 6, 7, 8, 9, 10, 11, 12, 13, 14, 15, 16] follows_ok (by kernel_rfl) St_closed ?_
          refine WO_pure tbok 1 [(1, .pointer (some ⟨b2, 0, none⟩)), (2, .pointer (some ⟨b3, 0, none⟩)), (3, .pointer (some ⟨b14, 0, none⟩)), (4, .int .i64 s18), (5, .int .i64 s35), (25, .pointer (some ⟨b14, 3, none⟩))] rfl ⟨rfl, rfl, rfl, rfl, rfl, rfl, trivial⟩ ?_
          refine WO_loadB tbok 3 rfl rfl rfl rfl (fun _ h => h) rfl rfl ?_
          refine WO_pure tbok 2 [(1, .pointer (some ⟨b2, 0, none⟩)), (2, .pointer (some ⟨b3, 0, none⟩)), (3, .pointer (some ⟨b14, 0, none⟩)), (4, .int .i64 s18), (5, .int .i64 s35), (26, .slice a9 ((y7).length) c10), (27, .int .i64 s18), (28, .pointer (some ⟨b14, 0, none⟩))] rfl ⟨rfl, rfl, rfl, rfl, rfl, rfl, rfl, rfl, trivial⟩ ?_
          refine WO_loadB tbok 3 rfl rfl rfl rfl (fun _ h => h) rfl rfl ?_
          refine WO_pure tbok 3 [(1, .pointer (some ⟨b2, 0, none⟩)), (2, .pointer (some ⟨b3, 0, none⟩)), (3, .pointer (some ⟨b14, 0, none⟩)), (4, .int .i64 s18), (5, .int .i64 s35), (26, .slice a9 ((y7).length) c10), (32, .int .i64 (w64 ((w64 (s18 * y4)) + s35)))] rfl ⟨rfl, rfl, rfl, rfl, rfl, rfl, rfl, trivial⟩ ?_
          refine WO_loadB tbok 0 rfl rfl rfl rfl (fun _ h => h) rfl rfl ?_
          refine WO_pure tbok 1 [(1, .pointer (some ⟨b2, 0, none⟩)), (2, .pointer (some ⟨b3, 0, none⟩)), (3, .pointer (some ⟨b14, 0, none⟩)), (4, .int .i64 s18), (5, .int .i64 s35), (26, .slice a9 ((y7).length) c10), (32, .int .i64 (w64 ((w64 (s18 * y4)) + s35))), (33, .agg #[.int .i64 p0_0, .int .i64 p0_1, .int .i64 p0_2, .slice a_p0_3 p0_3.length c_p0_3]), (34, .pointer (some ⟨b2, 0, none⟩))] rfl ⟨rfl, rfl, rfl, rfl, rfl, rfl, rfl, rfl, rfl, trivial⟩ ?_
          refine WO_loadB tbok 0 rfl rfl rfl rfl (fun _ h => h) rfl rfl ?_
          refine WO_pure tbok 4 [(1, .pointer (some ⟨b2, 0, none⟩)), (2, .pointer (some ⟨b3, 0, none⟩)), (3, .pointer (some ⟨b14, 0, none⟩)), (4, .int .i64 s18), (5, .int .i64 s35), (26, .slice a9 ((y7).length) c10), (32, .int .i64 (w64 ((w64 (s18 * y4)) + s35))), (33, .agg #[.int .i64 p0_0, .int .i64 p0_1, .int .i64 p0_2, .slice a_p0_3 p0_3.length c_p0_3]), (38, .int .i64 (w64 ((w64 (p0_0 - 1)) - s18))), (39, .int .i64 s35)] rfl ⟨rfl, rfl, rfl, rfl, rfl, rfl, rfl, rfl, rfl, rfl, trivial⟩ ?_
          obtain ⟨y49, hc50, hm42⟩ := bind_some hm42
          refine WO_call0 (.int .i64 y49) rfl rfl St_closed rfl rfl rfl rfl St_closed ⟨44, #[], #[], rfl, callable_44, fun w hw => ⟨_, hw.sat, fiducialref13_At_walk h_p0_3 hc50⟩⟩ ?_
          obtain ⟨hc51, hm42⟩ := chk_some hm42
          refine WO_index tbok rfl rfl rfl rfl rfl rfl rfl rfl (OwnE.addr hL34) (by simpa using hc51) ?_
          refine WO_tail ?_
          refine WO_storeO (E := (I1 .i64)) tbok (fun _ => rfl) 2 y49 rfl rfl rfl rfl rfl hL34 rfl (by simpa using idx_lt hc51) rfl rfl rfl rfl (fun L52 hL52 => ?_)
          refine WO.cls (C' := St w0 m m [[⟨b2, 24, [.int .i64 p0_0, .int .i64 p0_1, .int .i64 p0_2, .slice a_p0_3 p0_3.length c_p0_3]⟩], [⟨b3, 24, [.int .i64 0, .int .i64 0, .int .i64 0, .slice none 0 0]⟩], L52, [⟨b14, 24, [.int .i64 y4, .int .i64 y5, .int .i64 y6, .slice a9 ((y7).length) c10]⟩]]) (fun _ h => h) ?_
          refine WO_end ?_
          refine WK_blk ?_
          refine WK_region ?_
          refine WO_pure tbok 3 [(1, .pointer (some ⟨b2, 0, none⟩)), (2, .pointer (some ⟨b3, 0, none⟩)), (3, .pointer (some ⟨b14, 0, none⟩)), (4, .int .i64 s18), (5, .int .i64 (w64 (s35 + 1)))] rfl ⟨rfl, rfl, rfl, rfl, rfl, trivial⟩ ?_
          refine WO_end ?_
          cases hm42
          refine WK.sub ?_ (WK.cls (fun _ h => h) (hn45 _ L52 rfl hL52))
          exact ⟨rfl, rfl, rfl, rfl, rfl, trivial⟩
        · have hm42 := ifF hb48 hm42
          refine WK_exit rfl ?_
          cases hm42
          refine WK.sub ?_ (WK.cls (fun _ h => h) (hk41 (l32, L34) ⟨(hd46 _ rfl), hL34⟩))
          exact ⟨rfl, rfl, rfl, rfl, trivial⟩
    · have hm25 := ifF hb31 hm25
      refine WK_exit rfl ?_
      cases hm25
      refine WK.sub ?_ (WK.cls (fun _ h => h) (hk24 (l15, L17) ⟨(hd29 _ rfl), hL17⟩))
      exact ⟨rfl, rfl, trivial⟩
end Go.Proofs.Ytoflllddpoonbaa
