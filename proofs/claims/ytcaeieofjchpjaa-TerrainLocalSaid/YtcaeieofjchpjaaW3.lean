import Derived.Test.YtcaeieofjchpjaaTab
import Derived.Test.YtcaeieofjchpjaaM
import Derived.Test.YtcaeieofjchpjaaW2
set_option linter.unusedVariables false
set_option maxRecDepth 100000
set_option maxHeartbeats 4000000
namespace Go.Proofs.Ytcaeieofjchpjaa
open Go.E Go.RowKit
attribute [local irreducible] Go.E.WO Go.E.WK
theorem slices_Equal_sint_walk {m : Mu} {p0 : List Int} {p1 : List Int} {a_p0 : Option Addr} {q_p0 c_p0 : Nat} {a_p1 : Option Addr} {q_p1 c_p1 : Nat} (h_p0 : SlR (FE (I1 .i64)) 1 m (.slice a_p0 q_p0 c_p0) p0) (h_p1 : SlR (FE (I1 .i64)) 1 m (.slice a_p1 q_p1 c_p1) p1) {r : Bool} (hm : slices_Equal_sint p0 p1 = some r) :
    Go.E.Spec Try.prog 38 [.slice a_p0 q_p0 c_p0, .slice a_p1 q_p1 c_p1] m (fun v _ _ => v = .bool r) := by
  refine Spec_enter Try.func38 rfl rfl rfl (fun w0 => ?_)
  refine WK.sub (e' := [(0, .slice a_p0 q_p0 c_p0), (1, .slice a_p1 q_p1 c_p1)]) ⟨rfl, rfl, trivial⟩ ?_
  obtain rfl := SlR.qlen h_p0
  obtain rfl := SlR.qlen h_p1
  refine WK.sub (e' := [(0, .slice a_p0 p0.length c_p0), (1, .slice a_p1 p1.length c_p1)]) ⟨rfl, rfl, trivial⟩ ?_
  unfold slices_Equal_sint at hm
  refine WK_seq ?_
  refine WK_region ?_
  refine WO_pure tbok 1 [(0, .slice a_p0 p0.length c_p0), (1, .slice a_p1 p1.length c_p1), (4, .bool false)] rfl ⟨rfl, rfl, rfl, trivial⟩ ?_
  refine WO_end ?_
  refine WK_seq ?_
  refine WK_seq ?_
  refine WK_region ?_
  refine WO_pure tbok 5 [(0, .slice a_p0 p0.length c_p0), (1, .slice a_p1 p1.length c_p1), (4, .bool false), (10, .bool ((p0.length : Int) != (p1.length : Int)))] rfl ⟨rfl, rfl, rfl, rfl, trivial⟩ ?_
  refine WO_end ?_
  refine WK_cond (b := (p0.length : Int) != (p1.length : Int)) rfl (fun hb1 => ?_) (fun hb1 => ?_)
  · have hm := ifT hb1 hm
    refine WK_seq ?_
    refine WK_region ?_
    refine WO_pure tbok 1 [(0, .slice a_p0 p0.length c_p0), (1, .slice a_p1 p1.length c_p1), (4, .bool false)] rfl ⟨rfl, rfl, rfl, trivial⟩ ?_
    refine WO_end ?_
    cases hm
    exact WK_ret (ret_out (L := []) (RLc_tmp rfl RLc_nil) (List.nil_sublist _) rfl)
  · have hm := ifF hb1 hm
    refine WK_skip ?_
    refine WK_seq ?_
    refine WK_seq ?_
    refine WK_region ?_
    refine WO_pure tbok 3 [(0, .slice a_p0 p0.length c_p0), (1, .slice a_p1 p1.length c_p1), (4, .bool false), (12, .int .i64 (p0.length : Int)), (13, .int .i64 0)] rfl ⟨rfl, rfl, rfl, rfl, rfl, trivial⟩ ?_
    refine WO_end ?_
    obtain ⟨x2, hx3, hm⟩ := bind_some hm
    refine WK_join (β := Unit × Unit) (fun p => Sum.inr p.1 = x2) (fun p => [(4, .bool false)]) (fun p => St w0 m m []) ?_ (fun hk4 => ?_)
    · rintro ⟨⟨⟩, ⟨⟩⟩ hq10
      subst hq10
      refine WK.sub (e' := [(4, .bool false)]) ⟨rfl, trivial⟩ (WK.cls (C' := St w0 m m []) (fun _ h => h) ?_)
      refine WK_seq ?_
      refine WK_region ?_
      refine WO_pure tbok 1 [(4, .bool true)] rfl ⟨rfl, trivial⟩ ?_
      refine WO_end ?_
      cases hm
      exact WK_ret (ret_out (L := []) (RLc_tmp rfl RLc_nil) (List.nil_sublist _) rfl)
    · refine WK_block ?_
      refine WK_loop (S := Int) (G := Unit) (fun s => slices_Equal_sint_s1 p0 p1 s) (fun s g => [(0, .slice a_p0 p0.length c_p0), (1, .slice a_p1 p1.length c_p1), (4, .bool false), (12, .int .i64 (p0.length : Int)), (13, .int .i64 s)]) (fun s g => St w0 m m []) (fun s g => True) FUEL 0 () x2 hx3 trivial ⟨rfl, rfl, rfl, rfl, rfl, trivial⟩ (fun _ h => h) ?_
      rintro s_1 ⟨⟩ o6 fl7 hm5 - hn8 hd9
      have hm5 : slices_Equal_sint_s1 p0 p1 s_1 = some o6 := hm5
      unfold slices_Equal_sint_s1 at hm5
      refine WK.sub (e' := [(0, .slice a_p0 p0.length c_p0), (1, .slice a_p1 p1.length c_p1), (4, .bool false), (12, .int .i64 (p0.length : Int)), (13, .int .i64 s_1)]) ⟨rfl, rfl, rfl, rfl, rfl, trivial⟩ (WK.cls (C' := St w0 m m []) (fun _ h => h) ?_)
      refine WK_seq ?_
      refine WK_region ?_
      refine WO_pure tbok 1 [(0, .slice a_p0 p0.length c_p0), (1, .slice a_p1 p1.length c_p1), (4, .bool false), (12, .int .i64 (p0.length : Int)), (13, .int .i64 s_1), (14, .bool (decide (s_1 < (p0.length : Int))))] rfl ⟨rfl, rfl, rfl, rfl, rfl, rfl, trivial⟩ ?_
      refine WO_end ?_
      refine WK_seq ?_
      refine WK_cond (b := decide (s_1 < (p0.length : Int))) rfl (fun hb11 => ?_) (fun hb11 => ?_)
      · have hm5 := ifT hb11 hm5
        refine WK_skip ?_
        refine WK_seq ?_
        refine WK_block ?_
        refine WK_seq ?_
        refine WK_region ?_
        refine WO_pure tbok 2 [(0, .slice a_p0 p0.length c_p0), (1, .slice a_p1 p1.length c_p1), (4, .bool false), (5, .int .i64 s_1), (12, .int .i64 (p0.length : Int)), (13, .int .i64 s_1)] rfl ⟨rfl, rfl, rfl, rfl, rfl, rfl, trivial⟩ ?_
        refine WO_end ?_
        refine WK_seq ?_
        refine WK_draw 9 [0, 1, 2, 3, 4, 5, 6, 7, 8] follows_ok (by kernel_rfl) St_closed ?_
        refine WO_pure tbok 2 [(0, .slice a_p0 p0.length c_p0), (1, .slice a_p1 p1.length c_p1), (4, .bool false), (5, .int .i64 s_1), (12, .int .i64 (p0.length : Int)), (13, .int .i64 s_1), (16, .slice a_p0 p0.length c_p0), (17, .int .i64 s_1)] rfl ⟨rfl, rfl, rfl, rfl, rfl, rfl, rfl, rfl, trivial⟩ ?_
        obtain ⟨v_2, hy12, hm5⟩ := bind_some hm5
        obtain ⟨hc13, hy12⟩ := ix_some hy12
        refine WO_index tbok rfl rfl rfl rfl rfl rfl rfl rfl (SlR.addr h_p0) hc13 ?_
        refine WO_loadE tbok rfl rfl rfl rfl (fun _ h => St.sat h) h_p0 hy12 rfl ?_
        refine WO_pure tbok 2 [(0, .slice a_p0 p0.length c_p0), (1, .slice a_p1 p1.length c_p1), (4, .bool false), (12, .int .i64 (p0.length : Int)), (13, .int .i64 s_1), (19, .int .i64 v_2), (20, .slice a_p1 p1.length c_p1), (21, .int .i64 s_1)] rfl ⟨rfl, rfl, rfl, rfl, rfl, rfl, rfl, rfl, trivial⟩ ?_
        obtain ⟨v_3, hy14, hm5⟩ := bind_some hm5
        obtain ⟨hc15, hy14⟩ := ix_some hy14
        refine WO_index tbok rfl rfl rfl rfl rfl rfl rfl rfl (SlR.addr h_p1) hc15 ?_
        refine WO_loadE tbok rfl rfl rfl rfl (fun _ h => St.sat h) h_p1 hy14 rfl ?_
        refine WO_pure tbok 1 [(0, .slice a_p0 p0.length c_p0), (1, .slice a_p1 p1.length c_p1), (4, .bool false), (12, .int .i64 (p0.length : Int)), (13, .int .i64 s_1), (24, .bool (v_2 != v_3))] rfl ⟨rfl, rfl, rfl, rfl, rfl, rfl, trivial⟩ ?_
        refine WO_tail ?_
        refine WO_end ?_
        refine WK_cond (b := v_2 != v_3) rfl (fun hb16 => ?_) (fun hb16 => ?_)
        · have hm5 := ifT hb16 hm5
          refine WK_seq ?_
          refine WK_region ?_
          refine WO_pure tbok 1 [(0, .slice a_p0 p0.length c_p0), (1, .slice a_p1 p1.length c_p1), (4, .bool false), (12, .int .i64 (p0.length : Int)), (13, .int .i64 s_1)] rfl ⟨rfl, rfl, rfl, rfl, rfl, trivial⟩ ?_
          refine WO_end ?_
          cases hm5
          have hq := hd9 _ rfl
          subst hq
          have hm : some _ = some _ := hm
          cases hm
          exact WK_ret (ret_out (L := []) (RLc_tmp rfl RLc_nil) (List.nil_sublist _) rfl)
        · have hm5 := ifF hb16 hm5
          refine WK_skip ?_
          refine WK_blk ?_
          refine WK_region ?_
          refine WO_pure tbok 2 [(0, .slice a_p0 p0.length c_p0), (1, .slice a_p1 p1.length c_p1), (4, .bool false), (12, .int .i64 (p0.length : Int)), (13, .int .i64 (w64 (s_1 + 1)))] rfl ⟨rfl, rfl, rfl, rfl, rfl, trivial⟩ ?_
          refine WO_end ?_
          cases hm5
          refine WK.sub ?_ (WK.cls (fun _ h => h) (hn8 _ () rfl trivial))
          exact ⟨rfl, rfl, rfl, rfl, rfl, trivial⟩
      · have hm5 := ifF hb11 hm5
        refine WK_exit rfl ?_
        cases hm5
        refine WK.sub ?_ (WK.cls (fun _ h => h) (hk4 ((), ()) (hd9 _ rfl)))
        exact ⟨rfl, trivial⟩
theorem slices_Equal_sbool_walk {m : Mu} {p0 : List Bool} {p1 : List Bool} {a_p0 : Option Addr} {q_p0 c_p0 : Nat} {a_p1 : Option Addr} {q_p1 c_p1 : Nat} (h_p0 : SlR (FE B1) 1 m (.slice a_p0 q_p0 c_p0) p0) (h_p1 : SlR (FE B1) 1 m (.slice a_p1 q_p1 c_p1) p1) {r : Bool} (hm : slices_Equal_sbool p0 p1 = some r) :
    Go.E.Spec Try.prog 20 [.slice a_p0 q_p0 c_p0, .slice a_p1 q_p1 c_p1] m (fun v _ _ => v = .bool r) := by
  refine Spec_enter Try.func20 rfl rfl rfl (fun w0 => ?_)
  refine WK.sub (e' := [(0, .slice a_p0 q_p0 c_p0), (1, .slice a_p1 q_p1 c_p1)]) ⟨rfl, rfl, trivial⟩ ?_
  obtain rfl := SlR.qlen h_p0
  obtain rfl := SlR.qlen h_p1
  refine WK.sub (e' := [(0, .slice a_p0 p0.length c_p0), (1, .slice a_p1 p1.length c_p1)]) ⟨rfl, rfl, trivial⟩ ?_
  unfold slices_Equal_sbool at hm
  refine WK_seq ?_
  refine WK_region ?_
  refine WO_pure tbok 1 [(0, .slice a_p0 p0.length c_p0), (1, .slice a_p1 p1.length c_p1), (4, .bool false)] rfl ⟨rfl, rfl, rfl, trivial⟩ ?_
  refine WO_end ?_
  refine WK_seq ?_
  refine WK_seq ?_
  refine WK_region ?_
  refine WO_pure tbok 5 [(0, .slice a_p0 p0.length c_p0), (1, .slice a_p1 p1.length c_p1), (4, .bool false), (10, .bool ((p0.length : Int) != (p1.length : Int)))] rfl ⟨rfl, rfl, rfl, rfl, trivial⟩ ?_
  refine WO_end ?_
  refine WK_cond (b := (p0.length : Int) != (p1.length : Int)) rfl (fun hb1 => ?_) (fun hb1 => ?_)
  · have hm := ifT hb1 hm
    refine WK_seq ?_
    refine WK_region ?_
    refine WO_pure tbok 1 [(0, .slice a_p0 p0.length c_p0), (1, .slice a_p1 p1.length c_p1), (4, .bool false)] rfl ⟨rfl, rfl, rfl, trivial⟩ ?_
    refine WO_end ?_
    cases hm
    exact WK_ret (ret_out (L := []) (RLc_tmp rfl RLc_nil) (List.nil_sublist _) rfl)
  · have hm := ifF hb1 hm
    refine WK_skip ?_
    refine WK_seq ?_
    refine WK_seq ?_
    refine WK_region ?_
    refine WO_pure tbok 3 [(0, .slice a_p0 p0.length c_p0), (1, .slice a_p1 p1.length c_p1), (4, .bool false), (12, .int .i64 (p0.length : Int)), (13, .int .i64 0)] rfl ⟨rfl, rfl, rfl, rfl, rfl, trivial⟩ ?_
    refine WO_end ?_
    obtain ⟨x2, hx3, hm⟩ := bind_some hm
    refine WK_join (β := Unit × Unit) (fun p => Sum.inr p.1 = x2) (fun p => [(4, .bool false)]) (fun p => St w0 m m []) ?_ (fun hk4 => ?_)
    · rintro ⟨⟨⟩, ⟨⟩⟩ hq10
      subst hq10
      refine WK.sub (e' := [(4, .bool false)]) ⟨rfl, trivial⟩ (WK.cls (C' := St w0 m m []) (fun _ h => h) ?_)
      refine WK_seq ?_
      refine WK_region ?_
      refine WO_pure tbok 1 [(4, .bool true)] rfl ⟨rfl, trivial⟩ ?_
      refine WO_end ?_
      cases hm
      exact WK_ret (ret_out (L := []) (RLc_tmp rfl RLc_nil) (List.nil_sublist _) rfl)
    · refine WK_block ?_
      refine WK_loop (S := Int) (G := Unit) (fun s => slices_Equal_sbool_s1 p0 p1 s) (fun s g => [(0, .slice a_p0 p0.length c_p0), (1, .slice a_p1 p1.length c_p1), (4, .bool false), (12, .int .i64 (p0.length : Int)), (13, .int .i64 s)]) (fun s g => St w0 m m []) (fun s g => True) FUEL 0 () x2 hx3 trivial ⟨rfl, rfl, rfl, rfl, rfl, trivial⟩ (fun _ h => h) ?_
      rintro s_1 ⟨⟩ o6 fl7 hm5 - hn8 hd9
      have hm5 : slices_Equal_sbool_s1 p0 p1 s_1 = some o6 := hm5
      unfold slices_Equal_sbool_s1 at hm5
      refine WK.sub (e' := [(0, .slice a_p0 p0.length c_p0), (1, .slice a_p1 p1.length c_p1), (4, .bool false), (12, .int .i64 (p0.length : Int)), (13, .int .i64 s_1)]) ⟨rfl, rfl, rfl, rfl, rfl, trivial⟩ (WK.cls (C' := St w0 m m []) (fun _ h => h) ?_)
      refine WK_seq ?_
      refine WK_region ?_
      refine WO_pure tbok 1 [(0, .slice a_p0 p0.length c_p0), (1, .slice a_p1 p1.length c_p1), (4, .bool false), (12, .int .i64 (p0.length : Int)), (13, .int .i64 s_1), (14, .bool (decide (s_1 < (p0.length : Int))))] rfl ⟨rfl, rfl, rfl, rfl, rfl, rfl, trivial⟩ ?_
      refine WO_end ?_
      refine WK_seq ?_
      refine WK_cond (b := decide (s_1 < (p0.length : Int))) rfl (fun hb11 => ?_) (fun hb11 => ?_)
      · have hm5 := ifT hb11 hm5
        refine WK_skip ?_
        refine WK_seq ?_
        refine WK_block ?_
        refine WK_seq ?_
        refine WK_region ?_
        refine WO_pure tbok 2 [(0, .slice a_p0 p0.length c_p0), (1, .slice a_p1 p1.length c_p1), (4, .bool false), (5, .int .i64 s_1), (12, .int .i64 (p0.length : Int)), (13, .int .i64 s_1)] rfl ⟨rfl, rfl, rfl, rfl, rfl, rfl, trivial⟩ ?_
        refine WO_end ?_
        refine WK_seq ?_
        refine WK_draw 9 [0, 1, 2, 3, 4, 5, 6, 7, 8] follows_ok (by kernel_rfl) St_closed ?_
        refine WO_pure tbok 2 [(0, .slice a_p0 p0.length c_p0), (1, .slice a_p1 p1.length c_p1), (4, .bool false), (5, .int .i64 s_1), (12, .int .i64 (p0.length : Int)), (13, .int .i64 s_1), (16, .slice a_p0 p0.length c_p0), (17, .int .i64 s_1)] rfl ⟨rfl, rfl, rfl, rfl, rfl, rfl, rfl, rfl, trivial⟩ ?_
        obtain ⟨v_2, hy12, hm5⟩ := bind_some hm5
        obtain ⟨hc13, hy12⟩ := ix_some hy12
        refine WO_index tbok rfl rfl rfl rfl rfl rfl rfl rfl (SlR.addr h_p0) hc13 ?_
        refine WO_loadE tbok rfl rfl rfl rfl (fun _ h => St.sat h) h_p0 hy12 rfl ?_
        refine WO_pure tbok 2 [(0, .slice a_p0 p0.length c_p0), (1, .slice a_p1 p1.length c_p1), (4, .bool false), (12, .int .i64 (p0.length : Int)), (13, .int .i64 s_1), (19, .bool v_2), (20, .slice a_p1 p1.length c_p1), (21, .int .i64 s_1)] rfl ⟨rfl, rfl, rfl, rfl, rfl, rfl, rfl, rfl, trivial⟩ ?_
        obtain ⟨v_3, hy14, hm5⟩ := bind_some hm5
        obtain ⟨hc15, hy14⟩ := ix_some hy14
        refine WO_index tbok rfl rfl rfl rfl rfl rfl rfl rfl (SlR.addr h_p1) hc15 ?_
        refine WO_loadE tbok rfl rfl rfl rfl (fun _ h => St.sat h) h_p1 hy14 rfl ?_
        refine WO_pure tbok 1 [(0, .slice a_p0 p0.length c_p0), (1, .slice a_p1 p1.length c_p1), (4, .bool false), (12, .int .i64 (p0.length : Int)), (13, .int .i64 s_1), (24, .bool (!(v_2 == v_3)))] rfl ⟨rfl, rfl, rfl, rfl, rfl, rfl, trivial⟩ ?_
        refine WO_tail ?_
        refine WO_end ?_
        refine WK_cond (b := !(v_2 == v_3)) rfl (fun hb16 => ?_) (fun hb16 => ?_)
        · have hm5 := ifT hb16 hm5
          refine WK_seq ?_
          refine WK_region ?_
          refine WO_pure tbok 1 [(0, .slice a_p0 p0.length c_p0), (1, .slice a_p1 p1.length c_p1), (4, .bool false), (12, .int .i64 (p0.length : Int)), (13, .int .i64 s_1)] rfl ⟨rfl, rfl, rfl, rfl, rfl, trivial⟩ ?_
          refine WO_end ?_
          cases hm5
          have hq := hd9 _ rfl
          subst hq
          have hm : some _ = some _ := hm
          cases hm
          exact WK_ret (ret_out (L := []) (RLc_tmp rfl RLc_nil) (List.nil_sublist _) rfl)
        · have hm5 := ifF hb16 hm5
          refine WK_skip ?_
          refine WK_blk ?_
          refine WK_region ?_
          refine WO_pure tbok 2 [(0, .slice a_p0 p0.length c_p0), (1, .slice a_p1 p1.length c_p1), (4, .bool false), (12, .int .i64 (p0.length : Int)), (13, .int .i64 (w64 (s_1 + 1)))] rfl ⟨rfl, rfl, rfl, rfl, rfl, trivial⟩ ?_
          refine WO_end ?_
          cases hm5
          refine WK.sub ?_ (WK.cls (fun _ h => h) (hn8 _ () rfl trivial))
          exact ⟨rfl, rfl, rfl, rfl, rfl, trivial⟩
      · have hm5 := ifF hb11 hm5
        refine WK_exit rfl ?_
        cases hm5
        refine WK.sub ?_ (WK.cls (fun _ h => h) (hk4 ((), ()) (hd9 _ rfl)))
        exact ⟨rfl, trivial⟩
theorem fiduciallaw48_known_walk {m : Mu}    {r : Bool} (hm : fiduciallaw48_known = some r) :
    Go.E.Spec Try.prog 11 [] m (fun v _ _ => v = .bool r) := by
  refine Spec_enter Try.func11 rfl rfl rfl (fun w0 => ?_)
  refine WK.sub (e' := []) trivial ?_
  refine WK.sub (e' := []) trivial ?_
  unfold fiduciallaw48_known at hm
  refine WK_seq ?_
  refine WK_region ?_
  refine WO_pure tbok 1 [(0, .bool false)] rfl ⟨rfl, trivial⟩ ?_
  refine WO_end ?_
  refine WK_seq ?_
  refine WK_region ?_
  refine WO_bslice (E := (I1 .i64)) tbok (fun _ => rfl) (by decide) [.int .i64 5, .int .i64 9, .int .i64 5, .int .i64 5, .int .i64 (-2147483648), .int .i64 1] ([5, 9, 5, 5, (-2147483648), 1] : List Int) rfl rfl trivial rfl rfl rfl rfl rfl rfl rfl rfl rfl rfl rfl rfl (fun b1 hb1 => ?_)
  refine WO.cls (C' := St w0 m m [[⟨b1, 3, ([5, 9, 5, 5, (-2147483648), 1] : List Int).flatMap (I1 .i64)⟩]]) (fun _ h => h) ?_
  refine WO_pure tbok 1 [(0, .bool false), (11, .agg #[.int .i64 0, .int .i64 0, .int .i64 10, .int .i64 3, .int .i64 2, .slice (some ⟨b1, 0, none⟩) 6 6])] rfl ⟨rfl, rfl, trivial⟩ ?_
  refine WO_alloc tbok [.int .i64 0, .int .i64 0, .int .i64 0, .int .i64 0, .int .i64 0, .slice none 0 0] rfl rfl trivial rfl rfl rfl rfl (fun b2 => ?_)
  refine WO.cls (C' := St w0 m m [[⟨b1, 3, ([5, 9, 5, 5, (-2147483648), 1] : List Int).flatMap (I1 .i64)⟩], [⟨b2, 25, [.int .i64 0, .int .i64 0, .int .i64 0, .int .i64 0, .int .i64 0, .slice none 0 0]⟩]]) (fun _ h => h) ?_
  refine WO_storeB tbok 1 [.int .i64 0, .int .i64 0, .int .i64 10, .int .i64 3, .int .i64 2, .slice (some ⟨b1, 0, none⟩) 6 6] rfl rfl rfl rfl rfl rfl rfl ?_
  refine WO.cls (C' := St w0 m m [[⟨b1, 3, ([5, 9, 5, 5, (-2147483648), 1] : List Int).flatMap (I1 .i64)⟩], [⟨b2, 25, [.int .i64 0, .int .i64 0, .int .i64 10, .int .i64 3, .int .i64 2, .slice (some ⟨b1, 0, none⟩) 6 6]⟩]]) (fun _ h => h) ?_
  refine WO_end ?_
  refine WK_seq ?_
  refine WK_region ?_
  refine WO_loadB tbok 1 rfl rfl rfl rfl (fun _ h => h) rfl rfl ?_
  refine WO_freeze 0 rfl (fun m3 hle4 hmm5 => ?_)
  refine WO.cls (C' := St w0 m m3 [[], [⟨b2, 25, [.int .i64 0, .int .i64 0, .int .i64 10, .int .i64 3, .int .i64 2, .slice (some ⟨b1, 0, none⟩) 6 6]⟩]]) (fun _ h => h) ?_
  obtain ⟨⟨y_1, y_2, y_3, y_4, y_5, y_6, y_7⟩, hc6, hm⟩ := bind_some hm
  refine WO_call2 (terrain_Open_Q (y_1, y_2, y_3, y_4, y_5, y_6, y_7)) rfl rfl trivial rfl rfl rfl rfl ⟨26, #[], #[], rfl, callable_26, terrain_Open_walk (OwnE.rd (E := (I1 .i64)) (k := 1) (fun _ => rfl) hb1 hmm5) hc6⟩ (fun v10 m11 L9 hle12 hq => ?_)
  obtain ⟨a7, qa7, c8, rfl, h13⟩ := hq
  obtain rfl := SlR.qlen h13
  refine WO.cls (C' := St w0 m m11 [[], [⟨b2, 25, [.int .i64 0, .int .i64 0, .int .i64 10, .int .i64 3, .int .i64 2, .slice (some ⟨b1, 0, none⟩) 6 6]⟩], L9]) (fun _ h => h.sub (by simp)) ?_
  refine WO_pure tbok 3 [(0, .bool false), (1, .pointer (some ⟨b2, 0, none⟩)), (15, .agg #[.int .i64 y_1, .int .i64 y_2, .int .i64 y_3, .int .i64 y_4, .int .i64 y_5, .slice a7 ((y_6).length) c8]), (16, .int .i64 y_7)] rfl ⟨rfl, rfl, rfl, rfl, trivial⟩ ?_
  refine WO_alloc tbok [.int .i64 0, .int .i64 0, .int .i64 0, .int .i64 0, .int .i64 0, .slice none 0 0] rfl rfl trivial rfl rfl rfl rfl (fun b14 => ?_)
  refine WO.cls (C' := St w0 m m11 [[], [⟨b2, 25, [.int .i64 0, .int .i64 0, .int .i64 10, .int .i64 3, .int .i64 2, .slice (some ⟨b1, 0, none⟩) 6 6]⟩], L9, [⟨b14, 25, [.int .i64 0, .int .i64 0, .int .i64 0, .int .i64 0, .int .i64 0, .slice none 0 0]⟩]]) (fun _ h => h) ?_
  refine WO_storeB tbok 3 [.int .i64 y_1, .int .i64 y_2, .int .i64 y_3, .int .i64 y_4, .int .i64 y_5, .slice a7 ((y_6).length) c8] rfl rfl rfl rfl rfl rfl rfl ?_
  refine WO.cls (C' := St w0 m m11 [[], [⟨b2, 25, [.int .i64 0, .int .i64 0, .int .i64 10, .int .i64 3, .int .i64 2, .slice (some ⟨b1, 0, none⟩) 6 6]⟩], L9, [⟨b14, 25, [.int .i64 y_1, .int .i64 y_2, .int .i64 y_3, .int .i64 y_4, .int .i64 y_5, .slice a7 ((y_6).length) c8]⟩]]) (fun _ h => h) ?_
  refine WO_pure tbok 1 [(0, .bool false), (1, .pointer (some ⟨b2, 0, none⟩)), (2, .pointer (some ⟨b14, 0, none⟩)), (3, .int .i64 y_7)] rfl ⟨rfl, rfl, rfl, rfl, trivial⟩ ?_
  refine WO_end ?_
  refine WK_seq ?_
  refine WK_region ?_
  refine WO_loadB tbok 1 rfl rfl rfl rfl (fun _ h => h) rfl rfl ?_
  refine WO_bslice (E := (I1 .i64)) tbok (fun _ => rfl) (by decide) [.int .i64 1] ([1] : List Int) rfl rfl trivial rfl rfl rfl rfl rfl rfl rfl rfl rfl rfl rfl rfl (fun b15 hb15 => ?_)
  refine WO.cls (C' := St w0 m m11 [[], [⟨b2, 25, [.int .i64 0, .int .i64 0, .int .i64 10, .int .i64 3, .int .i64 2, .slice (some ⟨b1, 0, none⟩) 6 6]⟩], L9, [⟨b14, 25, [.int .i64 y_1, .int .i64 y_2, .int .i64 y_3, .int .i64 y_4, .int .i64 y_5, .slice a7 ((y_6).length) c8]⟩], [⟨b15, 3, ([1] : List Int).flatMap (I1 .i64)⟩]]) (fun _ h => h) ?_
  refine WO_bslice (E := (I1 .i64)) tbok (fun _ => rfl) (by decide) [.int .i64 3] ([3] : List Int) rfl rfl trivial rfl rfl rfl rfl rfl rfl rfl rfl rfl rfl rfl rfl (fun b16 hb16 => ?_)
  refine WO.cls (C' := St w0 m m11 [[], [⟨b2, 25, [.int .i64 0, .int .i64 0, .int .i64 10, .int .i64 3, .int .i64 2, .slice (some ⟨b1, 0, none⟩) 6 6]⟩], L9, [⟨b14, 25, [.int .i64 y_1, .int .i64 y_2, .int .i64 y_3, .int .i64 y_4, .int .i64 y_5, .slice a7 ((y_6).length) c8]⟩], [⟨b15, 3, ([1] : List Int).flatMap (I1 .i64)⟩], [⟨b16, 3, ([3] : List Int).flatMap (I1 .i64)⟩]]) (fun _ h => h) ?_
  obtain ⟨⟨y_8, y_9⟩, hc17, hm⟩ := bind_some hm
  refine WO_call1 (terrain_Ground_Q (y_8, y_9)) rfl rfl trivial rfl rfl rfl rfl ⟨18, #[], #[], rfl, callable_18, fun w hw => ⟨_, hw.satV, terrain_Ground_walk (((OwnE.rd (E := (I1 .i64)) (k := 1) (fun _ => rfl) hb1 hmm5).mono (mono_FE _) hle12).mono (mono_FE _) hw.leV) (OwnE.rd (E := (I1 .i64)) (k := 1) (fun _ => rfl) hb15 (fun _ hx => hw.memV (i := 4) rfl hx)) (OwnE.rd (E := (I1 .i64)) (k := 1) (fun _ => rfl) hb16 (fun _ hx => hw.memV (i := 5) rfl hx)) hc17⟩⟩ (fun v21 L20 hq => ?_)
  obtain ⟨a18, qa18, c19, rfl, hL20⟩ := hq
  obtain rfl := OwnE.qlen hL20
  refine WO.cls (C' := St w0 m m11 [[], [⟨b2, 25, [.int .i64 0, .int .i64 0, .int .i64 10, .int .i64 3, .int .i64 2, .slice (some ⟨b1, 0, none⟩) 6 6]⟩], L9, [⟨b14, 25, [.int .i64 y_1, .int .i64 y_2, .int .i64 y_3, .int .i64 y_4, .int .i64 y_5, .slice a7 ((y_6).length) c8]⟩], [⟨b15, 3, ([1] : List Int).flatMap (I1 .i64)⟩], [⟨b16, 3, ([3] : List Int).flatMap (I1 .i64)⟩], L20]) (fun _ h => h) ?_
  refine WO_pure tbok 5 [(0, .bool false), (1, .pointer (some ⟨b2, 0, none⟩)), (2, .pointer (some ⟨b14, 0, none⟩)), (3, .int .i64 y_7), (4, .slice a18 ((y_8).length) c19), (5, .int .i64 y_9)] rfl ⟨rfl, rfl, rfl, rfl, rfl, rfl, trivial⟩ ?_
  refine WO_end ?_
  refine WK_seq ?_
  refine WK_region ?_
  refine WO_loadB tbok 1 rfl rfl rfl rfl (fun _ h => h) rfl rfl ?_
  obtain ⟨⟨y_10, y_11, y_12, y_13, y_14, y_15, y_16⟩, hc22, hm⟩ := bind_some hm
  refine WO_call2 (terrain_Fill_Q (y_10, y_11, y_12, y_13, y_14, y_15, y_16)) rfl rfl trivial rfl rfl rfl rfl ⟨35, #[], #[], rfl, callable_35, terrain_Fill_walk ((OwnE.rd (E := (I1 .i64)) (k := 1) (fun _ => rfl) hb1 hmm5).mono (mono_FE _) hle12) hc22⟩ (fun v26 m27 L25 hle28 hq => ?_)
  obtain ⟨a23, qa23, c24, rfl, h29⟩ := hq
  obtain rfl := SlR.qlen h29
  refine WO.cls (C' := St w0 m m27 [[], [⟨b2, 25, [.int .i64 0, .int .i64 0, .int .i64 10, .int .i64 3, .int .i64 2, .slice (some ⟨b1, 0, none⟩) 6 6]⟩], L9, [⟨b14, 25, [.int .i64 y_1, .int .i64 y_2, .int .i64 y_3, .int .i64 y_4, .int .i64 y_5, .slice a7 ((y_6).length) c8]⟩], [⟨b15, 3, ([1] : List Int).flatMap (I1 .i64)⟩], [⟨b16, 3, ([3] : List Int).flatMap (I1 .i64)⟩], L20, L25]) (fun _ h => h.sub (by simp)) ?_
  refine WO_pure tbok 3 [(0, .bool false), (2, .pointer (some ⟨b14, 0, none⟩)), (3, .int .i64 y_7), (4, .slice a18 ((y_8).length) c19), (5, .int .i64 y_9), (27, .agg #[.int .i64 y_10, .int .i64 y_11, .int .i64 y_12, .int .i64 y_13, .int .i64 y_14, .slice a23 ((y_15).length) c24]), (28, .int .i64 y_16)] rfl ⟨rfl, rfl, rfl, rfl, rfl, rfl, rfl, trivial⟩ ?_
  refine WO_alloc tbok [.int .i64 0, .int .i64 0, .int .i64 0, .int .i64 0, .int .i64 0, .slice none 0 0] rfl rfl trivial rfl rfl rfl rfl (fun b30 => ?_)
  refine WO.cls (C' := St w0 m m27 [[], [⟨b2, 25, [.int .i64 0, .int .i64 0, .int .i64 10, .int .i64 3, .int .i64 2, .slice (some ⟨b1, 0, none⟩) 6 6]⟩], L9, [⟨b14, 25, [.int .i64 y_1, .int .i64 y_2, .int .i64 y_3, .int .i64 y_4, .int .i64 y_5, .slice a7 ((y_6).length) c8]⟩], [⟨b15, 3, ([1] : List Int).flatMap (I1 .i64)⟩], [⟨b16, 3, ([3] : List Int).flatMap (I1 .i64)⟩], L20, L25, [⟨b30, 25, [.int .i64 0, .int .i64 0, .int .i64 0, .int .i64 0, .int .i64 0, .slice none 0 0]⟩]]) (fun _ h => h) ?_
  refine WO_storeB tbok 8 [.int .i64 y_10, .int .i64 y_11, .int .i64 y_12, .int .i64 y_13, .int .i64 y_14, .slice a23 ((y_15).length) c24] rfl rfl rfl rfl rfl rfl rfl ?_
  refine WO.cls (C' := St w0 m m27 [[], [⟨b2, 25, [.int .i64 0, .int .i64 0, .int .i64 10, .int .i64 3, .int .i64 2, .slice (some ⟨b1, 0, none⟩) 6 6]⟩], L9, [⟨b14, 25, [.int .i64 y_1, .int .i64 y_2, .int .i64 y_3, .int .i64 y_4, .int .i64 y_5, .slice a7 ((y_6).length) c8]⟩], [⟨b15, 3, ([1] : List Int).flatMap (I1 .i64)⟩], [⟨b16, 3, ([3] : List Int).flatMap (I1 .i64)⟩], L20, L25, [⟨b30, 25, [.int .i64 y_10, .int .i64 y_11, .int .i64 y_12, .int .i64 y_13, .int .i64 y_14, .slice a23 ((y_15).length) c24]⟩]]) (fun _ h => h) ?_
  refine WO_pure tbok 1 [(0, .bool false), (2, .pointer (some ⟨b14, 0, none⟩)), (3, .int .i64 y_7), (4, .slice a18 ((y_8).length) c19), (5, .int .i64 y_9), (6, .pointer (some ⟨b30, 0, none⟩)), (7, .int .i64 y_16)] rfl ⟨rfl, rfl, rfl, rfl, rfl, rfl, rfl, trivial⟩ ?_
  refine WO_end ?_
  refine WK_seq ?_
  refine WK_region ?_
  refine WO_pure tbok 3 [(0, .bool false), (2, .pointer (some ⟨b14, 0, none⟩)), (3, .int .i64 y_7), (4, .slice a18 ((y_8).length) c19), (5, .int .i64 y_9), (6, .pointer (some ⟨b30, 0, none⟩)), (7, .int .i64 y_16), (30, .agg #[.int .i64 0, .int .i64 0, .int .i64 7]), (31, .agg #[.int .i64 4, .int .i64 4, .int .i64 9]), (32, .agg #[.int .i64 5, .int .i64 (-5), .int .i64 3])] rfl ⟨rfl, rfl, rfl, rfl, rfl, rfl, rfl, rfl, rfl, rfl, trivial⟩ ?_
  refine WO_bslice (E := T3) tbok (fun _ => rfl) (by decide) [.agg #[.int .i64 0, .int .i64 0, .int .i64 7], .agg #[.int .i64 4, .int .i64 4, .int .i64 9], .agg #[.int .i64 5, .int .i64 (-5), .int .i64 3]] ([(0, 0, 7), (4, 4, 9), (5, (-5), 3)] : List (Int × Int × Int)) rfl rfl trivial rfl rfl rfl rfl rfl rfl rfl rfl rfl rfl rfl rfl (fun b31 hb31 => ?_)
  refine WO.cls (C' := St w0 m m27 [[], [⟨b2, 25, [.int .i64 0, .int .i64 0, .int .i64 10, .int .i64 3, .int .i64 2, .slice (some ⟨b1, 0, none⟩) 6 6]⟩], L9, [⟨b14, 25, [.int .i64 y_1, .int .i64 y_2, .int .i64 y_3, .int .i64 y_4, .int .i64 y_5, .slice a7 ((y_6).length) c8]⟩], [⟨b15, 3, ([1] : List Int).flatMap (I1 .i64)⟩], [⟨b16, 3, ([3] : List Int).flatMap (I1 .i64)⟩], L20, L25, [⟨b30, 25, [.int .i64 y_10, .int .i64 y_11, .int .i64 y_12, .int .i64 y_13, .int .i64 y_14, .slice a23 ((y_15).length) c24]⟩], [⟨b31, 60, ([(0, 0, 7), (4, 4, 9), (5, (-5), 3)] : List (Int × Int × Int)).flatMap T3⟩]]) (fun _ h => h) ?_
  obtain ⟨hc32, hm⟩ := chk_some hm
  refine WO_make (E := (I1 .i64)) tbok (fun _ => rfl) (by decide) (0 : Int) rfl rfl trivial rfl rfl rfl rfl rfl rfl rfl rfl rfl (mk_ok (by decide) hc32) (fun b33 c34 L35 hL35 => ?_)
  refine WO.cls (C' := St w0 m m27 [[], [⟨b2, 25, [.int .i64 0, .int .i64 0, .int .i64 10, .int .i64 3, .int .i64 2, .slice (some ⟨b1, 0, none⟩) 6 6]⟩], L9, [⟨b14, 25, [.int .i64 y_1, .int .i64 y_2, .int .i64 y_3, .int .i64 y_4, .int .i64 y_5, .slice a7 ((y_6).length) c8]⟩], [⟨b15, 3, ([1] : List Int).flatMap (I1 .i64)⟩], [⟨b16, 3, ([3] : List Int).flatMap (I1 .i64)⟩], L20, L25, [⟨b30, 25, [.int .i64 y_10, .int .i64 y_11, .int .i64 y_12, .int .i64 y_13, .int .i64 y_14, .slice a23 ((y_15).length) c24]⟩], [⟨b31, 60, ([(0, 0, 7), (4, 4, 9), (5, (-5), 3)] : List (Int × Int × Int)).flatMap T3⟩], L35]) (fun _ h => h) ?_
  refine WO_pure tbok 1 [(0, .bool false), (2, .pointer (some ⟨b14, 0, none⟩)), (3, .int .i64 y_7), (4, .slice a18 ((y_8).length) c19), (5, .int .i64 y_9), (6, .pointer (some ⟨b30, 0, none⟩)), (7, .int .i64 y_16), (33, .slice (some ⟨b31, 0, none⟩) 3 3), (35, .agg #[.int .i64 0, .int .i64 0, .int .i64 10, .int .i64 2, .int .i64 2, .slice (some ⟨b33, 0, none⟩) ((List.replicate 4 (0 : Int)).length) c34])] rfl ⟨rfl, rfl, rfl, rfl, rfl, rfl, rfl, rfl, rfl, trivial⟩ ?_
  refine WO_freeze 9 rfl (fun m36 hle37 hmm38 => ?_)
  refine WO.cls (C' := St w0 m m36 [[], [⟨b2, 25, [.int .i64 0, .int .i64 0, .int .i64 10, .int .i64 3, .int .i64 2, .slice (some ⟨b1, 0, none⟩) 6 6]⟩], L9, [⟨b14, 25, [.int .i64 y_1, .int .i64 y_2, .int .i64 y_3, .int .i64 y_4, .int .i64 y_5, .slice a7 ((y_6).length) c8]⟩], [⟨b15, 3, ([1] : List Int).flatMap (I1 .i64)⟩], [⟨b16, 3, ([3] : List Int).flatMap (I1 .i64)⟩], L20, L25, [⟨b30, 25, [.int .i64 y_10, .int .i64 y_11, .int .i64 y_12, .int .i64 y_13, .int .i64 y_14, .slice a23 ((y_15).length) c24]⟩], [], L35]) (fun _ h => h) ?_
  refine WO_freeze 10 rfl (fun m39 hle40 hmm41 => ?_)
  refine WO.cls (C' := St w0 m m39 [[], [⟨b2, 25, [.int .i64 0, .int .i64 0, .int .i64 10, .int .i64 3, .int .i64 2, .slice (some ⟨b1, 0, none⟩) 6 6]⟩], L9, [⟨b14, 25, [.int .i64 y_1, .int .i64 y_2, .int .i64 y_3, .int .i64 y_4, .int .i64 y_5, .slice a7 ((y_6).length) c8]⟩], [⟨b15, 3, ([1] : List Int).flatMap (I1 .i64)⟩], [⟨b16, 3, ([3] : List Int).flatMap (I1 .i64)⟩], L20, L25, [⟨b30, 25, [.int .i64 y_10, .int .i64 y_11, .int .i64 y_12, .int .i64 y_13, .int .i64 y_14, .slice a23 ((y_15).length) c24]⟩], [], []]) (fun _ h => h) ?_
  obtain ⟨⟨y_17, y_18, y_19, y_20, y_21, y_22, y_23⟩, hc42, hm⟩ := bind_some hm
  refine WO_call2 (terrain_Surface_Q (y_17, y_18, y_19, y_20, y_21, y_22, y_23)) rfl rfl trivial rfl rfl rfl rfl ⟨13, #[], #[], rfl, callable_13, terrain_Surface_walk ((OwnE.rd (E := T3) (k := 3) (fun _ => rfl) hb31 hmm38).mono (mono_FE _) hle40) (OwnE.rd (E := (I1 .i64)) (k := 1) (fun _ => rfl) hL35 hmm41) hc42⟩ (fun v46 m47 L45 hle48 hq => ?_)
  obtain ⟨a43, qa43, c44, rfl, h49⟩ := hq
  obtain rfl := SlR.qlen h49
  refine WO.cls (C' := St w0 m m47 [[], [⟨b2, 25, [.int .i64 0, .int .i64 0, .int .i64 10, .int .i64 3, .int .i64 2, .slice (some ⟨b1, 0, none⟩) 6 6]⟩], L9, [⟨b14, 25, [.int .i64 y_1, .int .i64 y_2, .int .i64 y_3, .int .i64 y_4, .int .i64 y_5, .slice a7 ((y_6).length) c8]⟩], [⟨b15, 3, ([1] : List Int).flatMap (I1 .i64)⟩], [⟨b16, 3, ([3] : List Int).flatMap (I1 .i64)⟩], L20, L25, [⟨b30, 25, [.int .i64 y_10, .int .i64 y_11, .int .i64 y_12, .int .i64 y_13, .int .i64 y_14, .slice a23 ((y_15).length) c24]⟩], [], [], L45]) (fun _ h => h.sub (by simp)) ?_
  refine WO_pure tbok 3 [(0, .bool false), (2, .pointer (some ⟨b14, 0, none⟩)), (3, .int .i64 y_7), (4, .slice a18 ((y_8).length) c19), (5, .int .i64 y_9), (6, .pointer (some ⟨b30, 0, none⟩)), (7, .int .i64 y_16), (37, .agg #[.int .i64 y_17, .int .i64 y_18, .int .i64 y_19, .int .i64 y_20, .int .i64 y_21, .slice a43 ((y_22).length) c44]), (38, .int .i64 y_23)] rfl ⟨rfl, rfl, rfl, rfl, rfl, rfl, rfl, rfl, rfl, trivial⟩ ?_
  refine WO_alloc tbok [.int .i64 0, .int .i64 0, .int .i64 0, .int .i64 0, .int .i64 0, .slice none 0 0] rfl rfl trivial rfl rfl rfl rfl (fun b50 => ?_)
  refine WO.cls (C' := St w0 m m47 [[], [⟨b2, 25, [.int .i64 0, .int .i64 0, .int .i64 10, .int .i64 3, .int .i64 2, .slice (some ⟨b1, 0, none⟩) 6 6]⟩], L9, [⟨b14, 25, [.int .i64 y_1, .int .i64 y_2, .int .i64 y_3, .int .i64 y_4, .int .i64 y_5, .slice a7 ((y_6).length) c8]⟩], [⟨b15, 3, ([1] : List Int).flatMap (I1 .i64)⟩], [⟨b16, 3, ([3] : List Int).flatMap (I1 .i64)⟩], L20, L25, [⟨b30, 25, [.int .i64 y_10, .int .i64 y_11, .int .i64 y_12, .int .i64 y_13, .int .i64 y_14, .slice a23 ((y_15).length) c24]⟩], [], [], L45, [⟨b50, 25, [.int .i64 0, .int .i64 0, .int .i64 0, .int .i64 0, .int .i64 0, .slice none 0 0]⟩]]) (fun _ h => h) ?_
  refine WO_storeB tbok 12 [.int .i64 y_17, .int .i64 y_18, .int .i64 y_19, .int .i64 y_20, .int .i64 y_21, .slice a43 ((y_22).length) c44] rfl rfl rfl rfl rfl rfl rfl ?_
  refine WO.cls (C' := St w0 m m47 [[], [⟨b2, 25, [.int .i64 0, .int .i64 0, .int .i64 10, .int .i64 3, .int .i64 2, .slice (some ⟨b1, 0, none⟩) 6 6]⟩], L9, [⟨b14, 25, [.int .i64 y_1, .int .i64 y_2, .int .i64 y_3, .int .i64 y_4, .int .i64 y_5, .slice a7 ((y_6).length) c8]⟩], [⟨b15, 3, ([1] : List Int).flatMap (I1 .i64)⟩], [⟨b16, 3, ([3] : List Int).flatMap (I1 .i64)⟩], L20, L25, [⟨b30, 25, [.int .i64 y_10, .int .i64 y_11, .int .i64 y_12, .int .i64 y_13, .int .i64 y_14, .slice a23 ((y_15).length) c24]⟩], [], [], L45, [⟨b50, 25, [.int .i64 y_17, .int .i64 y_18, .int .i64 y_19, .int .i64 y_20, .int .i64 y_21, .slice a43 ((y_22).length) c44]⟩]]) (fun _ h => h) ?_
  refine WO_pure tbok 1 [(0, .bool false), (2, .pointer (some ⟨b14, 0, none⟩)), (3, .int .i64 y_7), (4, .slice a18 ((y_8).length) c19), (5, .int .i64 y_9), (6, .pointer (some ⟨b30, 0, none⟩)), (7, .int .i64 y_16), (8, .pointer (some ⟨b50, 0, none⟩)), (9, .int .i64 y_23)] rfl ⟨rfl, rfl, rfl, rfl, rfl, rfl, rfl, rfl, rfl, trivial⟩ ?_
  refine WO_end ?_
  refine WK_seq ?_
  refine WK_region ?_
  refine WO_pure tbok 9 [(0, .bool false), (2, .pointer (some ⟨b14, 0, none⟩)), (4, .slice a18 ((y_8).length) c19), (6, .pointer (some ⟨b30, 0, none⟩)), (8, .pointer (some ⟨b50, 0, none⟩)), (47, .bool ((w64 ((w64 ((w64 (y_7 + y_9)) + y_16)) + y_23)) == 0))] rfl ⟨rfl, rfl, rfl, rfl, rfl, rfl, trivial⟩ ?_
  refine WO_split (d := 47) (b := (w64 ((w64 ((w64 (y_7 + y_9)) + y_16)) + y_23)) == 0) rfl (fun hb51 => ?_) (fun hb51 => ?_)
  · have hm := ifT hb51 hm
    refine WO_pure tbok 1 [(0, .bool false), (4, .slice a18 ((y_8).length) c19), (6, .pointer (some ⟨b30, 0, none⟩)), (8, .pointer (some ⟨b50, 0, none⟩)), (47, .bool true), (48, .pointer (some ⟨b14, 5, none⟩))] rfl ⟨rfl, rfl, rfl, rfl, rfl, rfl, trivial⟩ ?_
    refine WO_loadB tbok 3 rfl rfl rfl rfl (fun _ h => h) rfl rfl ?_
    refine WO_bslice (E := (I1 .i64)) tbok (fun _ => rfl) (by decide) [.int .i64 5, .int .i64 5, .int .i64 1, .int .i64 5, .int .i64 (-2147483648), .int .i64 1] ([5, 5, 1, 5, (-2147483648), 1] : List Int) rfl rfl trivial rfl rfl rfl rfl rfl rfl rfl rfl rfl rfl rfl rfl (fun b52 hb52 => ?_)
    refine WO.cls (C' := St w0 m m47 [[], [⟨b2, 25, [.int .i64 0, .int .i64 0, .int .i64 10, .int .i64 3, .int .i64 2, .slice (some ⟨b1, 0, none⟩) 6 6]⟩], L9, [⟨b14, 25, [.int .i64 y_1, .int .i64 y_2, .int .i64 y_3, .int .i64 y_4, .int .i64 y_5, .slice a7 ((y_6).length) c8]⟩], [⟨b15, 3, ([1] : List Int).flatMap (I1 .i64)⟩], [⟨b16, 3, ([3] : List Int).flatMap (I1 .i64)⟩], L20, L25, [⟨b30, 25, [.int .i64 y_10, .int .i64 y_11, .int .i64 y_12, .int .i64 y_13, .int .i64 y_14, .slice a23 ((y_15).length) c24]⟩], [], [], L45, [⟨b50, 25, [.int .i64 y_17, .int .i64 y_18, .int .i64 y_19, .int .i64 y_20, .int .i64 y_21, .slice a43 ((y_22).length) c44]⟩], [⟨b52, 3, ([5, 5, 1, 5, (-2147483648), 1] : List Int).flatMap (I1 .i64)⟩]]) (fun _ h => h) ?_
    obtain ⟨y_24, hc53, hm⟩ := bind_some hm
    refine WO_call0 (.bool y_24) rfl rfl trivial rfl rfl rfl rfl St_closed ⟨38, #[], #[], rfl, callable_38, fun w hw => ⟨_, hw.satV, slices_Equal_sint_walk (((((h13.mono (mono_FE _) hle28).mono (mono_FE _) hle37).mono (mono_FE _) hle40).mono (mono_FE _) hle48).mono (mono_FE _) hw.leV) (OwnE.rd (E := (I1 .i64)) (k := 1) (fun _ => rfl) hb52 (fun _ hx => hw.memV (i := 13) rfl hx)) hc53⟩⟩ ?_
    refine WO_pure tbok 2 [(0, .bool false), (4, .slice a18 ((y_8).length) c19), (6, .pointer (some ⟨b30, 0, none⟩)), (8, .pointer (some ⟨b50, 0, none⟩)), (53, .bool y_24)] rfl ⟨rfl, rfl, rfl, rfl, rfl, trivial⟩ ?_
    refine WO_split (d := 53) (b := y_24) rfl (fun hb54 => ?_) (fun hb54 => ?_)
    · have hm := ifT hb54 hm
      refine WO_pure tbok 1 [(0, .bool false), (6, .pointer (some ⟨b30, 0, none⟩)), (8, .pointer (some ⟨b50, 0, none⟩)), (53, .bool true), (54, .slice a18 ((y_8).length) c19)] rfl ⟨rfl, rfl, rfl, rfl, rfl, trivial⟩ ?_
      refine WO_bslice (E := B1) tbok (fun _ => rfl) (by decide) [.bool true, .bool false, .bool false, .bool true, .bool false, .bool true] ([true, false, false, true, false, true] : List Bool) rfl rfl trivial rfl rfl rfl rfl rfl rfl rfl rfl rfl rfl rfl rfl (fun b55 hb55 => ?_)
      refine WO.cls (C' := St w0 m m47 [[], [⟨b2, 25, [.int .i64 0, .int .i64 0, .int .i64 10, .int .i64 3, .int .i64 2, .slice (some ⟨b1, 0, none⟩) 6 6]⟩], L9, [⟨b14, 25, [.int .i64 y_1, .int .i64 y_2, .int .i64 y_3, .int .i64 y_4, .int .i64 y_5, .slice a7 ((y_6).length) c8]⟩], [⟨b15, 3, ([1] : List Int).flatMap (I1 .i64)⟩], [⟨b16, 3, ([3] : List Int).flatMap (I1 .i64)⟩], L20, L25, [⟨b30, 25, [.int .i64 y_10, .int .i64 y_11, .int .i64 y_12, .int .i64 y_13, .int .i64 y_14, .slice a23 ((y_15).length) c24]⟩], [], [], L45, [⟨b50, 25, [.int .i64 y_17, .int .i64 y_18, .int .i64 y_19, .int .i64 y_20, .int .i64 y_21, .slice a43 ((y_22).length) c44]⟩], [⟨b52, 3, ([5, 5, 1, 5, (-2147483648), 1] : List Int).flatMap (I1 .i64)⟩], [⟨b55, 4, ([true, false, false, true, false, true] : List Bool).flatMap B1⟩]]) (fun _ h => h) ?_
      obtain ⟨y_25, hc56, hm⟩ := bind_some hm
      refine WO_call0 (.bool y_25) rfl rfl trivial rfl rfl rfl rfl St_closed ⟨20, #[], #[], rfl, callable_20, fun w hw => ⟨_, hw.satV, slices_Equal_sbool_walk (OwnE.rd (E := B1) (k := 1) (fun _ => rfl) hL20 (fun _ hx => hw.memV (i := 6) rfl hx)) (OwnE.rd (E := B1) (k := 1) (fun _ => rfl) hb55 (fun _ hx => hw.memV (i := 14) rfl hx)) hc56⟩⟩ ?_
      refine WO_pure tbok 2 [(0, .bool false), (6, .pointer (some ⟨b30, 0, none⟩)), (8, .pointer (some ⟨b50, 0, none⟩)), (58, .bool y_25)] rfl ⟨rfl, rfl, rfl, rfl, trivial⟩ ?_
      refine WO_split (d := 58) (b := y_25) rfl (fun hb57 => ?_) (fun hb57 => ?_)
      · have hm := ifT hb57 hm
        refine WO_pure tbok 1 [(0, .bool false), (8, .pointer (some ⟨b50, 0, none⟩)), (58, .bool true), (59, .pointer (some ⟨b30, 5, none⟩))] rfl ⟨rfl, rfl, rfl, rfl, trivial⟩ ?_
        refine WO_loadB tbok 8 rfl rfl rfl rfl (fun _ h => h) rfl rfl ?_
        refine WO_bslice (E := (I1 .i64)) tbok (fun _ => rfl) (by decide) [.int .i64 5, .int .i64 9, .int .i64 5, .int .i64 5, .int .i64 1, .int .i64 1] ([5, 9, 5, 5, 1, 1] : List Int) rfl rfl trivial rfl rfl rfl rfl rfl rfl rfl rfl rfl rfl rfl rfl (fun b58 hb58 => ?_)
        refine WO.cls (C' := St w0 m m47 [[], [⟨b2, 25, [.int .i64 0, .int .i64 0, .int .i64 10, .int .i64 3, .int .i64 2, .slice (some ⟨b1, 0, none⟩) 6 6]⟩], L9, [⟨b14, 25, [.int .i64 y_1, .int .i64 y_2, .int .i64 y_3, .int .i64 y_4, .int .i64 y_5, .slice a7 ((y_6).length) c8]⟩], [⟨b15, 3, ([1] : List Int).flatMap (I1 .i64)⟩], [⟨b16, 3, ([3] : List Int).flatMap (I1 .i64)⟩], L20, L25, [⟨b30, 25, [.int .i64 y_10, .int .i64 y_11, .int .i64 y_12, .int .i64 y_13, .int .i64 y_14, .slice a23 ((y_15).length) c24]⟩], [], [], L45, [⟨b50, 25, [.int .i64 y_17, .int .i64 y_18, .int .i64 y_19, .int .i64 y_20, .int .i64 y_21, .slice a43 ((y_22).length) c44]⟩], [⟨b52, 3, ([5, 5, 1, 5, (-2147483648), 1] : List Int).flatMap (I1 .i64)⟩], [⟨b55, 4, ([true, false, false, true, false, true] : List Bool).flatMap B1⟩], [⟨b58, 3, ([5, 9, 5, 5, 1, 1] : List Int).flatMap (I1 .i64)⟩]]) (fun _ h => h) ?_
        obtain ⟨y_26, hc59, hm⟩ := bind_some hm
        refine WO_call0 (.bool y_26) rfl rfl trivial rfl rfl rfl rfl St_closed ⟨38, #[], #[], rfl, callable_38, fun w hw => ⟨_, hw.satV, slices_Equal_sint_walk ((((h29.mono (mono_FE _) hle37).mono (mono_FE _) hle40).mono (mono_FE _) hle48).mono (mono_FE _) hw.leV) (OwnE.rd (E := (I1 .i64)) (k := 1) (fun _ => rfl) hb58 (fun _ hx => hw.memV (i := 15) rfl hx)) hc59⟩⟩ ?_
        refine WO_pure tbok 2 [(0, .bool false), (8, .pointer (some ⟨b50, 0, none⟩)), (64, .bool y_26)] rfl ⟨rfl, rfl, rfl, trivial⟩ ?_
        refine WO_split (d := 64) (b := y_26) rfl (fun hb60 => ?_) (fun hb60 => ?_)
        · have hm := ifT hb60 hm
          refine WO_pure tbok 1 [(0, .bool false), (64, .bool true), (65, .pointer (some ⟨b50, 5, none⟩))] rfl ⟨rfl, rfl, rfl, trivial⟩ ?_
          refine WO_loadB tbok 12 rfl rfl rfl rfl (fun _ h => h) rfl rfl ?_
          refine WO_bslice (E := (I1 .i64)) tbok (fun _ => rfl) (by decide) [.int .i64 9, .int .i64 3, .int .i64 (-2147483648), .int .i64 (-2147483648)] ([9, 3, (-2147483648), (-2147483648)] : List Int) rfl rfl trivial rfl rfl rfl rfl rfl rfl rfl rfl rfl rfl rfl rfl (fun b61 hb61 => ?_)
          refine WO.cls (C' := St w0 m m47 [[], [⟨b2, 25, [.int .i64 0, .int .i64 0, .int .i64 10, .int .i64 3, .int .i64 2, .slice (some ⟨b1, 0, none⟩) 6 6]⟩], L9, [⟨b14, 25, [.int .i64 y_1, .int .i64 y_2, .int .i64 y_3, .int .i64 y_4, .int .i64 y_5, .slice a7 ((y_6).length) c8]⟩], [⟨b15, 3, ([1] : List Int).flatMap (I1 .i64)⟩], [⟨b16, 3, ([3] : List Int).flatMap (I1 .i64)⟩], L20, L25, [⟨b30, 25, [.int .i64 y_10, .int .i64 y_11, .int .i64 y_12, .int .i64 y_13, .int .i64 y_14, .slice a23 ((y_15).length) c24]⟩], [], [], L45, [⟨b50, 25, [.int .i64 y_17, .int .i64 y_18, .int .i64 y_19, .int .i64 y_20, .int .i64 y_21, .slice a43 ((y_22).length) c44]⟩], [⟨b52, 3, ([5, 5, 1, 5, (-2147483648), 1] : List Int).flatMap (I1 .i64)⟩], [⟨b55, 4, ([true, false, false, true, false, true] : List Bool).flatMap B1⟩], [⟨b58, 3, ([5, 9, 5, 5, 1, 1] : List Int).flatMap (I1 .i64)⟩], [⟨b61, 3, ([9, 3, (-2147483648), (-2147483648)] : List Int).flatMap (I1 .i64)⟩]]) (fun _ h => h) ?_
          obtain ⟨y_27, hc62, hm⟩ := bind_some hm
          refine WO_call0 (.bool y_27) rfl rfl trivial rfl rfl rfl rfl St_closed ⟨38, #[], #[], rfl, callable_38, fun w hw => ⟨_, hw.satV, slices_Equal_sint_walk (h49.mono (mono_FE _) hw.leV) (OwnE.rd (E := (I1 .i64)) (k := 1) (fun _ => rfl) hb61 (fun _ hx => hw.memV (i := 16) rfl hx)) hc62⟩⟩ ?_
          refine WO_pure tbok 2 [(0, .bool false), (70, .bool y_27)] rfl ⟨rfl, rfl, trivial⟩ ?_
          refine WO_split (d := 70) (b := y_27) rfl (fun hb63 => ?_) (fun hb63 => ?_)
          · have hm := ifT hb63 hm
            refine WO_pure tbok 1 [(0, .bool false), (70, .bool true), (71, .agg #[.int .i64 0, .int .i64 0, .int .i64 0, .int .i64 0, .int .i64 0, .slice none 0 0])] rfl ⟨rfl, rfl, rfl, trivial⟩ ?_
            obtain ⟨y_28, hc64, hm⟩ := bind_some hm
            refine WO_call0 (.int .i64 y_28) rfl rfl trivial rfl rfl rfl rfl St_closed ⟨16, #[], #[], rfl, callable_16, fun w hw => ⟨_, hw.sat, terrain_Check_walk SlR_nil hc64⟩⟩ ?_
            refine WO_pure tbok 3 [(0, .bool (y_28 == 2))] rfl ⟨rfl, trivial⟩ ?_
            refine WO_end ?_
            cases hm
            exact WK_ret (ret_out (L := []) (RLc_tmp rfl RLc_nil) (List.nil_sublist _) rfl)
          · have hm := ifF hb63 hm
            refine WO_pure tbok 1 [(0, .bool false), (70, .bool false)] rfl ⟨rfl, rfl, trivial⟩ ?_
            refine WO_skip rfl rfl ?_
            refine WO_pure tbok 3 [(0, .bool false)] rfl ⟨rfl, trivial⟩ ?_
            refine WO_end ?_
            cases hm
            exact WK_ret (ret_out (L := []) (RLc_tmp rfl RLc_nil) (List.nil_sublist _) rfl)
        · have hm := ifF hb60 hm
          refine WO_pure tbok 2 [(0, .bool false), (64, .bool false)] rfl ⟨rfl, rfl, trivial⟩ ?_
          refine WO_skip rfl rfl ?_
          refine WO_skip rfl rfl ?_
          refine WO_pure tbok 3 [(0, .bool false), (70, .bool false)] rfl ⟨rfl, rfl, trivial⟩ ?_
          refine WO_skip rfl rfl ?_
          refine WO_pure tbok 3 [(0, .bool false)] rfl ⟨rfl, trivial⟩ ?_
          refine WO_end ?_
          cases hm
          exact WK_ret (ret_out (L := []) (RLc_tmp rfl RLc_nil) (List.nil_sublist _) rfl)
      · have hm := ifF hb57 hm
        refine WO_pure tbok 2 [(0, .bool false), (8, .pointer (some ⟨b50, 0, none⟩)), (58, .bool false)] rfl ⟨rfl, rfl, rfl, trivial⟩ ?_
        refine WO_skip rfl rfl ?_
        refine WO_skip rfl rfl ?_
        refine WO_pure tbok 4 [(0, .bool false), (64, .bool false)] rfl ⟨rfl, rfl, trivial⟩ ?_
        refine WO_skip rfl rfl ?_
        refine WO_skip rfl rfl ?_
        refine WO_pure tbok 3 [(0, .bool false), (70, .bool false)] rfl ⟨rfl, rfl, trivial⟩ ?_
        refine WO_skip rfl rfl ?_
        refine WO_pure tbok 3 [(0, .bool false)] rfl ⟨rfl, trivial⟩ ?_
        refine WO_end ?_
        cases hm
        exact WK_ret (ret_out (L := []) (RLc_tmp rfl RLc_nil) (List.nil_sublist _) rfl)
    · have hm := ifF hb54 hm
      refine WO_pure tbok 1 [(0, .bool false), (6, .pointer (some ⟨b30, 0, none⟩)), (8, .pointer (some ⟨b50, 0, none⟩)), (53, .bool false)] rfl ⟨rfl, rfl, rfl, rfl, trivial⟩ ?_
      refine WO_skip rfl rfl ?_
      refine WO_skip rfl rfl ?_
      refine WO_pure tbok 4 [(0, .bool false), (8, .pointer (some ⟨b50, 0, none⟩)), (58, .bool false)] rfl ⟨rfl, rfl, rfl, trivial⟩ ?_
      refine WO_skip rfl rfl ?_
      refine WO_skip rfl rfl ?_
      refine WO_pure tbok 4 [(0, .bool false), (64, .bool false)] rfl ⟨rfl, rfl, trivial⟩ ?_
      refine WO_skip rfl rfl ?_
      refine WO_skip rfl rfl ?_
      refine WO_pure tbok 3 [(0, .bool false), (70, .bool false)] rfl ⟨rfl, rfl, trivial⟩ ?_
      refine WO_skip rfl rfl ?_
      refine WO_pure tbok 3 [(0, .bool false)] rfl ⟨rfl, trivial⟩ ?_
      refine WO_end ?_
      cases hm
      exact WK_ret (ret_out (L := []) (RLc_tmp rfl RLc_nil) (List.nil_sublist _) rfl)
  · have hm := ifF hb51 hm
    refine WO_pure tbok 2 [(0, .bool false), (4, .slice a18 ((y_8).length) c19), (6, .pointer (some ⟨b30, 0, none⟩)), (8, .pointer (some ⟨b50, 0, none⟩)), (47, .bool false)] rfl ⟨rfl, rfl, rfl, rfl, rfl, trivial⟩ ?_
    refine WO_skip rfl rfl ?_
    refine WO_skip rfl rfl ?_
    refine WO_pure tbok 3 [(0, .bool false), (6, .pointer (some ⟨b30, 0, none⟩)), (8, .pointer (some ⟨b50, 0, none⟩)), (53, .bool false)] rfl ⟨rfl, rfl, rfl, rfl, trivial⟩ ?_
    refine WO_skip rfl rfl ?_
    refine WO_skip rfl rfl ?_
    refine WO_pure tbok 4 [(0, .bool false), (8, .pointer (some ⟨b50, 0, none⟩)), (58, .bool false)] rfl ⟨rfl, rfl, rfl, trivial⟩ ?_
    refine WO_skip rfl rfl ?_
    refine WO_skip rfl rfl ?_
    refine WO_pure tbok 4 [(0, .bool false), (64, .bool false)] rfl ⟨rfl, rfl, trivial⟩ ?_
    refine WO_skip rfl rfl ?_
    refine WO_skip rfl rfl ?_
    refine WO_pure tbok 3 [(0, .bool false), (70, .bool false)] rfl ⟨rfl, rfl, trivial⟩ ?_
    refine WO_skip rfl rfl ?_
    refine WO_pure tbok 3 [(0, .bool false)] rfl ⟨rfl, trivial⟩ ?_
    refine WO_end ?_
    cases hm
    exact WK_ret (ret_out (L := []) (RLc_tmp rfl RLc_nil) (List.nil_sublist _) rfl)
theorem fiduciallaw48_few_walk {m : Mu} {p0_0 : Int} {p0_1 : Int} {p0_2 : Int} {p0_3 : Int} {p0_4 : Int} {p0_5 : List Int} {a_p0_5 : Option Addr} {q_p0_5 c_p0_5 : Nat} (h_p0_5 : SlR (FE (I1 .i64)) 1 m (.slice a_p0_5 q_p0_5 c_p0_5) p0_5) {r : Bool} (hm : fiduciallaw48_few p0_0 p0_1 p0_2 p0_3 p0_4 p0_5 = some r) :
    Go.E.Spec Try.prog 12 [.agg #[.int .i64 p0_0, .int .i64 p0_1, .int .i64 p0_2, .int .i64 p0_3, .int .i64 p0_4, .slice a_p0_5 q_p0_5 c_p0_5]] m (fun v _ _ => v = .bool r) := by
  refine Spec_enter Try.func12 rfl rfl rfl (fun w0 => ?_)
  refine WK.sub (e' := [(0, .agg #[.int .i64 p0_0, .int .i64 p0_1, .int .i64 p0_2, .int .i64 p0_3, .int .i64 p0_4, .slice a_p0_5 q_p0_5 c_p0_5])]) ⟨rfl, trivial⟩ ?_
  obtain rfl := SlR.qlen h_p0_5
  refine WK.sub (e' := [(0, .agg #[.int .i64 p0_0, .int .i64 p0_1, .int .i64 p0_2, .int .i64 p0_3, .int .i64 p0_4, .slice a_p0_5 p0_5.length c_p0_5])]) ⟨rfl, trivial⟩ ?_
  unfold fiduciallaw48_few at hm
  refine WK_seq ?_
  refine WK_region ?_
  refine WO_box [.int .i64 p0_0, .int .i64 p0_1, .int .i64 p0_2, .int .i64 p0_3, .int .i64 p0_4, .slice a_p0_5 p0_5.length c_p0_5] rfl rfl trivial rfl rfl rfl (fun b1 => ?_)
  refine WO.cls (C' := St w0 m m [[⟨b1, 25, [.int .i64 p0_0, .int .i64 p0_1, .int .i64 p0_2, .int .i64 p0_3, .int .i64 p0_4, .slice a_p0_5 p0_5.length c_p0_5]⟩]]) (fun _ h => h) ?_
  refine WO_pure tbok 1 [(1, .pointer (some ⟨b1, 0, none⟩)), (2, .bool false)] rfl ⟨rfl, rfl, trivial⟩ ?_
  refine WO_end ?_
  refine WK_seq ?_
  refine WK_region ?_
  refine WO_pure tbok 1 [(2, .bool false), (3, .pointer (some ⟨b1, 5, none⟩))] rfl ⟨rfl, rfl, trivial⟩ ?_
  refine WO_loadB tbok 0 rfl rfl rfl rfl (fun _ h => h) rfl rfl ?_
  refine WO_pure tbok 3 [(2, .bool (decide ((p0_5.length : Int) ≤ 150)))] rfl ⟨rfl, trivial⟩ ?_
  refine WO_end ?_
  cases hm
  exact WK_ret (ret_out (L := []) (RLc_tmp rfl RLc_nil) (List.nil_sublist _) rfl)
theorem fiduciallaw48_far_walk {m : Mu} {p0 : Int} {p1 : Int}   {r : Bool} (hm : fiduciallaw48_far p0 p1 = some r) :
    Go.E.Spec Try.prog 45 [.int .i64 p0, .int .i64 p1] m (fun v _ _ => v = .bool r) := by
  refine Spec_enter Try.func45 rfl rfl rfl (fun w0 => ?_)
  refine WK.sub (e' := [(0, .int .i64 p0), (1, .int .i64 p1)]) ⟨rfl, rfl, trivial⟩ ?_
  refine WK.sub (e' := [(0, .int .i64 p0), (1, .int .i64 p1)]) ⟨rfl, rfl, trivial⟩ ?_
  unfold fiduciallaw48_far at hm
  refine WK_seq ?_
  refine WK_region ?_
  refine WO_pure tbok 1 [(0, .int .i64 p0), (1, .int .i64 p1), (4, .bool false)] rfl ⟨rfl, rfl, rfl, trivial⟩ ?_
  refine WO_end ?_
  refine WK_seq ?_
  refine WK_region ?_
  refine WO_pure tbok 4 [(0, .int .i64 p0), (1, .int .i64 p1), (4, .bool false), (8, .bool (decide (p1 < p0)))] rfl ⟨rfl, rfl, rfl, rfl, trivial⟩ ?_
  refine WO_split (d := 8) (b := decide (p1 < p0)) rfl (fun hb1 => ?_) (fun hb1 => ?_)
  · have hm := ifT hb1 hm
    refine WO_pure tbok 6 [(4, .bool true)] rfl ⟨rfl, trivial⟩ ?_
    refine WO_end ?_
    cases hm
    exact WK_ret (ret_out (L := []) (RLc_tmp rfl RLc_nil) (List.nil_sublist _) rfl)
  · have hm := ifF hb1 hm
    refine WO_pure tbok 6 [(4, .bool (decide (p0 < (w64 (0 - p1)))))] rfl ⟨rfl, trivial⟩ ?_
    refine WO_end ?_
    cases hm
    exact WK_ret (ret_out (L := []) (RLc_tmp rfl RLc_nil) (List.nil_sublist _) rfl)
theorem fiduciallaw48_checked_walk {m : Mu} {p0_0 : Int} {p0_1 : Int} {p0_2 : Int} {p0_3 : Int} {p0_4 : Int} {p0_5 : List Int} {a_p0_5 : Option Addr} {q_p0_5 c_p0_5 : Nat} (h_p0_5 : SlR (FE (I1 .i64)) 1 m (.slice a_p0_5 q_p0_5 c_p0_5) p0_5) {r : Int} (hm : fiduciallaw48_checked p0_0 p0_1 p0_2 p0_3 p0_4 p0_5 = some r) :
    Go.E.Spec Try.prog 17 [.agg #[.int .i64 p0_0, .int .i64 p0_1, .int .i64 p0_2, .int .i64 p0_3, .int .i64 p0_4, .slice a_p0_5 q_p0_5 c_p0_5]] m (fun v _ _ => v = .int .i64 r) := by
  refine Spec_enter Try.func17 rfl rfl rfl (fun w0 => ?_)
  refine WK.sub (e' := [(0, .agg #[.int .i64 p0_0, .int .i64 p0_1, .int .i64 p0_2, .int .i64 p0_3, .int .i64 p0_4, .slice a_p0_5 q_p0_5 c_p0_5])]) ⟨rfl, trivial⟩ ?_
  obtain rfl := SlR.qlen h_p0_5
  refine WK.sub (e' := [(0, .agg #[.int .i64 p0_0, .int .i64 p0_1, .int .i64 p0_2, .int .i64 p0_3, .int .i64 p0_4, .slice a_p0_5 p0_5.length c_p0_5])]) ⟨rfl, trivial⟩ ?_
  unfold fiduciallaw48_checked at hm
  refine WK_seq ?_
  refine WK_region ?_
  refine WO_box [.int .i64 p0_0, .int .i64 p0_1, .int .i64 p0_2, .int .i64 p0_3, .int .i64 p0_4, .slice a_p0_5 p0_5.length c_p0_5] rfl rfl trivial rfl rfl rfl (fun b1 => ?_)
  refine WO.cls (C' := St w0 m m [[⟨b1, 25, [.int .i64 p0_0, .int .i64 p0_1, .int .i64 p0_2, .int .i64 p0_3, .int .i64 p0_4, .slice a_p0_5 p0_5.length c_p0_5]⟩]]) (fun _ h => h) ?_
  refine WO_pure tbok 1 [(1, .pointer (some ⟨b1, 0, none⟩)), (2, .int .i64 0)] rfl ⟨rfl, rfl, trivial⟩ ?_
  refine WO_end ?_
  refine WK_seq ?_
  refine WK_seq ?_
  obtain ⟨s_1, hx2, hm⟩ := bind_some hm
  refine WK_meet [(1, .pointer (some ⟨b1, 0, none⟩)), (2, .int .i64 0), (48, .bool s_1)] (St w0 m m [[⟨b1, 25, [.int .i64 p0_0, .int .i64 p0_1, .int .i64 p0_2, .int .i64 p0_3, .int .i64 p0_4, .slice a_p0_5 p0_5.length c_p0_5]⟩]]) ?_ (fun hk3 => ?_)
  · refine WK_cond (b := s_1) rfl (fun hb4 => ?_) (fun hb4 => ?_)
    · have hm := ifT hb4 hm
      refine WK_seq ?_
      refine WK_region ?_
      refine WO_pure tbok 1 [(1, .pointer (some ⟨b1, 0, none⟩)), (2, .int .i64 2)] rfl ⟨rfl, rfl, trivial⟩ ?_
      refine WO_end ?_
      cases hm
      exact WK_ret (ret_out (L := []) (RLc_tmp rfl RLc_nil) (List.nil_sublist _) rfl)
    · have hm := ifF hb4 hm
      refine WK_skip ?_
      refine WK_seq ?_
      refine WK_seq ?_
      refine WK_region ?_
      refine WO_pure tbok 1 [(1, .pointer (some ⟨b1, 0, none⟩)), (2, .int .i64 0), (49, .pointer (some ⟨b1, 5, none⟩))] rfl ⟨rfl, rfl, rfl, trivial⟩ ?_
      refine WO_loadB tbok 0 rfl rfl rfl rfl (fun _ h => h) rfl rfl ?_
      refine WO_pure tbok 2 [(1, .pointer (some ⟨b1, 0, none⟩)), (2, .int .i64 0), (51, .int .i64 (p0_5.length : Int)), (52, .pointer (some ⟨b1, 3, none⟩))] rfl ⟨rfl, rfl, rfl, rfl, trivial⟩ ?_
      refine WO_loadB tbok 0 rfl rfl rfl rfl (fun _ h => h) rfl rfl ?_
      refine WO_pure tbok 1 [(1, .pointer (some ⟨b1, 0, none⟩)), (2, .int .i64 0), (51, .int .i64 (p0_5.length : Int)), (53, .int .i64 p0_3), (54, .pointer (some ⟨b1, 4, none⟩))] rfl ⟨rfl, rfl, rfl, rfl, rfl, trivial⟩ ?_
      refine WO_loadB tbok 0 rfl rfl rfl rfl (fun _ h => h) rfl rfl ?_
      refine WO_pure tbok 2 [(1, .pointer (some ⟨b1, 0, none⟩)), (2, .int .i64 0), (57, .bool ((p0_5.length : Int) != (w64 (p0_3 * p0_4))))] rfl ⟨rfl, rfl, rfl, trivial⟩ ?_
      refine WO_end ?_
      refine WK_cond (b := (p0_5.length : Int) != (w64 (p0_3 * p0_4))) rfl (fun hb5 => ?_) (fun hb5 => ?_)
      · have hm := ifT hb5 hm
        refine WK_seq ?_
        refine WK_region ?_
        refine WO_pure tbok 1 [(1, .pointer (some ⟨b1, 0, none⟩)), (2, .int .i64 4)] rfl ⟨rfl, rfl, trivial⟩ ?_
        refine WO_end ?_
        cases hm
        exact WK_ret (ret_out (L := []) (RLc_tmp rfl RLc_nil) (List.nil_sublist _) rfl)
      · have hm := ifF hb5 hm
        refine WK_skip ?_
        refine WK_seq ?_
        refine WK_seq ?_
        refine WK_region ?_
        refine WO_pure tbok 1 [(2, .int .i64 0), (58, .pointer (some ⟨b1, 5, none⟩))] rfl ⟨rfl, rfl, trivial⟩ ?_
        refine WO_loadB tbok 0 rfl rfl rfl rfl (fun _ h => h) rfl rfl ?_
        refine WO_pure tbok 2 [(2, .int .i64 0), (59, .slice a_p0_5 p0_5.length c_p0_5), (60, .int .i64 (p0_5.length : Int)), (61, .int .i64 0)] rfl ⟨rfl, rfl, rfl, rfl, trivial⟩ ?_
        refine WO_end ?_
        obtain ⟨x6, hx7, hm⟩ := bind_some hm
        refine WK_join (β := Unit × Unit) (fun p => Sum.inr p.1 = x6) (fun p => [(2, .int .i64 0)]) (fun p => St w0 m m [[⟨b1, 25, [.int .i64 p0_0, .int .i64 p0_1, .int .i64 p0_2, .int .i64 p0_3, .int .i64 p0_4, .slice a_p0_5 p0_5.length c_p0_5]⟩]]) ?_ (fun hk8 => ?_)
        · rintro ⟨⟨⟩, ⟨⟩⟩ hq14
          subst hq14
          refine WK.sub (e' := [(2, .int .i64 0)]) ⟨rfl, trivial⟩ (WK.cls (C' := St w0 m m [[⟨b1, 25, [.int .i64 p0_0, .int .i64 p0_1, .int .i64 p0_2, .int .i64 p0_3, .int .i64 p0_4, .slice a_p0_5 p0_5.length c_p0_5]⟩]]) (fun _ h => h) ?_)
          refine WK_seq ?_
          refine WK_region ?_
          refine WO_pure tbok 1 [(2, .int .i64 0)] rfl ⟨rfl, trivial⟩ ?_
          refine WO_end ?_
          cases hm
          exact WK_ret (ret_out (L := []) (RLc_tmp rfl RLc_nil) (List.nil_sublist _) rfl)
        · refine WK_block ?_
          refine WK_loop (S := Int) (G := Unit) (fun s => fiduciallaw48_checked_s1 p0_5 s) (fun s g => [(2, .int .i64 0), (59, .slice a_p0_5 p0_5.length c_p0_5), (60, .int .i64 (p0_5.length : Int)), (61, .int .i64 s)]) (fun s g => St w0 m m [[⟨b1, 25, [.int .i64 p0_0, .int .i64 p0_1, .int .i64 p0_2, .int .i64 p0_3, .int .i64 p0_4, .slice a_p0_5 p0_5.length c_p0_5]⟩]]) (fun s g => True) FUEL 0 () x6 hx7 trivial ⟨rfl, rfl, rfl, rfl, trivial⟩ (fun _ h => h) ?_
          rintro s_2 ⟨⟩ o10 fl11 hm9 - hn12 hd13
          have hm9 : fiduciallaw48_checked_s1 p0_5 s_2 = some o10 := hm9
          unfold fiduciallaw48_checked_s1 at hm9
          refine WK.sub (e' := [(2, .int .i64 0), (59, .slice a_p0_5 p0_5.length c_p0_5), (60, .int .i64 (p0_5.length : Int)), (61, .int .i64 s_2)]) ⟨rfl, rfl, rfl, rfl, trivial⟩ (WK.cls (C' := St w0 m m [[⟨b1, 25, [.int .i64 p0_0, .int .i64 p0_1, .int .i64 p0_2, .int .i64 p0_3, .int .i64 p0_4, .slice a_p0_5 p0_5.length c_p0_5]⟩]]) (fun _ h => h) ?_)
          refine WK_seq ?_
          refine WK_region ?_
          refine WO_pure tbok 1 [(2, .int .i64 0), (59, .slice a_p0_5 p0_5.length c_p0_5), (60, .int .i64 (p0_5.length : Int)), (61, .int .i64 s_2), (62, .bool (decide (s_2 < (p0_5.length : Int))))] rfl ⟨rfl, rfl, rfl, rfl, rfl, trivial⟩ ?_
          refine WO_end ?_
          refine WK_seq ?_
          refine WK_cond (b := decide (s_2 < (p0_5.length : Int))) rfl (fun hb15 => ?_) (fun hb15 => ?_)
          · have hm9 := ifT hb15 hm9
            refine WK_skip ?_
            refine WK_seq ?_
            refine WK_block ?_
            refine WK_seq ?_
            refine WK_region ?_
            obtain ⟨v_3, hy16, hm9⟩ := bind_some hm9
            obtain ⟨hc17, hy16⟩ := ix_some hy16
            refine WO_index tbok rfl rfl rfl rfl rfl rfl rfl rfl (SlR.addr h_p0_5) hc17 ?_
            refine WO_loadE tbok rfl rfl rfl rfl (fun _ h => St.sat h) h_p0_5 hy16 rfl ?_
            refine WO_pure tbok 1 [(2, .int .i64 0), (4, .int .i64 v_3), (59, .slice a_p0_5 p0_5.length c_p0_5), (60, .int .i64 (p0_5.length : Int)), (61, .int .i64 s_2)] rfl ⟨rfl, rfl, rfl, rfl, rfl, trivial⟩ ?_
            refine WO_end ?_
            refine WK_seq ?_
            obtain ⟨s_4, hx18, hm9⟩ := bind_some hm9
            refine WK_meet [(2, .int .i64 0), (59, .slice a_p0_5 p0_5.length c_p0_5), (60, .int .i64 (p0_5.length : Int)), (61, .int .i64 s_2), (70, .bool s_4)] (St w0 m m [[⟨b1, 25, [.int .i64 p0_0, .int .i64 p0_1, .int .i64 p0_2, .int .i64 p0_3, .int .i64 p0_4, .slice a_p0_5 p0_5.length c_p0_5]⟩]]) ?_ (fun hk19 => ?_)
            · refine WK_cond (b := s_4) rfl (fun hb20 => ?_) (fun hb20 => ?_)
              · have hm9 := ifT hb20 hm9
                refine WK_seq ?_
                refine WK_region ?_
                refine WO_pure tbok 1 [(2, .int .i64 2), (59, .slice a_p0_5 p0_5.length c_p0_5), (60, .int .i64 (p0_5.length : Int)), (61, .int .i64 s_2)] rfl ⟨rfl, rfl, rfl, rfl, trivial⟩ ?_
                refine WO_end ?_
                cases hm9
                have hq := hd13 _ rfl
                subst hq
                have hm : some _ = some _ := hm
                cases hm
                exact WK_ret (ret_out (L := []) (RLc_tmp rfl RLc_nil) (List.nil_sublist _) rfl)
              · have hm9 := ifF hb20 hm9
                refine WK_skip ?_
                refine WK_blk ?_
                refine WK_region ?_
                refine WO_pure tbok 2 [(2, .int .i64 0), (59, .slice a_p0_5 p0_5.length c_p0_5), (60, .int .i64 (p0_5.length : Int)), (61, .int .i64 (w64 (s_2 + 1)))] rfl ⟨rfl, rfl, rfl, rfl, trivial⟩ ?_
                refine WO_end ?_
                cases hm9
                refine WK.sub ?_ (WK.cls (fun _ h => h) (hn12 _ () rfl trivial))
                exact ⟨rfl, rfl, rfl, rfl, trivial⟩
            · refine WK_region ?_
              refine WO_pure tbok 3 [(2, .int .i64 0), (4, .int .i64 v_3), (59, .slice a_p0_5 p0_5.length c_p0_5), (60, .int .i64 (p0_5.length : Int)), (61, .int .i64 s_2), (67, .bool (v_3 != (-2147483648)))] rfl ⟨rfl, rfl, rfl, rfl, rfl, rfl, trivial⟩ ?_
              refine WO_split (d := 67) (b := v_3 != (-2147483648)) rfl (fun hb21 => ?_) (fun hb21 => ?_)
              · have hx18 := ifT hb21 hx18
                refine WO_pure tbok 1 [(2, .int .i64 0), (59, .slice a_p0_5 p0_5.length c_p0_5), (60, .int .i64 (p0_5.length : Int)), (61, .int .i64 s_2), (67, .bool true), (68, .int .i64 v_3)] rfl ⟨rfl, rfl, rfl, rfl, rfl, rfl, trivial⟩ ?_
                obtain ⟨y_5, hc22, hx18⟩ := bind_some hx18
                refine WO_call0 (.bool y_5) rfl rfl trivial rfl rfl rfl rfl St_closed ⟨45, #[], #[], rfl, callable_45, fun w hw => ⟨_, hw.sat, fiduciallaw48_far_walk hc22⟩⟩ ?_
                refine WO_pure tbok 1 [(2, .int .i64 0), (59, .slice a_p0_5 p0_5.length c_p0_5), (60, .int .i64 (p0_5.length : Int)), (61, .int .i64 s_2), (70, .bool y_5)] rfl ⟨rfl, rfl, rfl, rfl, rfl, trivial⟩ ?_
                refine WO_end ?_
                cases hx18
                refine WK.sub ?_ (WK.cls (fun _ h => h) hk19)
                exact ⟨rfl, rfl, rfl, rfl, rfl, trivial⟩
              · have hx18 := ifF hb21 hx18
                refine WO_pure tbok 1 [(2, .int .i64 0), (59, .slice a_p0_5 p0_5.length c_p0_5), (60, .int .i64 (p0_5.length : Int)), (61, .int .i64 s_2), (67, .bool false)] rfl ⟨rfl, rfl, rfl, rfl, rfl, trivial⟩ ?_
                refine WO_skip rfl rfl ?_
                refine WO_pure tbok 1 [(2, .int .i64 0), (59, .slice a_p0_5 p0_5.length c_p0_5), (60, .int .i64 (p0_5.length : Int)), (61, .int .i64 s_2), (70, .bool false)] rfl ⟨rfl, rfl, rfl, rfl, rfl, trivial⟩ ?_
                refine WO_end ?_
                cases hx18
                refine WK.sub ?_ (WK.cls (fun _ h => h) hk19)
                exact ⟨rfl, rfl, rfl, rfl, rfl, trivial⟩
          · have hm9 := ifF hb15 hm9
            refine WK_exit rfl ?_
            cases hm9
            refine WK.sub ?_ (WK.cls (fun _ h => h) (hk8 ((), ()) (hd13 _ rfl)))
            exact ⟨rfl, trivial⟩
  · refine WK_region ?_
    refine WO_pure tbok 1 [(1, .pointer (some ⟨b1, 0, none⟩)), (2, .int .i64 0), (5, .pointer (some ⟨b1, 3, none⟩))] rfl ⟨rfl, rfl, rfl, trivial⟩ ?_
    refine WO_loadB tbok 0 rfl rfl rfl rfl (fun _ h => h) rfl rfl ?_
    refine WO_pure tbok 2 [(1, .pointer (some ⟨b1, 0, none⟩)), (2, .int .i64 0), (8, .bool (decide (p0_3 < 2)))] rfl ⟨rfl, rfl, rfl, trivial⟩ ?_
    refine WO_split (d := 8) (b := decide (p0_3 < 2)) rfl (fun hb23 => ?_) (fun hb23 => ?_)
    · have hx2 := ifT hb23 hx2
      refine WO_pure tbok 33 [(1, .pointer (some ⟨b1, 0, none⟩)), (2, .int .i64 0), (39, .bool true)] rfl ⟨rfl, rfl, rfl, trivial⟩ ?_
      refine WO_skip rfl rfl ?_
      refine WO_pure tbok 4 [(1, .pointer (some ⟨b1, 0, none⟩)), (2, .int .i64 0), (44, .bool true)] rfl ⟨rfl, rfl, rfl, trivial⟩ ?_
      refine WO_skip rfl rfl ?_
      refine WO_pure tbok 1 [(1, .pointer (some ⟨b1, 0, none⟩)), (2, .int .i64 0), (48, .bool true)] rfl ⟨rfl, rfl, rfl, trivial⟩ ?_
      refine WO_end ?_
      cases hx2
      refine WK.sub ?_ (WK.cls (fun _ h => h) hk3)
      exact ⟨rfl, rfl, rfl, trivial⟩
    · have hx2 := ifF hb23 hx2
      refine WO_pure tbok 1 [(1, .pointer (some ⟨b1, 0, none⟩)), (2, .int .i64 0), (8, .bool false), (9, .pointer (some ⟨b1, 3, none⟩))] rfl ⟨rfl, rfl, rfl, rfl, trivial⟩ ?_
      refine WO_loadB tbok 0 rfl rfl rfl rfl (fun _ h => h) rfl rfl ?_
      refine WO_pure tbok 3 [(1, .pointer (some ⟨b1, 0, none⟩)), (2, .int .i64 0), (13, .bool (decide (64 < p0_3)))] rfl ⟨rfl, rfl, rfl, trivial⟩ ?_
      refine WO_split (d := 13) (b := decide (64 < p0_3)) rfl (fun hb24 => ?_) (fun hb24 => ?_)
      · have hx2 := ifT hb24 hx2
        refine WO_pure tbok 28 [(1, .pointer (some ⟨b1, 0, none⟩)), (2, .int .i64 0), (39, .bool true)] rfl ⟨rfl, rfl, rfl, trivial⟩ ?_
        refine WO_skip rfl rfl ?_
        refine WO_pure tbok 4 [(1, .pointer (some ⟨b1, 0, none⟩)), (2, .int .i64 0), (44, .bool true)] rfl ⟨rfl, rfl, rfl, trivial⟩ ?_
        refine WO_skip rfl rfl ?_
        refine WO_pure tbok 1 [(1, .pointer (some ⟨b1, 0, none⟩)), (2, .int .i64 0), (48, .bool true)] rfl ⟨rfl, rfl, rfl, trivial⟩ ?_
        refine WO_end ?_
        cases hx2
        refine WK.sub ?_ (WK.cls (fun _ h => h) hk3)
        exact ⟨rfl, rfl, rfl, trivial⟩
      · have hx2 := ifF hb24 hx2
        refine WO_pure tbok 1 [(1, .pointer (some ⟨b1, 0, none⟩)), (2, .int .i64 0), (13, .bool false), (14, .pointer (some ⟨b1, 4, none⟩))] rfl ⟨rfl, rfl, rfl, rfl, trivial⟩ ?_
        refine WO_loadB tbok 0 rfl rfl rfl rfl (fun _ h => h) rfl rfl ?_
        refine WO_pure tbok 3 [(1, .pointer (some ⟨b1, 0, none⟩)), (2, .int .i64 0), (18, .bool (decide (p0_4 < 2)))] rfl ⟨rfl, rfl, rfl, trivial⟩ ?_
        refine WO_split (d := 18) (b := decide (p0_4 < 2)) rfl (fun hb25 => ?_) (fun hb25 => ?_)
        · have hx2 := ifT hb25 hx2
          refine WO_pure tbok 23 [(1, .pointer (some ⟨b1, 0, none⟩)), (2, .int .i64 0), (39, .bool true)] rfl ⟨rfl, rfl, rfl, trivial⟩ ?_
          refine WO_skip rfl rfl ?_
          refine WO_pure tbok 4 [(1, .pointer (some ⟨b1, 0, none⟩)), (2, .int .i64 0), (44, .bool true)] rfl ⟨rfl, rfl, rfl, trivial⟩ ?_
          refine WO_skip rfl rfl ?_
          refine WO_pure tbok 1 [(1, .pointer (some ⟨b1, 0, none⟩)), (2, .int .i64 0), (48, .bool true)] rfl ⟨rfl, rfl, rfl, trivial⟩ ?_
          refine WO_end ?_
          cases hx2
          refine WK.sub ?_ (WK.cls (fun _ h => h) hk3)
          exact ⟨rfl, rfl, rfl, trivial⟩
        · have hx2 := ifF hb25 hx2
          refine WO_pure tbok 1 [(1, .pointer (some ⟨b1, 0, none⟩)), (2, .int .i64 0), (18, .bool false), (19, .pointer (some ⟨b1, 4, none⟩))] rfl ⟨rfl, rfl, rfl, rfl, trivial⟩ ?_
          refine WO_loadB tbok 0 rfl rfl rfl rfl (fun _ h => h) rfl rfl ?_
          refine WO_pure tbok 3 [(1, .pointer (some ⟨b1, 0, none⟩)), (2, .int .i64 0), (23, .bool (decide (64 < p0_4)))] rfl ⟨rfl, rfl, rfl, trivial⟩ ?_
          refine WO_split (d := 23) (b := decide (64 < p0_4)) rfl (fun hb26 => ?_) (fun hb26 => ?_)
          · have hx2 := ifT hb26 hx2
            refine WO_pure tbok 18 [(1, .pointer (some ⟨b1, 0, none⟩)), (2, .int .i64 0), (39, .bool true)] rfl ⟨rfl, rfl, rfl, trivial⟩ ?_
            refine WO_skip rfl rfl ?_
            refine WO_pure tbok 4 [(1, .pointer (some ⟨b1, 0, none⟩)), (2, .int .i64 0), (44, .bool true)] rfl ⟨rfl, rfl, rfl, trivial⟩ ?_
            refine WO_skip rfl rfl ?_
            refine WO_pure tbok 1 [(1, .pointer (some ⟨b1, 0, none⟩)), (2, .int .i64 0), (48, .bool true)] rfl ⟨rfl, rfl, rfl, trivial⟩ ?_
            refine WO_end ?_
            cases hx2
            refine WK.sub ?_ (WK.cls (fun _ h => h) hk3)
            exact ⟨rfl, rfl, rfl, trivial⟩
          · have hx2 := ifF hb26 hx2
            refine WO_pure tbok 1 [(1, .pointer (some ⟨b1, 0, none⟩)), (2, .int .i64 0), (23, .bool false), (24, .pointer (some ⟨b1, 2, none⟩))] rfl ⟨rfl, rfl, rfl, rfl, trivial⟩ ?_
            refine WO_loadB tbok 0 rfl rfl rfl rfl (fun _ h => h) rfl rfl ?_
            refine WO_pure tbok 3 [(1, .pointer (some ⟨b1, 0, none⟩)), (2, .int .i64 0), (28, .bool (decide (p0_2 < 2)))] rfl ⟨rfl, rfl, rfl, trivial⟩ ?_
            refine WO_split (d := 28) (b := decide (p0_2 < 2)) rfl (fun hb27 => ?_) (fun hb27 => ?_)
            · have hx2 := ifT hb27 hx2
              refine WO_pure tbok 13 [(1, .pointer (some ⟨b1, 0, none⟩)), (2, .int .i64 0), (39, .bool true)] rfl ⟨rfl, rfl, rfl, trivial⟩ ?_
              refine WO_skip rfl rfl ?_
              refine WO_pure tbok 4 [(1, .pointer (some ⟨b1, 0, none⟩)), (2, .int .i64 0), (44, .bool true)] rfl ⟨rfl, rfl, rfl, trivial⟩ ?_
              refine WO_skip rfl rfl ?_
              refine WO_pure tbok 1 [(1, .pointer (some ⟨b1, 0, none⟩)), (2, .int .i64 0), (48, .bool true)] rfl ⟨rfl, rfl, rfl, trivial⟩ ?_
              refine WO_end ?_
              cases hx2
              refine WK.sub ?_ (WK.cls (fun _ h => h) hk3)
              exact ⟨rfl, rfl, rfl, trivial⟩
            · have hx2 := ifF hb27 hx2
              refine WO_pure tbok 1 [(1, .pointer (some ⟨b1, 0, none⟩)), (2, .int .i64 0), (28, .bool false), (29, .pointer (some ⟨b1, 2, none⟩))] rfl ⟨rfl, rfl, rfl, rfl, trivial⟩ ?_
              refine WO_loadB tbok 0 rfl rfl rfl rfl (fun _ h => h) rfl rfl ?_
              refine WO_pure tbok 3 [(1, .pointer (some ⟨b1, 0, none⟩)), (2, .int .i64 0), (33, .bool (decide (65536 < p0_2)))] rfl ⟨rfl, rfl, rfl, trivial⟩ ?_
              refine WO_split (d := 33) (b := decide (65536 < p0_2)) rfl (fun hb28 => ?_) (fun hb28 => ?_)
              · have hx2 := ifT hb28 hx2
                refine WO_pure tbok 8 [(1, .pointer (some ⟨b1, 0, none⟩)), (2, .int .i64 0), (39, .bool true)] rfl ⟨rfl, rfl, rfl, trivial⟩ ?_
                refine WO_skip rfl rfl ?_
                refine WO_pure tbok 4 [(1, .pointer (some ⟨b1, 0, none⟩)), (2, .int .i64 0), (44, .bool true)] rfl ⟨rfl, rfl, rfl, trivial⟩ ?_
                refine WO_skip rfl rfl ?_
                refine WO_pure tbok 1 [(1, .pointer (some ⟨b1, 0, none⟩)), (2, .int .i64 0), (48, .bool true)] rfl ⟨rfl, rfl, rfl, trivial⟩ ?_
                refine WO_end ?_
                cases hx2
                refine WK.sub ?_ (WK.cls (fun _ h => h) hk3)
                exact ⟨rfl, rfl, rfl, trivial⟩
              · have hx2 := ifF hb28 hx2
                refine WO_pure tbok 1 [(1, .pointer (some ⟨b1, 0, none⟩)), (2, .int .i64 0), (33, .bool false), (34, .pointer (some ⟨b1, 2, none⟩))] rfl ⟨rfl, rfl, rfl, rfl, trivial⟩ ?_
                refine WO_loadB tbok 0 rfl rfl rfl rfl (fun _ h => h) rfl rfl ?_
                refine WO_pure tbok 4 [(1, .pointer (some ⟨b1, 0, none⟩)), (2, .int .i64 0), (39, .bool ((Int.tmod p0_2 2) != 0))] rfl ⟨rfl, rfl, rfl, trivial⟩ ?_
                refine WO_split (d := 39) (b := (Int.tmod p0_2 2) != 0) rfl (fun hb29 => ?_) (fun hb29 => ?_)
                · have hx2 := ifT hb29 hx2
                  refine WO_pure tbok 2 [(1, .pointer (some ⟨b1, 0, none⟩)), (2, .int .i64 0), (39, .bool true)] rfl ⟨rfl, rfl, rfl, trivial⟩ ?_
                  refine WO_skip rfl rfl ?_
                  refine WO_pure tbok 4 [(1, .pointer (some ⟨b1, 0, none⟩)), (2, .int .i64 0), (44, .bool true)] rfl ⟨rfl, rfl, rfl, trivial⟩ ?_
                  refine WO_skip rfl rfl ?_
                  refine WO_pure tbok 1 [(1, .pointer (some ⟨b1, 0, none⟩)), (2, .int .i64 0), (48, .bool true)] rfl ⟨rfl, rfl, rfl, trivial⟩ ?_
                  refine WO_end ?_
                  cases hx2
                  refine WK.sub ?_ (WK.cls (fun _ h => h) hk3)
                  exact ⟨rfl, rfl, rfl, trivial⟩
                · have hx2 := ifF hb29 hx2
                  refine WO_pure tbok 1 [(1, .pointer (some ⟨b1, 0, none⟩)), (2, .int .i64 0), (39, .bool false), (40, .pointer (some ⟨b1, 0, none⟩))] rfl ⟨rfl, rfl, rfl, rfl, trivial⟩ ?_
                  refine WO_loadB tbok 0 rfl rfl rfl rfl (fun _ h => h) rfl rfl ?_
                  obtain ⟨y_6, hc30, hx2⟩ := bind_some hx2
                  refine WO_call0 (.bool y_6) rfl rfl trivial rfl rfl rfl rfl St_closed ⟨45, #[], #[], rfl, callable_45, fun w hw => ⟨_, hw.sat, fiduciallaw48_far_walk hc30⟩⟩ ?_
                  refine WO_pure tbok 2 [(1, .pointer (some ⟨b1, 0, none⟩)), (2, .int .i64 0), (44, .bool y_6)] rfl ⟨rfl, rfl, rfl, trivial⟩ ?_
                  refine WO_split (d := 44) (b := y_6) rfl (fun hb31 => ?_) (fun hb31 => ?_)
                  · have hx2 := ifT hb31 hx2
                    refine WO_pure tbok 2 [(1, .pointer (some ⟨b1, 0, none⟩)), (2, .int .i64 0), (44, .bool true)] rfl ⟨rfl, rfl, rfl, trivial⟩ ?_
                    refine WO_skip rfl rfl ?_
                    refine WO_pure tbok 1 [(1, .pointer (some ⟨b1, 0, none⟩)), (2, .int .i64 0), (48, .bool true)] rfl ⟨rfl, rfl, rfl, trivial⟩ ?_
                    refine WO_end ?_
                    cases hx2
                    refine WK.sub ?_ (WK.cls (fun _ h => h) hk3)
                    exact ⟨rfl, rfl, rfl, trivial⟩
                  · have hx2 := ifF hb31 hx2
                    refine WO_pure tbok 1 [(1, .pointer (some ⟨b1, 0, none⟩)), (2, .int .i64 0), (44, .bool false), (45, .pointer (some ⟨b1, 1, none⟩))] rfl ⟨rfl, rfl, rfl, rfl, trivial⟩ ?_
                    refine WO_loadB tbok 0 rfl rfl rfl rfl (fun _ h => h) rfl rfl ?_
                    obtain ⟨y_7, hc32, hx2⟩ := bind_some hx2
                    refine WO_call0 (.bool y_7) rfl rfl trivial rfl rfl rfl rfl St_closed ⟨45, #[], #[], rfl, callable_45, fun w hw => ⟨_, hw.sat, fiduciallaw48_far_walk hc32⟩⟩ ?_
                    refine WO_pure tbok 1 [(1, .pointer (some ⟨b1, 0, none⟩)), (2, .int .i64 0), (48, .bool y_7)] rfl ⟨rfl, rfl, rfl, trivial⟩ ?_
                    refine WO_end ?_
                    cases hx2
                    refine WK.sub ?_ (WK.cls (fun _ h => h) hk3)
                    exact ⟨rfl, rfl, rfl, trivial⟩
theorem fiduciallaw48_surface_c1_walk {m : Mu} {p0 : Int} {p1 : Int} {p2 : Int} {q0_0 : Int} {q0_1 : Int} {q0_2 : Int} {q0_3 : Int} {q0_4 : Int} {q0_5 : List Int} {a_q0_5 : Option Addr} {q_q0_5 c_q0_5 : Nat} {b_q0 : Nat} (hb_q0 : m b_q0 = some (Ent.obj ⟨b_q0, 25, [.int .i64 q0_0, .int .i64 q0_1, .int .i64 q0_2, .int .i64 q0_3, .int .i64 q0_4, .slice a_q0_5 q_q0_5 c_q0_5]⟩)) (h_q0_5 : SlR (FE (I1 .i64)) 1 m (.slice a_q0_5 q_q0_5 c_q0_5) q0_5) {r : Bool} (hm : fiduciallaw48_surface_c1 p0 p1 p2 q0_0 q0_1 q0_2 q0_3 q0_4 q0_5 = some r) :
    Go.E.Spec Try.prog 46 [.int .i64 p0, .int .i64 p1, .int .i64 p2, .pointer (some ⟨b_q0, 0, none⟩)] m (fun v _ _ => v = .bool r) := by
  refine Spec_enter Try.func46 rfl rfl rfl (fun w0 => ?_)
  refine WK.sub (e' := [(0, .int .i64 p0), (1, .int .i64 p1), (2, .int .i64 p2), (3, .pointer (some ⟨b_q0, 0, none⟩))]) ⟨rfl, rfl, rfl, rfl, trivial⟩ ?_
  obtain rfl := SlR.qlen h_q0_5
  refine WK.sub (e' := [(0, .int .i64 p0), (1, .int .i64 p1), (2, .int .i64 p2), (3, .pointer (some ⟨b_q0, 0, none⟩))]) ⟨rfl, rfl, rfl, rfl, trivial⟩ ?_
  unfold fiduciallaw48_surface_c1 at hm
  refine WK_seq ?_
  refine WK_region ?_
  refine WO_pure tbok 1 [(0, .int .i64 p0), (1, .int .i64 p1), (2, .int .i64 p2), (3, .pointer (some ⟨b_q0, 0, none⟩)), (7, .bool false)] rfl ⟨rfl, rfl, rfl, rfl, rfl, trivial⟩ ?_
  refine WO_end ?_
  refine WK_seq ?_
  refine WK_region ?_
  refine WO_pure tbok 5 [(3, .pointer (some ⟨b_q0, 0, none⟩)), (7, .bool false), (11, .int .i64 (w64 (p0 - p1))), (12, .int .i64 p2), (13, .pointer (some ⟨b_q0, 2, none⟩))] rfl ⟨rfl, rfl, rfl, rfl, rfl, trivial⟩ ?_
  refine WO_loadM tbok rfl rfl rfl rfl (fun _ h => St.sat h) hb_q0 rfl ?_
  refine WO_pure tbok 3 [(3, .pointer (some ⟨b_q0, 0, none⟩)), (7, .bool false), (8, .int .i64 (w64 ((w64 (p0 - p1)) - (w64 (p2 * q0_2)))))] rfl ⟨rfl, rfl, rfl, trivial⟩ ?_
  refine WO_end ?_
  refine WK_seq ?_
  refine WK_region ?_
  refine WO_pure tbok 2 [(3, .pointer (some ⟨b_q0, 0, none⟩)), (7, .bool false), (8, .int .i64 (w64 ((w64 (p0 - p1)) - (w64 (p2 * q0_2))))), (17, .int .i64 (w64 ((w64 (p0 - p1)) - (w64 (p2 * q0_2))))), (18, .pointer (some ⟨b_q0, 2, none⟩))] rfl ⟨rfl, rfl, rfl, rfl, rfl, trivial⟩ ?_
  refine WO_loadM tbok rfl rfl rfl rfl (fun _ h => St.sat h) hb_q0 rfl ?_
  refine WO_pure tbok 4 [(3, .pointer (some ⟨b_q0, 0, none⟩)), (7, .bool false), (8, .int .i64 (w64 ((w64 (p0 - p1)) - (w64 (p2 * q0_2))))), (23, .bool (decide ((w64 (Int.tdiv (w64 (0 - q0_2)) 2)) ≤ (w64 ((w64 (p0 - p1)) - (w64 (p2 * q0_2)))))))] rfl ⟨rfl, rfl, rfl, rfl, trivial⟩ ?_
  refine WO_split (d := 23) (b := decide ((w64 (Int.tdiv (w64 (0 - q0_2)) 2)) ≤ (w64 ((w64 (p0 - p1)) - (w64 (p2 * q0_2)))))) rfl (fun hb1 => ?_) (fun hb1 => ?_)
  · have hm := ifT hb1 hm
    refine WO_pure tbok 2 [(7, .bool false), (23, .bool true), (24, .int .i64 (w64 ((w64 (p0 - p1)) - (w64 (p2 * q0_2))))), (25, .pointer (some ⟨b_q0, 2, none⟩))] rfl ⟨rfl, rfl, rfl, rfl, trivial⟩ ?_
    refine WO_loadM tbok rfl rfl rfl rfl (fun _ h => St.sat h) hb_q0 rfl ?_
    refine WO_pure tbok 4 [(7, .bool (decide ((w64 ((w64 (p0 - p1)) - (w64 (p2 * q0_2)))) < (w64 (Int.tdiv q0_2 2)))))] rfl ⟨rfl, trivial⟩ ?_
    refine WO_end ?_
    cases hm
    exact WK_ret (ret_out (L := []) (RLc_tmp rfl RLc_nil) (List.nil_sublist _) rfl)
  · have hm := ifF hb1 hm
    refine WO_pure tbok 7 [(7, .bool false)] rfl ⟨rfl, trivial⟩ ?_
    refine WO_end ?_
    cases hm
    exact WK_ret (ret_out (L := []) (RLc_tmp rfl RLc_nil) (List.nil_sublist _) rfl)
def fiduciallaw48_with_Q (r : Int × Int × Int × Int × Int × List Int) : Value → Mu → List Ent → Prop := fun v m L => ∃ (a0 : Option Addr) (q0 c0 : Nat), v = .agg #[.int .i64 r.1, .int .i64 r.2.1, .int .i64 r.2.2.1, .int .i64 r.2.2.2.1, .int .i64 r.2.2.2.2.1, .slice a0 q0 c0] ∧ SlR (FE (I1 .i64)) 1 m (.slice a0 q0 c0) r.2.2.2.2.2
theorem fiduciallaw48_with_walk {m : Mu} {p0_0 : Int} {p0_1 : Int} {p0_2 : Int} {p0_3 : Int} {p0_4 : Int} {p0_5 : List Int} {p1 : List Int} {a_p0_5 : Option Addr} {q_p0_5 c_p0_5 : Nat} {a_p1 : Option Addr} {q_p1 c_p1 : Nat} (h_p0_5 : SlR (FE (I1 .i64)) 1 m (.slice a_p0_5 q_p0_5 c_p0_5) p0_5) (h_p1 : SlR (FE (I1 .i64)) 1 m (.slice a_p1 q_p1 c_p1) p1) {r : Int × Int × Int × Int × Int × List Int} (hm : fiduciallaw48_with p0_0 p0_1 p0_2 p0_3 p0_4 p0_5 p1 = some r) :
    Go.E.Spec Try.prog 22 [.agg #[.int .i64 p0_0, .int .i64 p0_1, .int .i64 p0_2, .int .i64 p0_3, .int .i64 p0_4, .slice a_p0_5 q_p0_5 c_p0_5], .slice a_p1 q_p1 c_p1] m (fiduciallaw48_with_Q r) := by
  refine Spec_enter Try.func22 rfl rfl rfl (fun w0 => ?_)
  refine WK.sub (e' := [(0, .agg #[.int .i64 p0_0, .int .i64 p0_1, .int .i64 p0_2, .int .i64 p0_3, .int .i64 p0_4, .slice a_p0_5 q_p0_5 c_p0_5]), (1, .slice a_p1 q_p1 c_p1)]) ⟨rfl, rfl, trivial⟩ ?_
  obtain rfl := SlR.qlen h_p0_5
  obtain rfl := SlR.qlen h_p1
  refine WK.sub (e' := [(0, .agg #[.int .i64 p0_0, .int .i64 p0_1, .int .i64 p0_2, .int .i64 p0_3, .int .i64 p0_4, .slice a_p0_5 p0_5.length c_p0_5]), (1, .slice a_p1 p1.length c_p1)]) ⟨rfl, rfl, trivial⟩ ?_
  unfold fiduciallaw48_with at hm
  refine WK_seq ?_
  refine WK_region ?_
  refine WO_box [.int .i64 p0_0, .int .i64 p0_1, .int .i64 p0_2, .int .i64 p0_3, .int .i64 p0_4, .slice a_p0_5 p0_5.length c_p0_5] rfl rfl trivial rfl rfl rfl (fun b1 => ?_)
  refine WO.cls (C' := St w0 m m [[⟨b1, 25, [.int .i64 p0_0, .int .i64 p0_1, .int .i64 p0_2, .int .i64 p0_3, .int .i64 p0_4, .slice a_p0_5 p0_5.length c_p0_5]⟩]]) (fun _ h => h) ?_
  refine WO_alloc tbok [.int .i64 0, .int .i64 0, .int .i64 0, .int .i64 0, .int .i64 0, .slice none 0 0] rfl rfl trivial rfl rfl rfl rfl (fun b2 => ?_)
  refine WO.cls (C' := St w0 m m [[⟨b1, 25, [.int .i64 p0_0, .int .i64 p0_1, .int .i64 p0_2, .int .i64 p0_3, .int .i64 p0_4, .slice a_p0_5 p0_5.length c_p0_5]⟩], [⟨b2, 25, [.int .i64 0, .int .i64 0, .int .i64 0, .int .i64 0, .int .i64 0, .slice none 0 0]⟩]]) (fun _ h => h) ?_
  refine WO_end ?_
  refine WK_seq ?_
  refine WK_region ?_
  refine WO_pure tbok 1 [(1, .slice a_p1 p1.length c_p1), (2, .pointer (some ⟨b1, 0, none⟩)), (4, .pointer (some ⟨b2, 0, none⟩)), (5, .pointer (some ⟨b1, 0, none⟩))] rfl ⟨rfl, rfl, rfl, rfl, trivial⟩ ?_
  refine WO_loadB tbok 0 rfl rfl rfl rfl (fun _ h => h) rfl rfl ?_
  refine WO_pure tbok 1 [(1, .slice a_p1 p1.length c_p1), (2, .pointer (some ⟨b1, 0, none⟩)), (4, .pointer (some ⟨b2, 0, none⟩)), (6, .int .i64 p0_0), (7, .pointer (some ⟨b1, 1, none⟩))] rfl ⟨rfl, rfl, rfl, rfl, rfl, trivial⟩ ?_
  refine WO_loadB tbok 0 rfl rfl rfl rfl (fun _ h => h) rfl rfl ?_
  refine WO_pure tbok 1 [(1, .slice a_p1 p1.length c_p1), (2, .pointer (some ⟨b1, 0, none⟩)), (4, .pointer (some ⟨b2, 0, none⟩)), (6, .int .i64 p0_0), (8, .int .i64 p0_1), (9, .pointer (some ⟨b1, 2, none⟩))] rfl ⟨rfl, rfl, rfl, rfl, rfl, rfl, trivial⟩ ?_
  refine WO_loadB tbok 0 rfl rfl rfl rfl (fun _ h => h) rfl rfl ?_
  refine WO_pure tbok 1 [(1, .slice a_p1 p1.length c_p1), (2, .pointer (some ⟨b1, 0, none⟩)), (4, .pointer (some ⟨b2, 0, none⟩)), (6, .int .i64 p0_0), (8, .int .i64 p0_1), (10, .int .i64 p0_2), (11, .pointer (some ⟨b1, 3, none⟩))] rfl ⟨rfl, rfl, rfl, rfl, rfl, rfl, rfl, trivial⟩ ?_
  refine WO_loadB tbok 0 rfl rfl rfl rfl (fun _ h => h) rfl rfl ?_
  refine WO_pure tbok 1 [(1, .slice a_p1 p1.length c_p1), (4, .pointer (some ⟨b2, 0, none⟩)), (6, .int .i64 p0_0), (8, .int .i64 p0_1), (10, .int .i64 p0_2), (12, .int .i64 p0_3), (13, .pointer (some ⟨b1, 4, none⟩))] rfl ⟨rfl, rfl, rfl, rfl, rfl, rfl, rfl, trivial⟩ ?_
  refine WO_loadB tbok 0 rfl rfl rfl rfl (fun _ h => h) rfl rfl ?_
  refine WO_pure tbok 2 [(4, .pointer (some ⟨b2, 0, none⟩)), (16, .agg #[.int .i64 p0_0, .int .i64 p0_1, .int .i64 p0_2, .int .i64 p0_3, .int .i64 p0_4, .slice a_p1 p1.length c_p1])] rfl ⟨rfl, rfl, trivial⟩ ?_
  refine WO_storeB tbok 1 [.int .i64 p0_0, .int .i64 p0_1, .int .i64 p0_2, .int .i64 p0_3, .int .i64 p0_4, .slice a_p1 p1.length c_p1] rfl rfl rfl rfl rfl rfl rfl ?_
  refine WO.cls (C' := St w0 m m [[⟨b1, 25, [.int .i64 p0_0, .int .i64 p0_1, .int .i64 p0_2, .int .i64 p0_3, .int .i64 p0_4, .slice a_p0_5 p0_5.length c_p0_5]⟩], [⟨b2, 25, [.int .i64 p0_0, .int .i64 p0_1, .int .i64 p0_2, .int .i64 p0_3, .int .i64 p0_4, .slice a_p1 p1.length c_p1]⟩]]) (fun _ h => h) ?_
  refine WO_end ?_
  cases hm
  exact WK_ret (ret_out (L := []) (RLc_cell tbok 1 rfl rfl rfl RLc_nil) (List.nil_sublist _) ⟨a_p1, p1.length, c_p1, rfl, h_p1⟩)
def fiduciallaw48_surface_Q (r : Int × Int × Int × Int × Int × List Int × Int) : Value → Mu → List Ent → Prop := fun v m L => ∃ (a0 : Option Addr) (q0 c0 : Nat), v = .tuple #[.agg #[.int .i64 r.1, .int .i64 r.2.1, .int .i64 r.2.2.1, .int .i64 r.2.2.2.1, .int .i64 r.2.2.2.2.1, .slice a0 q0 c0], .int .i64 r.2.2.2.2.2.2] ∧ SlR (FE (I1 .i64)) 1 m (.slice a0 q0 c0) r.2.2.2.2.2.1
theorem fiduciallaw48_surface_walk {m : Mu} {p0 : List (Int × Int × Int)} {p1_0 : Int} {p1_1 : Int} {p1_2 : Int} {p1_3 : Int} {p1_4 : Int} {p1_5 : List Int} {a_p0 : Option Addr} {q_p0 c_p0 : Nat} {a_p1_5 : Option Addr} {q_p1_5 c_p1_5 : Nat} (h_p0 : SlR (FE T3) 3 m (.slice a_p0 q_p0 c_p0) p0) (h_p1_5 : SlR (FE (I1 .i64)) 1 m (.slice a_p1_5 q_p1_5 c_p1_5) p1_5) {r : Int × Int × Int × Int × Int × List Int × Int} (hm : fiduciallaw48_surface p0 p1_0 p1_1 p1_2 p1_3 p1_4 p1_5 = some r) :
    Go.E.Spec Try.prog 14 [.slice a_p0 q_p0 c_p0, .agg #[.int .i64 p1_0, .int .i64 p1_1, .int .i64 p1_2, .int .i64 p1_3, .int .i64 p1_4, .slice a_p1_5 q_p1_5 c_p1_5]] m (fiduciallaw48_surface_Q r) := by
  refine Spec_enter Try.func14 rfl rfl rfl (fun w0 => ?_)
  refine WK.sub (e' := [(0, .slice a_p0 q_p0 c_p0), (1, .agg #[.int .i64 p1_0, .int .i64 p1_1, .int .i64 p1_2, .int .i64 p1_3, .int .i64 p1_4, .slice a_p1_5 q_p1_5 c_p1_5])]) ⟨rfl, rfl, trivial⟩ ?_
  obtain rfl := SlR.qlen h_p0
  obtain rfl := SlR.qlen h_p1_5
  refine WK.sub (e' := [(0, .slice a_p0 p0.length c_p0), (1, .agg #[.int .i64 p1_0, .int .i64 p1_1, .int .i64 p1_2, .int .i64 p1_3, .int .i64 p1_4, .slice a_p1_5 p1_5.length c_p1_5])]) ⟨rfl, rfl, trivial⟩ ?_
  unfold fiduciallaw48_surface at hm
  refine WK_seq ?_
  refine WK_region ?_
  refine WO_box [.int .i64 p1_0, .int .i64 p1_1, .int .i64 p1_2, .int .i64 p1_3, .int .i64 p1_4, .slice a_p1_5 p1_5.length c_p1_5] rfl rfl trivial rfl rfl rfl (fun b1 => ?_)
  refine WO.cls (C' := St w0 m m [[⟨b1, 25, [.int .i64 p1_0, .int .i64 p1_1, .int .i64 p1_2, .int .i64 p1_3, .int .i64 p1_4, .slice a_p1_5 p1_5.length c_p1_5]⟩]]) (fun _ h => h) ?_
  refine WO_alloc tbok [.int .i64 0, .int .i64 0, .int .i64 0, .int .i64 0, .int .i64 0, .slice none 0 0] rfl rfl trivial rfl rfl rfl rfl (fun b2 => ?_)
  refine WO.cls (C' := St w0 m m [[⟨b1, 25, [.int .i64 p1_0, .int .i64 p1_1, .int .i64 p1_2, .int .i64 p1_3, .int .i64 p1_4, .slice a_p1_5 p1_5.length c_p1_5]⟩], [⟨b2, 25, [.int .i64 0, .int .i64 0, .int .i64 0, .int .i64 0, .int .i64 0, .slice none 0 0]⟩]]) (fun _ h => h) ?_
  refine WO_pure tbok 1 [(0, .slice a_p0 p0.length c_p0), (3, .pointer (some ⟨b1, 0, none⟩)), (4, .pointer (some ⟨b2, 0, none⟩)), (5, .int .i64 0)] rfl ⟨rfl, rfl, rfl, rfl, trivial⟩ ?_
  refine WO_end ?_
  refine WK_seq ?_
  refine WK_seq ?_
  refine WK_region ?_
  refine WO_loadB tbok 0 rfl rfl rfl rfl (fun _ h => h) rfl rfl ?_
  obtain ⟨y_1, hc3, hm⟩ := bind_some hm
  refine WO_call0 (.int .i64 y_1) rfl rfl trivial rfl rfl rfl rfl St_closed ⟨17, #[], #[], rfl, callable_17, fun w hw => ⟨_, hw.sat, fiduciallaw48_checked_walk h_p1_5 hc3⟩⟩ ?_
  refine WO_pure tbok 1 [(0, .slice a_p0 p0.length c_p0), (3, .pointer (some ⟨b1, 0, none⟩)), (4, .pointer (some ⟨b2, 0, none⟩)), (5, .int .i64 0), (6, .int .i64 y_1)] rfl ⟨rfl, rfl, rfl, rfl, rfl, trivial⟩ ?_
  refine WO_end ?_
  refine WK_seq ?_
  refine WK_region ?_
  refine WO_pure tbok 2 [(0, .slice a_p0 p0.length c_p0), (3, .pointer (some ⟨b1, 0, none⟩)), (4, .pointer (some ⟨b2, 0, none⟩)), (5, .int .i64 0), (6, .int .i64 y_1), (19, .bool (y_1 != 0))] rfl ⟨rfl, rfl, rfl, rfl, rfl, rfl, trivial⟩ ?_
  refine WO_end ?_
  refine WK_cond (b := y_1 != 0) rfl (fun hb4 => ?_) (fun hb4 => ?_)
  · have hm := ifT hb4 hm
    refine WK_seq ?_
    refine WK_region ?_
    refine WO_pure tbok 2 [(0, .slice a_p0 p0.length c_p0), (3, .pointer (some ⟨b1, 0, none⟩)), (4, .pointer (some ⟨b2, 0, none⟩)), (5, .int .i64 0), (20, .agg #[.int .i64 0, .int .i64 0, .int .i64 0, .int .i64 0, .int .i64 0, .slice none 0 0]), (21, .int .i64 y_1)] rfl ⟨rfl, rfl, rfl, rfl, rfl, rfl, trivial⟩ ?_
    refine WO_storeB tbok 1 [.int .i64 0, .int .i64 0, .int .i64 0, .int .i64 0, .int .i64 0, .slice none 0 0] rfl rfl rfl rfl rfl rfl rfl ?_
    refine WO.cls (C' := St w0 m m [[⟨b1, 25, [.int .i64 p1_0, .int .i64 p1_1, .int .i64 p1_2, .int .i64 p1_3, .int .i64 p1_4, .slice a_p1_5 p1_5.length c_p1_5]⟩], [⟨b2, 25, [.int .i64 0, .int .i64 0, .int .i64 0, .int .i64 0, .int .i64 0, .slice none 0 0]⟩]]) (fun _ h => h) ?_
    refine WO_pure tbok 1 [(0, .slice a_p0 p0.length c_p0), (3, .pointer (some ⟨b1, 0, none⟩)), (4, .pointer (some ⟨b2, 0, none⟩)), (5, .int .i64 y_1)] rfl ⟨rfl, rfl, rfl, rfl, trivial⟩ ?_
    refine WO_end ?_
    cases hm
    exact WK_ret (ret_out (L := []) (RLc_cell tbok 1 rfl rfl rfl (RLc_tmp rfl RLc_nil)) (List.nil_sublist _) ⟨none, 0, 0, rfl, SlR_nil⟩)
  · have hm := ifF hb4 hm
    refine WK_skip ?_
    refine WK_seq ?_
    refine WK_seq ?_
    refine WK_region ?_
    refine WO_pure tbok 3 [(0, .slice a_p0 p0.length c_p0), (3, .pointer (some ⟨b1, 0, none⟩)), (4, .pointer (some ⟨b2, 0, none⟩)), (5, .int .i64 0), (24, .bool (decide (4096 < (p0.length : Int))))] rfl ⟨rfl, rfl, rfl, rfl, rfl, trivial⟩ ?_
    refine WO_end ?_
    refine WK_cond (b := decide (4096 < (p0.length : Int))) rfl (fun hb5 => ?_) (fun hb5 => ?_)
    · have hm := ifT hb5 hm
      refine WK_seq ?_
      refine WK_region ?_
      refine WO_pure tbok 1 [(0, .slice a_p0 p0.length c_p0), (3, .pointer (some ⟨b1, 0, none⟩)), (4, .pointer (some ⟨b2, 0, none⟩)), (5, .int .i64 0), (25, .agg #[.int .i64 0, .int .i64 0, .int .i64 0, .int .i64 0, .int .i64 0, .slice none 0 0])] rfl ⟨rfl, rfl, rfl, rfl, rfl, trivial⟩ ?_
      refine WO_storeB tbok 1 [.int .i64 0, .int .i64 0, .int .i64 0, .int .i64 0, .int .i64 0, .slice none 0 0] rfl rfl rfl rfl rfl rfl rfl ?_
      refine WO.cls (C' := St w0 m m [[⟨b1, 25, [.int .i64 p1_0, .int .i64 p1_1, .int .i64 p1_2, .int .i64 p1_3, .int .i64 p1_4, .slice a_p1_5 p1_5.length c_p1_5]⟩], [⟨b2, 25, [.int .i64 0, .int .i64 0, .int .i64 0, .int .i64 0, .int .i64 0, .slice none 0 0]⟩]]) (fun _ h => h) ?_
      refine WO_pure tbok 1 [(0, .slice a_p0 p0.length c_p0), (3, .pointer (some ⟨b1, 0, none⟩)), (4, .pointer (some ⟨b2, 0, none⟩)), (5, .int .i64 3)] rfl ⟨rfl, rfl, rfl, rfl, trivial⟩ ?_
      refine WO_end ?_
      cases hm
      exact WK_ret (ret_out (L := []) (RLc_cell tbok 1 rfl rfl rfl (RLc_tmp rfl RLc_nil)) (List.nil_sublist _) ⟨none, 0, 0, rfl, SlR_nil⟩)
    · have hm := ifF hb5 hm
      refine WK_skip ?_
      refine WK_seq ?_
      refine WK_seq ?_
      refine WK_region ?_
      refine WO_pure tbok 3 [(0, .slice a_p0 p0.length c_p0), (3, .pointer (some ⟨b1, 0, none⟩)), (4, .pointer (some ⟨b2, 0, none⟩)), (5, .int .i64 0), (26, .slice a_p0 p0.length c_p0), (27, .int .i64 (p0.length : Int)), (28, .int .i64 0)] rfl ⟨rfl, rfl, rfl, rfl, rfl, rfl, rfl, trivial⟩ ?_
      refine WO_end ?_
      obtain ⟨x6, hx7, hm⟩ := bind_some hm
      refine WK_join (β := Unit × Unit) (fun p => Sum.inr p.1 = x6) (fun p => [(0, .slice a_p0 p0.length c_p0), (3, .pointer (some ⟨b1, 0, none⟩)), (4, .pointer (some ⟨b2, 0, none⟩)), (5, .int .i64 0)]) (fun p => St w0 m m [[⟨b1, 25, [.int .i64 p1_0, .int .i64 p1_1, .int .i64 p1_2, .int .i64 p1_3, .int .i64 p1_4, .slice a_p1_5 p1_5.length c_p1_5]⟩], [⟨b2, 25, [.int .i64 0, .int .i64 0, .int .i64 0, .int .i64 0, .int .i64 0, .slice none 0 0]⟩]]) ?_ (fun hk8 => ?_)
      · rintro ⟨⟨⟩, ⟨⟩⟩ hq14
        subst hq14
        refine WK.sub (e' := [(0, .slice a_p0 p0.length c_p0), (3, .pointer (some ⟨b1, 0, none⟩)), (4, .pointer (some ⟨b2, 0, none⟩)), (5, .int .i64 0)]) ⟨rfl, rfl, rfl, rfl, trivial⟩ (WK.cls (C' := St w0 m m [[⟨b1, 25, [.int .i64 p1_0, .int .i64 p1_1, .int .i64 p1_2, .int .i64 p1_3, .int .i64 p1_4, .slice a_p1_5 p1_5.length c_p1_5]⟩], [⟨b2, 25, [.int .i64 0, .int .i64 0, .int .i64 0, .int .i64 0, .int .i64 0, .slice none 0 0]⟩]]) (fun _ h => h) ?_)
        refine WK_seq ?_
        refine WK_region ?_
        refine WO_pure tbok 1 [(0, .slice a_p0 p0.length c_p0), (3, .pointer (some ⟨b1, 0, none⟩)), (4, .pointer (some ⟨b2, 0, none⟩)), (5, .int .i64 0), (9, .slice none 0 0)] rfl ⟨rfl, rfl, rfl, rfl, rfl, trivial⟩ ?_
        refine WO_end ?_
        refine WK_seq ?_
        refine WK_region ?_
        refine WO_pure tbok 2 [(0, .slice a_p0 p0.length c_p0), (3, .pointer (some ⟨b1, 0, none⟩)), (4, .pointer (some ⟨b2, 0, none⟩)), (5, .int .i64 0), (9, .slice none 0 0), (10, .func (.func 46) #[] #[.pointer (some ⟨b1, 0, none⟩)])] rfl ⟨rfl, rfl, rfl, rfl, rfl, rfl, trivial⟩ ?_
        refine WO_end ?_
        refine WK_seq ?_
        refine WK_seq ?_
        refine WK_region ?_
        refine WO_pure tbok 1 [(0, .slice a_p0 p0.length c_p0), (3, .pointer (some ⟨b1, 0, none⟩)), (4, .pointer (some ⟨b2, 0, none⟩)), (5, .int .i64 0), (9, .slice none 0 0), (10, .func (.func 46) #[] #[.pointer (some ⟨b1, 0, none⟩)]), (48, .pointer (some ⟨b1, 4, none⟩))] rfl ⟨rfl, rfl, rfl, rfl, rfl, rfl, rfl, trivial⟩ ?_
        refine WO_loadB tbok 0 rfl rfl rfl rfl (fun _ h => h) rfl rfl ?_
        refine WO_pure tbok 1 [(0, .slice a_p0 p0.length c_p0), (3, .pointer (some ⟨b1, 0, none⟩)), (4, .pointer (some ⟨b2, 0, none⟩)), (5, .int .i64 0), (9, .slice none 0 0), (10, .func (.func 46) #[] #[.pointer (some ⟨b1, 0, none⟩)]), (49, .int .i64 p1_4), (50, .int .i64 0)] rfl ⟨rfl, rfl, rfl, rfl, rfl, rfl, rfl, rfl, trivial⟩ ?_
        refine WO_end ?_
        refine WK_pad ?_
        obtain ⟨x23, hx24, hm⟩ := bind_some hm
        refine WK_join (β := (List Int) × (Option Addr × Nat × Nat × List Ent)) (fun p => p.1 = x23 ∧ OwnE 3 1 (I1 .i64) (.slice p.2.1 p.2.2.1 p.2.2.2.1) p.1 p.2.2.2.2) (fun p => [(3, .pointer (some ⟨b1, 0, none⟩)), (4, .pointer (some ⟨b2, 0, none⟩)), (5, .int .i64 0), (9, .slice p.2.1 p.2.2.1 p.2.2.2.1)]) (fun p => St w0 m m [[⟨b1, 25, [.int .i64 p1_0, .int .i64 p1_1, .int .i64 p1_2, .int .i64 p1_3, .int .i64 p1_4, .slice a_p1_5 p1_5.length c_p1_5]⟩], [⟨b2, 25, [.int .i64 0, .int .i64 0, .int .i64 0, .int .i64 0, .int .i64 0, .slice none 0 0]⟩], p.2.2.2.2]) ?_ (fun hk25 => ?_)
        · rintro ⟨l_5, ⟨a20, q21, c22, L19⟩⟩ ⟨hq31, hL19⟩
          subst hq31
          have hqq : q21 = l_5.length := OwnE.qlen hL19
          subst hqq
          refine WK.sub (e' := [(3, .pointer (some ⟨b1, 0, none⟩)), (4, .pointer (some ⟨b2, 0, none⟩)), (5, .int .i64 0), (9, .slice a20 ((l_5).length) c22)]) ⟨rfl, rfl, rfl, rfl, trivial⟩ (WK.cls (C' := St w0 m m [[⟨b1, 25, [.int .i64 p1_0, .int .i64 p1_1, .int .i64 p1_2, .int .i64 p1_3, .int .i64 p1_4, .slice a_p1_5 p1_5.length c_p1_5]⟩], [⟨b2, 25, [.int .i64 0, .int .i64 0, .int .i64 0, .int .i64 0, .int .i64 0, .slice none 0 0]⟩], L19]) (fun _ h => h) ?_)
          refine WK_seq ?_
          refine WK_region ?_
          refine WO_loadB tbok 0 rfl rfl rfl rfl (fun _ h => h) rfl rfl ?_
          refine WO_pure tbok 1 [(4, .pointer (some ⟨b2, 0, none⟩)), (5, .int .i64 0), (91, .agg #[.int .i64 p1_0, .int .i64 p1_1, .int .i64 p1_2, .int .i64 p1_3, .int .i64 p1_4, .slice a_p1_5 p1_5.length c_p1_5]), (92, .slice a20 ((l_5).length) c22)] rfl ⟨rfl, rfl, rfl, rfl, trivial⟩ ?_
          refine WO_freeze 2 rfl (fun m32 hle33 hmm34 => ?_)
          refine WO.cls (C' := St w0 m m32 [[⟨b1, 25, [.int .i64 p1_0, .int .i64 p1_1, .int .i64 p1_2, .int .i64 p1_3, .int .i64 p1_4, .slice a_p1_5 p1_5.length c_p1_5]⟩], [⟨b2, 25, [.int .i64 0, .int .i64 0, .int .i64 0, .int .i64 0, .int .i64 0, .slice none 0 0]⟩], []]) (fun _ h => h) ?_
          obtain ⟨⟨y_6, y_7, y_8, y_9, y_10, y_11⟩, hc35, hm⟩ := bind_some hm
          refine WO_call2 (fiduciallaw48_with_Q (y_6, y_7, y_8, y_9, y_10, y_11)) rfl rfl trivial rfl rfl rfl rfl ⟨22, #[], #[], rfl, callable_22, fiduciallaw48_with_walk (h_p1_5.mono (mono_FE _) hle33) (OwnE.rd (E := (I1 .i64)) (k := 1) (fun _ => rfl) hL19 hmm34) hc35⟩ (fun v39 m40 L38 hle41 hq => ?_)
          obtain ⟨a36, qa36, c37, rfl, h42⟩ := hq
          obtain rfl := SlR.qlen h42
          refine WO.cls (C' := St w0 m m40 [[⟨b1, 25, [.int .i64 p1_0, .int .i64 p1_1, .int .i64 p1_2, .int .i64 p1_3, .int .i64 p1_4, .slice a_p1_5 p1_5.length c_p1_5]⟩], [⟨b2, 25, [.int .i64 0, .int .i64 0, .int .i64 0, .int .i64 0, .int .i64 0, .slice none 0 0]⟩], [], L38]) (fun _ h => h.sub (by simp)) ?_
          refine WO_storeB tbok 1 [.int .i64 y_6, .int .i64 y_7, .int .i64 y_8, .int .i64 y_9, .int .i64 y_10, .slice a36 ((y_11).length) c37] rfl rfl rfl rfl rfl rfl rfl ?_
          refine WO.cls (C' := St w0 m m40 [[⟨b1, 25, [.int .i64 p1_0, .int .i64 p1_1, .int .i64 p1_2, .int .i64 p1_3, .int .i64 p1_4, .slice a_p1_5 p1_5.length c_p1_5]⟩], [⟨b2, 25, [.int .i64 y_6, .int .i64 y_7, .int .i64 y_8, .int .i64 y_9, .int .i64 y_10, .slice a36 ((y_11).length) c37]⟩], [], L38]) (fun _ h => h) ?_
          refine WO_pure tbok 1 [(4, .pointer (some ⟨b2, 0, none⟩)), (5, .int .i64 0)] rfl ⟨rfl, rfl, trivial⟩ ?_
          refine WO_end ?_
          cases hm
          exact WK_ret (ret_out (L := []) (RLc_cell tbok 1 rfl rfl rfl (RLc_tmp rfl RLc_nil)) (List.nil_sublist _) ⟨a36, _, c37, rfl, h42⟩)
        · refine WK_block ?_
          refine WK_loop (S := List Int × Int) (G := Option Addr × Nat × Nat × List Ent) (fun s => fiduciallaw48_surface_s2 p0 p1_0 p1_1 p1_2 p1_3 p1_4 p1_5 s.1 s.2) (fun s g => [(0, .slice a_p0 p0.length c_p0), (3, .pointer (some ⟨b1, 0, none⟩)), (4, .pointer (some ⟨b2, 0, none⟩)), (5, .int .i64 0), (9, .slice g.1 g.2.1 g.2.2.1), (10, .func (.func 46) #[] #[.pointer (some ⟨b1, 0, none⟩)]), (49, .int .i64 p1_4), (50, .int .i64 s.2)]) (fun s g => St w0 m m [[⟨b1, 25, [.int .i64 p1_0, .int .i64 p1_1, .int .i64 p1_2, .int .i64 p1_3, .int .i64 p1_4, .slice a_p1_5 p1_5.length c_p1_5]⟩], [⟨b2, 25, [.int .i64 0, .int .i64 0, .int .i64 0, .int .i64 0, .int .i64 0, .slice none 0 0]⟩], g.2.2.2]) (fun s g => OwnE 3 1 (I1 .i64) (.slice g.1 g.2.1 g.2.2.1) s.1 g.2.2.2) FUEL (([] : List Int), 0) (none, 0, 0, []) x23 hx24 (OwnE.nil (T := 3) (k := 1) (E := (I1 .i64)) none) ⟨rfl, rfl, rfl, rfl, rfl, rfl, rfl, rfl, trivial⟩ (fun _ h => h) ?_
          rintro ⟨l_3, s_4⟩ ⟨a16, q17, c18, L15⟩ o27 fl28 hm26 hL15 hn29 hd30
          have hm26 : fiduciallaw48_surface_s2 p0 p1_0 p1_1 p1_2 p1_3 p1_4 p1_5 l_3 s_4 = some o27 := hm26
          unfold fiduciallaw48_surface_s2 at hm26
          have hqq : q17 = l_3.length := OwnE.qlen hL15
          subst hqq
          refine WK.sub (e' := [(0, .slice a_p0 p0.length c_p0), (3, .pointer (some ⟨b1, 0, none⟩)), (4, .pointer (some ⟨b2, 0, none⟩)), (5, .int .i64 0), (9, .slice a16 ((l_3).length) c18), (10, .func (.func 46) #[] #[.pointer (some ⟨b1, 0, none⟩)]), (49, .int .i64 p1_4), (50, .int .i64 s_4)]) ⟨rfl, rfl, rfl, rfl, rfl, rfl, rfl, rfl, trivial⟩ (WK.cls (C' := St w0 m m [[⟨b1, 25, [.int .i64 p1_0, .int .i64 p1_1, .int .i64 p1_2, .int .i64 p1_3, .int .i64 p1_4, .slice a_p1_5 p1_5.length c_p1_5]⟩], [⟨b2, 25, [.int .i64 0, .int .i64 0, .int .i64 0, .int .i64 0, .int .i64 0, .slice none 0 0]⟩], L15]) (fun _ h => h) ?_)
          refine WK_seq ?_
          refine WK_region ?_
          refine WO_pure tbok 1 [(0, .slice a_p0 p0.length c_p0), (3, .pointer (some ⟨b1, 0, none⟩)), (4, .pointer (some ⟨b2, 0, none⟩)), (5, .int .i64 0), (9, .slice a16 ((l_3).length) c18), (10, .func (.func 46) #[] #[.pointer (some ⟨b1, 0, none⟩)]), (49, .int .i64 p1_4), (50, .int .i64 s_4), (51, .bool (decide (s_4 < p1_4)))] rfl ⟨rfl, rfl, rfl, rfl, rfl, rfl, rfl, rfl, rfl, trivial⟩ ?_
          refine WO_end ?_
          refine WK_seq ?_
          refine WK_cond (b := decide (s_4 < p1_4)) rfl (fun hb43 => ?_) (fun hb43 => ?_)
          · have hm26 := ifT hb43 hm26
            refine WK_skip ?_
            refine WK_seq ?_
            refine WK_block ?_
            refine WK_seq ?_
            refine WK_region ?_
            refine WO_pure tbok 2 [(0, .slice a_p0 p0.length c_p0), (3, .pointer (some ⟨b1, 0, none⟩)), (4, .pointer (some ⟨b2, 0, none⟩)), (5, .int .i64 0), (9, .slice a16 ((l_3).length) c18), (10, .func (.func 46) #[] #[.pointer (some ⟨b1, 0, none⟩)]), (11, .int .i64 s_4), (49, .int .i64 p1_4), (50, .int .i64 s_4)] rfl ⟨rfl, rfl, rfl, rfl, rfl, rfl, rfl, rfl, rfl, trivial⟩ ?_
            refine WO_end ?_
            refine WK_seq ?_
            refine WK_region ?_
            refine WO_pure tbok 1 [(0, .slice a_p0 p0.length c_p0), (3, .pointer (some ⟨b1, 0, none⟩)), (4, .pointer (some ⟨b2, 0, none⟩)), (5, .int .i64 0), (9, .slice a16 ((l_3).length) c18), (10, .func (.func 46) #[] #[.pointer (some ⟨b1, 0, none⟩)]), (11, .int .i64 s_4), (49, .int .i64 p1_4), (50, .int .i64 s_4), (53, .pointer (some ⟨b1, 3, none⟩))] rfl ⟨rfl, rfl, rfl, rfl, rfl, rfl, rfl, rfl, rfl, rfl, trivial⟩ ?_
            refine WO_loadB tbok 0 rfl rfl rfl rfl (fun _ h => h) rfl rfl ?_
            refine WO_pure tbok 1 [(0, .slice a_p0 p0.length c_p0), (3, .pointer (some ⟨b1, 0, none⟩)), (4, .pointer (some ⟨b2, 0, none⟩)), (5, .int .i64 0), (9, .slice a16 ((l_3).length) c18), (10, .func (.func 46) #[] #[.pointer (some ⟨b1, 0, none⟩)]), (11, .int .i64 s_4), (49, .int .i64 p1_4), (50, .int .i64 s_4), (54, .int .i64 p1_3), (55, .int .i64 0)] rfl ⟨rfl, rfl, rfl, rfl, rfl, rfl, rfl, rfl, rfl, rfl, rfl, trivial⟩ ?_
            refine WO_end ?_
            obtain ⟨x52, hx53, hm26⟩ := bind_some hm26
            refine WK_join (β := (List Int) × (Option Addr × Nat × Nat × List Ent)) (fun p => p.1 = x52 ∧ OwnE 3 1 (I1 .i64) (.slice p.2.1 p.2.2.1 p.2.2.2.1) p.1 p.2.2.2.2) (fun p => [(0, .slice a_p0 p0.length c_p0), (3, .pointer (some ⟨b1, 0, none⟩)), (4, .pointer (some ⟨b2, 0, none⟩)), (5, .int .i64 0), (9, .slice p.2.1 p.2.2.1 p.2.2.2.1), (10, .func (.func 46) #[] #[.pointer (some ⟨b1, 0, none⟩)]), (49, .int .i64 p1_4), (50, .int .i64 s_4)]) (fun p => St w0 m m [[⟨b1, 25, [.int .i64 p1_0, .int .i64 p1_1, .int .i64 p1_2, .int .i64 p1_3, .int .i64 p1_4, .slice a_p1_5 p1_5.length c_p1_5]⟩], [⟨b2, 25, [.int .i64 0, .int .i64 0, .int .i64 0, .int .i64 0, .int .i64 0, .slice none 0 0]⟩], p.2.2.2.2]) ?_ (fun hk54 => ?_)
            · rintro ⟨l_14, ⟨a49, q50, c51, L48⟩⟩ ⟨hq60, hL48⟩
              subst hq60
              have hqq : q50 = l_14.length := OwnE.qlen hL48
              subst hqq
              refine WK.sub (e' := [(0, .slice a_p0 p0.length c_p0), (3, .pointer (some ⟨b1, 0, none⟩)), (4, .pointer (some ⟨b2, 0, none⟩)), (5, .int .i64 0), (9, .slice a49 ((l_14).length) c51), (10, .func (.func 46) #[] #[.pointer (some ⟨b1, 0, none⟩)]), (49, .int .i64 p1_4), (50, .int .i64 s_4)]) ⟨rfl, rfl, rfl, rfl, rfl, rfl, rfl, rfl, trivial⟩ (WK.cls (C' := St w0 m m [[⟨b1, 25, [.int .i64 p1_0, .int .i64 p1_1, .int .i64 p1_2, .int .i64 p1_3, .int .i64 p1_4, .slice a_p1_5 p1_5.length c_p1_5]⟩], [⟨b2, 25, [.int .i64 0, .int .i64 0, .int .i64 0, .int .i64 0, .int .i64 0, .slice none 0 0]⟩], L48]) (fun _ h => h) ?_)
              refine WK_blk ?_
              refine WK_region ?_
              refine WO_pure tbok 2 [(0, .slice a_p0 p0.length c_p0), (3, .pointer (some ⟨b1, 0, none⟩)), (4, .pointer (some ⟨b2, 0, none⟩)), (5, .int .i64 0), (9, .slice a49 ((l_14).length) c51), (10, .func (.func 46) #[] #[.pointer (some ⟨b1, 0, none⟩)]), (49, .int .i64 p1_4), (50, .int .i64 (w64 (s_4 + 1)))] rfl ⟨rfl, rfl, rfl, rfl, rfl, rfl, rfl, rfl, trivial⟩ ?_
              refine WO_end ?_
              cases hm26
              refine WK.sub ?_ (WK.cls (fun _ h => h) (hn29 _ (a49, _, c51, L48) rfl hL48))
              exact ⟨rfl, rfl, rfl, rfl, rfl, rfl, rfl, rfl, trivial⟩
            · refine WK_block ?_
              refine WK_loop (S := List Int × Int) (G := Option Addr × Nat × Nat × List Ent) (fun s => fiduciallaw48_surface_s3 p0 p1_0 p1_1 p1_2 p1_3 p1_4 p1_5 s_4 s.1 s.2) (fun s g => [(0, .slice a_p0 p0.length c_p0), (3, .pointer (some ⟨b1, 0, none⟩)), (4, .pointer (some ⟨b2, 0, none⟩)), (5, .int .i64 0), (9, .slice g.1 g.2.1 g.2.2.1), (10, .func (.func 46) #[] #[.pointer (some ⟨b1, 0, none⟩)]), (11, .int .i64 s_4), (49, .int .i64 p1_4), (50, .int .i64 s_4), (54, .int .i64 p1_3), (55, .int .i64 s.2)]) (fun s g => St w0 m m [[⟨b1, 25, [.int .i64 p1_0, .int .i64 p1_1, .int .i64 p1_2, .int .i64 p1_3, .int .i64 p1_4, .slice a_p1_5 p1_5.length c_p1_5]⟩], [⟨b2, 25, [.int .i64 0, .int .i64 0, .int .i64 0, .int .i64 0, .int .i64 0, .slice none 0 0]⟩], g.2.2.2]) (fun s g => OwnE 3 1 (I1 .i64) (.slice g.1 g.2.1 g.2.2.1) s.1 g.2.2.2) FUEL (l_3, 0) (a16, _, c18, L15) x52 hx53 hL15 ⟨rfl, rfl, rfl, rfl, rfl, rfl, rfl, rfl, rfl, rfl, rfl, trivial⟩ (fun _ h => h) ?_
              rintro ⟨l_12, s_13⟩ ⟨a45, q46, c47, L44⟩ o56 fl57 hm55 hL44 hn58 hd59
              have hm55 : fiduciallaw48_surface_s3 p0 p1_0 p1_1 p1_2 p1_3 p1_4 p1_5 s_4 l_12 s_13 = some o56 := hm55
              unfold fiduciallaw48_surface_s3 at hm55
              have hqq : q46 = l_12.length := OwnE.qlen hL44
              subst hqq
              refine WK.sub (e' := [(0, .slice a_p0 p0.length c_p0), (3, .pointer (some ⟨b1, 0, none⟩)), (4, .pointer (some ⟨b2, 0, none⟩)), (5, .int .i64 0), (9, .slice a45 ((l_12).length) c47), (10, .func (.func 46) #[] #[.pointer (some ⟨b1, 0, none⟩)]), (11, .int .i64 s_4), (49, .int .i64 p1_4), (50, .int .i64 s_4), (54, .int .i64 p1_3), (55, .int .i64 s_13)]) ⟨rfl, rfl, rfl, rfl, rfl, rfl, rfl, rfl, rfl, rfl, rfl, trivial⟩ (WK.cls (C' := St w0 m m [[⟨b1, 25, [.int .i64 p1_0, .int .i64 p1_1, .int .i64 p1_2, .int .i64 p1_3, .int .i64 p1_4, .slice a_p1_5 p1_5.length c_p1_5]⟩], [⟨b2, 25, [.int .i64 0, .int .i64 0, .int .i64 0, .int .i64 0, .int .i64 0, .slice none 0 0]⟩], L44]) (fun _ h => h) ?_)
              refine WK_seq ?_
              refine WK_region ?_
              refine WO_pure tbok 1 [(0, .slice a_p0 p0.length c_p0), (3, .pointer (some ⟨b1, 0, none⟩)), (4, .pointer (some ⟨b2, 0, none⟩)), (5, .int .i64 0), (9, .slice a45 ((l_12).length) c47), (10, .func (.func 46) #[] #[.pointer (some ⟨b1, 0, none⟩)]), (11, .int .i64 s_4), (49, .int .i64 p1_4), (50, .int .i64 s_4), (54, .int .i64 p1_3), (55, .int .i64 s_13), (56, .bool (decide (s_13 < p1_3)))] rfl ⟨rfl, rfl, rfl, rfl, rfl, rfl, rfl, rfl, rfl, rfl, rfl, rfl, trivial⟩ ?_
              refine WO_end ?_
              refine WK_seq ?_
              refine WK_cond (b := decide (s_13 < p1_3)) rfl (fun hb61 => ?_) (fun hb61 => ?_)
              · have hm55 := ifT hb61 hm55
                refine WK_skip ?_
                refine WK_seq ?_
                refine WK_block ?_
                refine WK_seq ?_
                refine WK_region ?_
                refine WO_pure tbok 2 [(0, .slice a_p0 p0.length c_p0), (3, .pointer (some ⟨b1, 0, none⟩)), (4, .pointer (some ⟨b2, 0, none⟩)), (5, .int .i64 0), (9, .slice a45 ((l_12).length) c47), (10, .func (.func 46) #[] #[.pointer (some ⟨b1, 0, none⟩)]), (11, .int .i64 s_4), (12, .int .i64 s_13), (49, .int .i64 p1_4), (50, .int .i64 s_4), (54, .int .i64 p1_3), (55, .int .i64 s_13)] rfl ⟨rfl, rfl, rfl, rfl, rfl, rfl, rfl, rfl, rfl, rfl, rfl, rfl, trivial⟩ ?_
                refine WO_end ?_
                refine WK_seq ?_
                refine WK_region ?_
                refine WO_pure tbok 1 [(0, .slice a_p0 p0.length c_p0), (3, .pointer (some ⟨b1, 0, none⟩)), (4, .pointer (some ⟨b2, 0, none⟩)), (5, .int .i64 0), (9, .slice a45 ((l_12).length) c47), (10, .func (.func 46) #[] #[.pointer (some ⟨b1, 0, none⟩)]), (11, .int .i64 s_4), (12, .int .i64 s_13), (13, .int .i64 (-2147483648)), (49, .int .i64 p1_4), (50, .int .i64 s_4), (54, .int .i64 p1_3), (55, .int .i64 s_13)] rfl ⟨rfl, rfl, rfl, rfl, rfl, rfl, rfl, rfl, rfl, rfl, rfl, rfl, rfl, trivial⟩ ?_
                refine WO_end ?_
                refine WK_seq ?_
                refine WK_seq ?_
                refine WK_region ?_
                refine WO_pure tbok 3 [(0, .slice a_p0 p0.length c_p0), (3, .pointer (some ⟨b1, 0, none⟩)), (4, .pointer (some ⟨b2, 0, none⟩)), (5, .int .i64 0), (9, .slice a45 ((l_12).length) c47), (10, .func (.func 46) #[] #[.pointer (some ⟨b1, 0, none⟩)]), (11, .int .i64 s_4), (12, .int .i64 s_13), (13, .int .i64 (-2147483648)), (49, .int .i64 p1_4), (50, .int .i64 s_4), (54, .int .i64 p1_3), (55, .int .i64 s_13), (58, .slice a_p0 p0.length c_p0), (59, .int .i64 (p0.length : Int)), (60, .int .i64 0)] rfl ⟨rfl, rfl, rfl, rfl, rfl, rfl, rfl, rfl, rfl, rfl, rfl, rfl, rfl, rfl, rfl, rfl, trivial⟩ ?_
                refine WO_end ?_
                obtain ⟨x62, hx63, hm55⟩ := bind_some hm55
                refine WK_join (β := Int × Unit) (fun p => p.1 = x62) (fun p => [(0, .slice a_p0 p0.length c_p0), (3, .pointer (some ⟨b1, 0, none⟩)), (4, .pointer (some ⟨b2, 0, none⟩)), (5, .int .i64 0), (9, .slice a45 ((l_12).length) c47), (10, .func (.func 46) #[] #[.pointer (some ⟨b1, 0, none⟩)]), (11, .int .i64 s_4), (13, .int .i64 p.1), (49, .int .i64 p1_4), (50, .int .i64 s_4), (54, .int .i64 p1_3), (55, .int .i64 s_13)]) (fun p => St w0 m m [[⟨b1, 25, [.int .i64 p1_0, .int .i64 p1_1, .int .i64 p1_2, .int .i64 p1_3, .int .i64 p1_4, .slice a_p1_5 p1_5.length c_p1_5]⟩], [⟨b2, 25, [.int .i64 0, .int .i64 0, .int .i64 0, .int .i64 0, .int .i64 0, .slice none 0 0]⟩], L44]) ?_ (fun hk64 => ?_)
                · rintro ⟨s_17, ⟨⟩⟩ hq70
                  subst hq70
                  refine WK.sub (e' := [(0, .slice a_p0 p0.length c_p0), (3, .pointer (some ⟨b1, 0, none⟩)), (4, .pointer (some ⟨b2, 0, none⟩)), (5, .int .i64 0), (9, .slice a45 ((l_12).length) c47), (10, .func (.func 46) #[] #[.pointer (some ⟨b1, 0, none⟩)]), (11, .int .i64 s_4), (13, .int .i64 s_17), (49, .int .i64 p1_4), (50, .int .i64 s_4), (54, .int .i64 p1_3), (55, .int .i64 s_13)]) ⟨rfl, rfl, rfl, rfl, rfl, rfl, rfl, rfl, rfl, rfl, rfl, rfl, trivial⟩ (WK.cls (C' := St w0 m m [[⟨b1, 25, [.int .i64 p1_0, .int .i64 p1_1, .int .i64 p1_2, .int .i64 p1_3, .int .i64 p1_4, .slice a_p1_5 p1_5.length c_p1_5]⟩], [⟨b2, 25, [.int .i64 0, .int .i64 0, .int .i64 0, .int .i64 0, .int .i64 0, .slice none 0 0]⟩], L44]) (fun _ h => h) ?_)
                  refine WK_region ?_
                  refine WO_pure tbok 2 [(0, .slice a_p0 p0.length c_p0), (3, .pointer (some ⟨b1, 0, none⟩)), (4, .pointer (some ⟨b2, 0, none⟩)), (5, .int .i64 0), (9, .slice a45 ((l_12).length) c47), (10, .func (.func 46) #[] #[.pointer (some ⟨b1, 0, none⟩)]), (11, .int .i64 s_4), (49, .int .i64 p1_4), (50, .int .i64 s_4), (54, .int .i64 p1_3), (55, .int .i64 s_13), (85, .slice a45 ((l_12).length) c47), (86, .int .i64 s_17)] rfl ⟨rfl, rfl, rfl, rfl, rfl, rfl, rfl, rfl, rfl, rfl, rfl, rfl, rfl, trivial⟩ ?_
                  refine WO_bslice (E := (I1 .i64)) tbok (fun _ => rfl) (by decide) [.int .i64 s_17] ([s_17] : List Int) rfl rfl trivial rfl rfl rfl rfl rfl rfl rfl rfl rfl rfl rfl rfl (fun b71 hb71 => ?_)
                  refine WO.cls (C' := St w0 m m [[⟨b1, 25, [.int .i64 p1_0, .int .i64 p1_1, .int .i64 p1_2, .int .i64 p1_3, .int .i64 p1_4, .slice a_p1_5 p1_5.length c_p1_5]⟩], [⟨b2, 25, [.int .i64 0, .int .i64 0, .int .i64 0, .int .i64 0, .int .i64 0, .slice none 0 0]⟩], L44, [⟨b71, 3, ([s_17] : List Int).flatMap (I1 .i64)⟩]]) (fun _ h => h) ?_
                  obtain ⟨hc72, hm55⟩ := chk_some hm55
                  refine WO_append (E := (I1 .i64)) tbok (fun _ => rfl) 2 ([s_17] : List Int) (fun _ _ => rfl) rfl rfl rfl rfl rfl rfl rfl rfl rfl rfl rfl rfl hL44 rfl (src_seg (j := 3) rfl) (ap_ok (by decide) hc72) (ap_max hc72) (fun a73 c74 L75 hL75 => ?_)
                  refine WO.cls (C' := St w0 m m [[⟨b1, 25, [.int .i64 p1_0, .int .i64 p1_1, .int .i64 p1_2, .int .i64 p1_3, .int .i64 p1_4, .slice a_p1_5 p1_5.length c_p1_5]⟩], [⟨b2, 25, [.int .i64 0, .int .i64 0, .int .i64 0, .int .i64 0, .int .i64 0, .slice none 0 0]⟩], L75, [⟨b71, 3, ([s_17] : List Int).flatMap (I1 .i64)⟩]]) (fun _ h => h) ?_
                  refine WO_pure tbok 1 [(0, .slice a_p0 p0.length c_p0), (3, .pointer (some ⟨b1, 0, none⟩)), (4, .pointer (some ⟨b2, 0, none⟩)), (5, .int .i64 0), (9, .slice a73 ((l_12 ++ ([s_17] : List Int)).length) c74), (10, .func (.func 46) #[] #[.pointer (some ⟨b1, 0, none⟩)]), (11, .int .i64 s_4), (49, .int .i64 p1_4), (50, .int .i64 s_4), (54, .int .i64 p1_3), (55, .int .i64 s_13)] rfl ⟨rfl, rfl, rfl, rfl, rfl, rfl, rfl, rfl, rfl, rfl, rfl, trivial⟩ ?_
                  refine WO_end ?_
                  refine WK_blk ?_
                  refine WK_region ?_
                  refine WO_pure tbok 2 [(0, .slice a_p0 p0.length c_p0), (3, .pointer (some ⟨b1, 0, none⟩)), (4, .pointer (some ⟨b2, 0, none⟩)), (5, .int .i64 0), (9, .slice a73 ((l_12 ++ ([s_17] : List Int)).length) c74), (10, .func (.func 46) #[] #[.pointer (some ⟨b1, 0, none⟩)]), (11, .int .i64 s_4), (49, .int .i64 p1_4), (50, .int .i64 s_4), (54, .int .i64 p1_3), (55, .int .i64 (w64 (s_13 + 1)))] rfl ⟨rfl, rfl, rfl, rfl, rfl, rfl, rfl, rfl, rfl, rfl, rfl, trivial⟩ ?_
                  refine WO_end ?_
                  cases hm55
                  refine WK.sub ?_ (WK.cls (fun _ h => St.take 3 h) (hn58 _ (a73, (l_12 ++ ([s_17] : List Int)).length, c74, L75) rfl hL75))
                  exact ⟨rfl, rfl, rfl, rfl, rfl, rfl, rfl, rfl, rfl, rfl, rfl, trivial⟩
                · refine WK_block ?_
                  refine WK_loop (S := Int × Int) (G := Unit) (fun s => fiduciallaw48_surface_s4 p0 p1_0 p1_1 p1_2 p1_3 p1_4 p1_5 s_4 s_13 s.1 s.2) (fun s g => [(0, .slice a_p0 p0.length c_p0), (3, .pointer (some ⟨b1, 0, none⟩)), (4, .pointer (some ⟨b2, 0, none⟩)), (5, .int .i64 0), (9, .slice a45 ((l_12).length) c47), (10, .func (.func 46) #[] #[.pointer (some ⟨b1, 0, none⟩)]), (11, .int .i64 s_4), (12, .int .i64 s_13), (13, .int .i64 s.1), (49, .int .i64 p1_4), (50, .int .i64 s_4), (54, .int .i64 p1_3), (55, .int .i64 s_13), (58, .slice a_p0 p0.length c_p0), (59, .int .i64 (p0.length : Int)), (60, .int .i64 s.2)]) (fun s g => St w0 m m [[⟨b1, 25, [.int .i64 p1_0, .int .i64 p1_1, .int .i64 p1_2, .int .i64 p1_3, .int .i64 p1_4, .slice a_p1_5 p1_5.length c_p1_5]⟩], [⟨b2, 25, [.int .i64 0, .int .i64 0, .int .i64 0, .int .i64 0, .int .i64 0, .slice none 0 0]⟩], L44]) (fun s g => True) FUEL ((-2147483648), 0) () x62 hx63 trivial ⟨rfl, rfl, rfl, rfl, rfl, rfl, rfl, rfl, rfl, rfl, rfl, rfl, rfl, rfl, rfl, rfl, trivial⟩ (fun _ h => h) ?_
                  rintro ⟨s_15, s_16⟩ ⟨⟩ o66 fl67 hm65 - hn68 hd69
                  have hm65 : fiduciallaw48_surface_s4 p0 p1_0 p1_1 p1_2 p1_3 p1_4 p1_5 s_4 s_13 s_15 s_16 = some o66 := hm65
                  unfold fiduciallaw48_surface_s4 at hm65
                  refine WK.sub (e' := [(0, .slice a_p0 p0.length c_p0), (3, .pointer (some ⟨b1, 0, none⟩)), (4, .pointer (some ⟨b2, 0, none⟩)), (5, .int .i64 0), (9, .slice a45 ((l_12).length) c47), (10, .func (.func 46) #[] #[.pointer (some ⟨b1, 0, none⟩)]), (11, .int .i64 s_4), (12, .int .i64 s_13), (13, .int .i64 s_15), (49, .int .i64 p1_4), (50, .int .i64 s_4), (54, .int .i64 p1_3), (55, .int .i64 s_13), (58, .slice a_p0 p0.length c_p0), (59, .int .i64 (p0.length : Int)), (60, .int .i64 s_16)]) ⟨rfl, rfl, rfl, rfl, rfl, rfl, rfl, rfl, rfl, rfl, rfl, rfl, rfl, rfl, rfl, rfl, trivial⟩ (WK.cls (C' := St w0 m m [[⟨b1, 25, [.int .i64 p1_0, .int .i64 p1_1, .int .i64 p1_2, .int .i64 p1_3, .int .i64 p1_4, .slice a_p1_5 p1_5.length c_p1_5]⟩], [⟨b2, 25, [.int .i64 0, .int .i64 0, .int .i64 0, .int .i64 0, .int .i64 0, .slice none 0 0]⟩], L44]) (fun _ h => h) ?_)
                  refine WK_seq ?_
                  refine WK_region ?_
                  refine WO_pure tbok 1 [(0, .slice a_p0 p0.length c_p0), (3, .pointer (some ⟨b1, 0, none⟩)), (4, .pointer (some ⟨b2, 0, none⟩)), (5, .int .i64 0), (9, .slice a45 ((l_12).length) c47), (10, .func (.func 46) #[] #[.pointer (some ⟨b1, 0, none⟩)]), (11, .int .i64 s_4), (12, .int .i64 s_13), (13, .int .i64 s_15), (49, .int .i64 p1_4), (50, .int .i64 s_4), (54, .int .i64 p1_3), (55, .int .i64 s_13), (58, .slice a_p0 p0.length c_p0), (59, .int .i64 (p0.length : Int)), (60, .int .i64 s_16), (61, .bool (decide (s_16 < (p0.length : Int))))] rfl ⟨rfl, rfl, rfl, rfl, rfl, rfl, rfl, rfl, rfl, rfl, rfl, rfl, rfl, rfl, rfl, rfl, rfl, trivial⟩ ?_
                  refine WO_end ?_
                  refine WK_seq ?_
                  refine WK_cond (b := decide (s_16 < (p0.length : Int))) rfl (fun hb76 => ?_) (fun hb76 => ?_)
                  · have hm65 := ifT hb76 hm65
                    refine WK_skip ?_
                    refine WK_seq ?_
                    refine WK_block ?_
                    refine WK_seq ?_
                    refine WK_region ?_
                    obtain ⟨v_18, hy77, hm65⟩ := bind_some hm65
                    obtain ⟨hc78, hy77⟩ := ix_some hy77
                    refine WO_index tbok rfl rfl rfl rfl rfl rfl rfl rfl (SlR.addr h_p0) hc78 ?_
                    refine WO_loadE tbok rfl rfl rfl rfl (fun _ h => St.sat h) h_p0 hy77 rfl ?_
                    refine WO_alloc tbok [.int .i64 0, .int .i64 0, .int .i64 0] rfl rfl trivial rfl rfl rfl rfl (fun b79 => ?_)
                    refine WO.cls (C' := St w0 m m [[⟨b1, 25, [.int .i64 p1_0, .int .i64 p1_1, .int .i64 p1_2, .int .i64 p1_3, .int .i64 p1_4, .slice a_p1_5 p1_5.length c_p1_5]⟩], [⟨b2, 25, [.int .i64 0, .int .i64 0, .int .i64 0, .int .i64 0, .int .i64 0, .slice none 0 0]⟩], L44, [⟨b79, 60, [.int .i64 0, .int .i64 0, .int .i64 0]⟩]]) (fun _ h => h) ?_
                    refine WO_storeB tbok 3 [.int .i64 v_18.1, .int .i64 v_18.2.1, .int .i64 v_18.2.2] rfl rfl rfl rfl rfl rfl rfl ?_
                    refine WO.cls (C' := St w0 m m [[⟨b1, 25, [.int .i64 p1_0, .int .i64 p1_1, .int .i64 p1_2, .int .i64 p1_3, .int .i64 p1_4, .slice a_p1_5 p1_5.length c_p1_5]⟩], [⟨b2, 25, [.int .i64 0, .int .i64 0, .int .i64 0, .int .i64 0, .int .i64 0, .slice none 0 0]⟩], L44, [⟨b79, 60, [.int .i64 v_18.1, .int .i64 v_18.2.1, .int .i64 v_18.2.2]⟩]]) (fun _ h => h) ?_
                    refine WO_end ?_
                    refine WK_seq ?_
                    obtain ⟨s_19, hx80, hm65⟩ := bind_some hm65
                    refine WK_meet [(0, .slice a_p0 p0.length c_p0), (3, .pointer (some ⟨b1, 0, none⟩)), (4, .pointer (some ⟨b2, 0, none⟩)), (5, .int .i64 0), (9, .slice a45 ((l_12).length) c47), (10, .func (.func 46) #[] #[.pointer (some ⟨b1, 0, none⟩)]), (11, .int .i64 s_4), (12, .int .i64 s_13), (13, .int .i64 s_15), (15, .pointer (some ⟨b79, 0, none⟩)), (49, .int .i64 p1_4), (50, .int .i64 s_4), (54, .int .i64 p1_3), (55, .int .i64 s_13), (58, .slice a_p0 p0.length c_p0), (59, .int .i64 (p0.length : Int)), (60, .int .i64 s_16), (79, .bool s_19)] (St w0 m m [[⟨b1, 25, [.int .i64 p1_0, .int .i64 p1_1, .int .i64 p1_2, .int .i64 p1_3, .int .i64 p1_4, .slice a_p1_5 p1_5.length c_p1_5]⟩], [⟨b2, 25, [.int .i64 0, .int .i64 0, .int .i64 0, .int .i64 0, .int .i64 0, .slice none 0 0]⟩], L44, [⟨b79, 60, [.int .i64 v_18.1, .int .i64 v_18.2.1, .int .i64 v_18.2.2]⟩]]) ?_ (fun hk81 => ?_)
                    · obtain ⟨s_20, hx82, hm65⟩ := bind_some hm65
                      refine WK_meet [(0, .slice a_p0 p0.length c_p0), (3, .pointer (some ⟨b1, 0, none⟩)), (4, .pointer (some ⟨b2, 0, none⟩)), (5, .int .i64 0), (9, .slice a45 ((l_12).length) c47), (10, .func (.func 46) #[] #[.pointer (some ⟨b1, 0, none⟩)]), (11, .int .i64 s_4), (12, .int .i64 s_13), (13, .int .i64 s_20), (49, .int .i64 p1_4), (50, .int .i64 s_4), (54, .int .i64 p1_3), (55, .int .i64 s_13), (58, .slice a_p0 p0.length c_p0), (59, .int .i64 (p0.length : Int)), (60, .int .i64 s_16)] (St w0 m m [[⟨b1, 25, [.int .i64 p1_0, .int .i64 p1_1, .int .i64 p1_2, .int .i64 p1_3, .int .i64 p1_4, .slice a_p1_5 p1_5.length c_p1_5]⟩], [⟨b2, 25, [.int .i64 0, .int .i64 0, .int .i64 0, .int .i64 0, .int .i64 0, .slice none 0 0]⟩], L44, [⟨b79, 60, [.int .i64 v_18.1, .int .i64 v_18.2.1, .int .i64 v_18.2.2]⟩]]) ?_ (fun hk83 => ?_)
                      · refine WK_blk ?_
                        refine WK_region ?_
                        refine WO_pure tbok 2 [(0, .slice a_p0 p0.length c_p0), (3, .pointer (some ⟨b1, 0, none⟩)), (4, .pointer (some ⟨b2, 0, none⟩)), (5, .int .i64 0), (9, .slice a45 ((l_12).length) c47), (10, .func (.func 46) #[] #[.pointer (some ⟨b1, 0, none⟩)]), (11, .int .i64 s_4), (12, .int .i64 s_13), (13, .int .i64 s_20), (49, .int .i64 p1_4), (50, .int .i64 s_4), (54, .int .i64 p1_3), (55, .int .i64 s_13), (58, .slice a_p0 p0.length c_p0), (59, .int .i64 (p0.length : Int)), (60, .int .i64 (w64 (s_16 + 1)))] rfl ⟨rfl, rfl, rfl, rfl, rfl, rfl, rfl, rfl, rfl, rfl, rfl, rfl, rfl, rfl, rfl, rfl, trivial⟩ ?_
                        refine WO_end ?_
                        cases hm65
                        refine WK.sub ?_ (WK.cls (fun _ h => St.take 3 h) (hn68 _ () rfl trivial))
                        exact ⟨rfl, rfl, rfl, rfl, rfl, rfl, rfl, rfl, rfl, rfl, rfl, rfl, rfl, rfl, rfl, rfl, trivial⟩
                      · refine WK_cond (b := s_19) rfl (fun hb84 => ?_) (fun hb84 => ?_)
                        · have hx82 := ifT hb84 hx82
                          refine WK_region ?_
                          refine WO_pure tbok 2 [(0, .slice a_p0 p0.length c_p0), (3, .pointer (some ⟨b1, 0, none⟩)), (4, .pointer (some ⟨b2, 0, none⟩)), (5, .int .i64 0), (9, .slice a45 ((l_12).length) c47), (10, .func (.func 46) #[] #[.pointer (some ⟨b1, 0, none⟩)]), (11, .int .i64 s_4), (12, .int .i64 s_13), (13, .int .i64 s_15), (49, .int .i64 p1_4), (50, .int .i64 s_4), (54, .int .i64 p1_3), (55, .int .i64 s_13), (58, .slice a_p0 p0.length c_p0), (59, .int .i64 (p0.length : Int)), (60, .int .i64 s_16), (80, .int .i64 s_15), (81, .pointer (some ⟨b79, 2, none⟩))] rfl ⟨rfl, rfl, rfl, rfl, rfl, rfl, rfl, rfl, rfl, rfl, rfl, rfl, rfl, rfl, rfl, rfl, rfl, rfl, trivial⟩ ?_
                          refine WO_loadB tbok 3 rfl rfl rfl rfl (fun _ h => h) rfl rfl ?_
                          refine WO_pure tbok 2 [(0, .slice a_p0 p0.length c_p0), (3, .pointer (some ⟨b1, 0, none⟩)), (4, .pointer (some ⟨b2, 0, none⟩)), (5, .int .i64 0), (9, .slice a45 ((l_12).length) c47), (10, .func (.func 46) #[] #[.pointer (some ⟨b1, 0, none⟩)]), (11, .int .i64 s_4), (12, .int .i64 s_13), (13, .int .i64 (if s_15 < v_18.2.2 then v_18.2.2 else s_15)), (49, .int .i64 p1_4), (50, .int .i64 s_4), (54, .int .i64 p1_3), (55, .int .i64 s_13), (58, .slice a_p0 p0.length c_p0), (59, .int .i64 (p0.length : Int)), (60, .int .i64 s_16)] rfl ⟨rfl, rfl, rfl, rfl, rfl, rfl, rfl, rfl, rfl, rfl, rfl, rfl, rfl, rfl, rfl, rfl, trivial⟩ ?_
                          refine WO_end ?_
                          cases hx82
                          refine WK.sub ?_ (WK.cls (fun _ h => h) hk83)
                          exact ⟨rfl, rfl, rfl, rfl, rfl, rfl, rfl, rfl, rfl, rfl, rfl, rfl, rfl, rfl, rfl, rfl, trivial⟩
                        · have hx82 := ifF hb84 hx82
                          refine WK_skip ?_
                          cases hx82
                          refine WK.sub ?_ (WK.cls (fun _ h => h) hk83)
                          exact ⟨rfl, rfl, rfl, rfl, rfl, rfl, rfl, rfl, rfl, rfl, rfl, rfl, rfl, rfl, rfl, rfl, trivial⟩
                    · refine WK_region ?_
                      refine WO_pure tbok 2 [(0, .slice a_p0 p0.length c_p0), (3, .pointer (some ⟨b1, 0, none⟩)), (4, .pointer (some ⟨b2, 0, none⟩)), (5, .int .i64 0), (9, .slice a45 ((l_12).length) c47), (10, .func (.func 46) #[] #[.pointer (some ⟨b1, 0, none⟩)]), (11, .int .i64 s_4), (12, .int .i64 s_13), (13, .int .i64 s_15), (15, .pointer (some ⟨b79, 0, none⟩)), (49, .int .i64 p1_4), (50, .int .i64 s_4), (54, .int .i64 p1_3), (55, .int .i64 s_13), (58, .slice a_p0 p0.length c_p0), (59, .int .i64 (p0.length : Int)), (60, .int .i64 s_16), (64, .func (.func 46) #[] #[.pointer (some ⟨b1, 0, none⟩)]), (65, .pointer (some ⟨b79, 0, none⟩))] rfl ⟨rfl, rfl, rfl, rfl, rfl, rfl, rfl, rfl, rfl, rfl, rfl, rfl, rfl, rfl, rfl, rfl, rfl, rfl, rfl, trivial⟩ ?_
                      refine WO_loadB tbok 3 rfl rfl rfl rfl (fun _ h => h) rfl rfl ?_
                      refine WO_pure tbok 1 [(0, .slice a_p0 p0.length c_p0), (3, .pointer (some ⟨b1, 0, none⟩)), (4, .pointer (some ⟨b2, 0, none⟩)), (5, .int .i64 0), (9, .slice a45 ((l_12).length) c47), (10, .func (.func 46) #[] #[.pointer (some ⟨b1, 0, none⟩)]), (11, .int .i64 s_4), (12, .int .i64 s_13), (13, .int .i64 s_15), (15, .pointer (some ⟨b79, 0, none⟩)), (49, .int .i64 p1_4), (50, .int .i64 s_4), (54, .int .i64 p1_3), (55, .int .i64 s_13), (58, .slice a_p0 p0.length c_p0), (59, .int .i64 (p0.length : Int)), (60, .int .i64 s_16), (64, .func (.func 46) #[] #[.pointer (some ⟨b1, 0, none⟩)]), (66, .int .i64 v_18.1), (67, .pointer (some ⟨b1, 0, none⟩))] rfl ⟨rfl, rfl, rfl, rfl, rfl, rfl, rfl, rfl, rfl, rfl, rfl, rfl, rfl, rfl, rfl, rfl, rfl, rfl, rfl, rfl, trivial⟩ ?_
                      refine WO_loadB tbok 0 rfl rfl rfl rfl (fun _ h => h) rfl rfl ?_
                      refine WO_pure tbok 1 [(0, .slice a_p0 p0.length c_p0), (3, .pointer (some ⟨b1, 0, none⟩)), (4, .pointer (some ⟨b2, 0, none⟩)), (5, .int .i64 0), (9, .slice a45 ((l_12).length) c47), (10, .func (.func 46) #[] #[.pointer (some ⟨b1, 0, none⟩)]), (11, .int .i64 s_4), (12, .int .i64 s_13), (13, .int .i64 s_15), (15, .pointer (some ⟨b79, 0, none⟩)), (49, .int .i64 p1_4), (50, .int .i64 s_4), (54, .int .i64 p1_3), (55, .int .i64 s_13), (58, .slice a_p0 p0.length c_p0), (59, .int .i64 (p0.length : Int)), (60, .int .i64 s_16), (64, .func (.func 46) #[] #[.pointer (some ⟨b1, 0, none⟩)]), (66, .int .i64 v_18.1), (68, .int .i64 p1_0), (69, .int .i64 s_13)] rfl ⟨rfl, rfl, rfl, rfl, rfl, rfl, rfl, rfl, rfl, rfl, rfl, rfl, rfl, rfl, rfl, rfl, rfl, rfl, rfl, rfl, rfl, trivial⟩ ?_
                      obtain ⟨y_21, hc85, hx80⟩ := bind_some hx80
                      refine WO_call0 (.bool y_21) rfl rfl trivial rfl rfl rfl rfl St_closed ⟨46, #[], #[.pointer (some ⟨b1, 0, none⟩)], rfl, callable_46, fun w hw => ⟨_, hw.satV, fiduciallaw48_surface_c1_walk (hw.memV (i := 0) rfl (List.mem_singleton.2 rfl)) (h_p1_5.mono (mono_FE _) hw.leV) hc85⟩⟩ ?_
                      refine WO_pure tbok 1 [(0, .slice a_p0 p0.length c_p0), (3, .pointer (some ⟨b1, 0, none⟩)), (4, .pointer (some ⟨b2, 0, none⟩)), (5, .int .i64 0), (9, .slice a45 ((l_12).length) c47), (10, .func (.func 46) #[] #[.pointer (some ⟨b1, 0, none⟩)]), (11, .int .i64 s_4), (12, .int .i64 s_13), (13, .int .i64 s_15), (15, .pointer (some ⟨b79, 0, none⟩)), (49, .int .i64 p1_4), (50, .int .i64 s_4), (54, .int .i64 p1_3), (55, .int .i64 s_13), (58, .slice a_p0 p0.length c_p0), (59, .int .i64 (p0.length : Int)), (60, .int .i64 s_16), (71, .bool y_21)] rfl ⟨rfl, rfl, rfl, rfl, rfl, rfl, rfl, rfl, rfl, rfl, rfl, rfl, rfl, rfl, rfl, rfl, rfl, rfl, trivial⟩ ?_
                      refine WO_split (d := 71) (b := y_21) rfl (fun hb86 => ?_) (fun hb86 => ?_)
                      · have hx80 := ifT hb86 hx80
                        refine WO_pure tbok 2 [(0, .slice a_p0 p0.length c_p0), (3, .pointer (some ⟨b1, 0, none⟩)), (4, .pointer (some ⟨b2, 0, none⟩)), (5, .int .i64 0), (9, .slice a45 ((l_12).length) c47), (10, .func (.func 46) #[] #[.pointer (some ⟨b1, 0, none⟩)]), (11, .int .i64 s_4), (12, .int .i64 s_13), (13, .int .i64 s_15), (15, .pointer (some ⟨b79, 0, none⟩)), (49, .int .i64 p1_4), (50, .int .i64 s_4), (54, .int .i64 p1_3), (55, .int .i64 s_13), (58, .slice a_p0 p0.length c_p0), (59, .int .i64 (p0.length : Int)), (60, .int .i64 s_16), (71, .bool true), (72, .func (.func 46) #[] #[.pointer (some ⟨b1, 0, none⟩)]), (73, .pointer (some ⟨b79, 1, none⟩))] rfl ⟨rfl, rfl, rfl, rfl, rfl, rfl, rfl, rfl, rfl, rfl, rfl, rfl, rfl, rfl, rfl, rfl, rfl, rfl, rfl, rfl, trivial⟩ ?_
                        refine WO_loadB tbok 3 rfl rfl rfl rfl (fun _ h => h) rfl rfl ?_
                        refine WO_pure tbok 1 [(0, .slice a_p0 p0.length c_p0), (3, .pointer (some ⟨b1, 0, none⟩)), (4, .pointer (some ⟨b2, 0, none⟩)), (5, .int .i64 0), (9, .slice a45 ((l_12).length) c47), (10, .func (.func 46) #[] #[.pointer (some ⟨b1, 0, none⟩)]), (11, .int .i64 s_4), (12, .int .i64 s_13), (13, .int .i64 s_15), (15, .pointer (some ⟨b79, 0, none⟩)), (49, .int .i64 p1_4), (50, .int .i64 s_4), (54, .int .i64 p1_3), (55, .int .i64 s_13), (58, .slice a_p0 p0.length c_p0), (59, .int .i64 (p0.length : Int)), (60, .int .i64 s_16), (71, .bool true), (72, .func (.func 46) #[] #[.pointer (some ⟨b1, 0, none⟩)]), (74, .int .i64 v_18.2.1), (75, .pointer (some ⟨b1, 1, none⟩))] rfl ⟨rfl, rfl, rfl, rfl, rfl, rfl, rfl, rfl, rfl, rfl, rfl, rfl, rfl, rfl, rfl, rfl, rfl, rfl, rfl, rfl, rfl, trivial⟩ ?_
                        refine WO_loadB tbok 0 rfl rfl rfl rfl (fun _ h => h) rfl rfl ?_
                        refine WO_pure tbok 1 [(0, .slice a_p0 p0.length c_p0), (3, .pointer (some ⟨b1, 0, none⟩)), (4, .pointer (some ⟨b2, 0, none⟩)), (5, .int .i64 0), (9, .slice a45 ((l_12).length) c47), (10, .func (.func 46) #[] #[.pointer (some ⟨b1, 0, none⟩)]), (11, .int .i64 s_4), (12, .int .i64 s_13), (13, .int .i64 s_15), (15, .pointer (some ⟨b79, 0, none⟩)), (49, .int .i64 p1_4), (50, .int .i64 s_4), (54, .int .i64 p1_3), (55, .int .i64 s_13), (58, .slice a_p0 p0.length c_p0), (59, .int .i64 (p0.length : Int)), (60, .int .i64 s_16), (71, .bool true), (72, .func (.func 46) #[] #[.pointer (some ⟨b1, 0, none⟩)]), (74, .int .i64 v_18.2.1), (76, .int .i64 p1_1), (77, .int .i64 s_4)] rfl ⟨rfl, rfl, rfl, rfl, rfl, rfl, rfl, rfl, rfl, rfl, rfl, rfl, rfl, rfl, rfl, rfl, rfl, rfl, rfl, rfl, rfl, rfl, trivial⟩ ?_
                        obtain ⟨y_22, hc87, hx80⟩ := bind_some hx80
                        refine WO_call0 (.bool y_22) rfl rfl trivial rfl rfl rfl rfl St_closed ⟨46, #[], #[.pointer (some ⟨b1, 0, none⟩)], rfl, callable_46, fun w hw => ⟨_, hw.satV, fiduciallaw48_surface_c1_walk (hw.memV (i := 0) rfl (List.mem_singleton.2 rfl)) (h_p1_5.mono (mono_FE _) hw.leV) hc87⟩⟩ ?_
                        refine WO_pure tbok 1 [(0, .slice a_p0 p0.length c_p0), (3, .pointer (some ⟨b1, 0, none⟩)), (4, .pointer (some ⟨b2, 0, none⟩)), (5, .int .i64 0), (9, .slice a45 ((l_12).length) c47), (10, .func (.func 46) #[] #[.pointer (some ⟨b1, 0, none⟩)]), (11, .int .i64 s_4), (12, .int .i64 s_13), (13, .int .i64 s_15), (15, .pointer (some ⟨b79, 0, none⟩)), (49, .int .i64 p1_4), (50, .int .i64 s_4), (54, .int .i64 p1_3), (55, .int .i64 s_13), (58, .slice a_p0 p0.length c_p0), (59, .int .i64 (p0.length : Int)), (60, .int .i64 s_16), (79, .bool y_22)] rfl ⟨rfl, rfl, rfl, rfl, rfl, rfl, rfl, rfl, rfl, rfl, rfl, rfl, rfl, rfl, rfl, rfl, rfl, rfl, trivial⟩ ?_
                        refine WO_end ?_
                        cases hx80
                        refine WK.sub ?_ (WK.cls (fun _ h => h) hk81)
                        exact ⟨rfl, rfl, rfl, rfl, rfl, rfl, rfl, rfl, rfl, rfl, rfl, rfl, rfl, rfl, rfl, rfl, rfl, rfl, trivial⟩
                      · have hx80 := ifF hb86 hx80
                        refine WO_pure tbok 6 [(0, .slice a_p0 p0.length c_p0), (3, .pointer (some ⟨b1, 0, none⟩)), (4, .pointer (some ⟨b2, 0, none⟩)), (5, .int .i64 0), (9, .slice a45 ((l_12).length) c47), (10, .func (.func 46) #[] #[.pointer (some ⟨b1, 0, none⟩)]), (11, .int .i64 s_4), (12, .int .i64 s_13), (13, .int .i64 s_15), (15, .pointer (some ⟨b79, 0, none⟩)), (49, .int .i64 p1_4), (50, .int .i64 s_4), (54, .int .i64 p1_3), (55, .int .i64 s_13), (58, .slice a_p0 p0.length c_p0), (59, .int .i64 (p0.length : Int)), (60, .int .i64 s_16), (71, .bool false)] rfl ⟨rfl, rfl, rfl, rfl, rfl, rfl, rfl, rfl, rfl, rfl, rfl, rfl, rfl, rfl, rfl, rfl, rfl, rfl, trivial⟩ ?_
                        refine WO_skip rfl rfl ?_
                        refine WO_pure tbok 1 [(0, .slice a_p0 p0.length c_p0), (3, .pointer (some ⟨b1, 0, none⟩)), (4, .pointer (some ⟨b2, 0, none⟩)), (5, .int .i64 0), (9, .slice a45 ((l_12).length) c47), (10, .func (.func 46) #[] #[.pointer (some ⟨b1, 0, none⟩)]), (11, .int .i64 s_4), (12, .int .i64 s_13), (13, .int .i64 s_15), (15, .pointer (some ⟨b79, 0, none⟩)), (49, .int .i64 p1_4), (50, .int .i64 s_4), (54, .int .i64 p1_3), (55, .int .i64 s_13), (58, .slice a_p0 p0.length c_p0), (59, .int .i64 (p0.length : Int)), (60, .int .i64 s_16), (79, .bool false)] rfl ⟨rfl, rfl, rfl, rfl, rfl, rfl, rfl, rfl, rfl, rfl, rfl, rfl, rfl, rfl, rfl, rfl, rfl, rfl, trivial⟩ ?_
                        refine WO_end ?_
                        cases hx80
                        refine WK.sub ?_ (WK.cls (fun _ h => h) hk81)
                        exact ⟨rfl, rfl, rfl, rfl, rfl, rfl, rfl, rfl, rfl, rfl, rfl, rfl, rfl, rfl, rfl, rfl, rfl, rfl, trivial⟩
                  · have hm65 := ifF hb76 hm65
                    refine WK_exit rfl ?_
                    cases hm65
                    refine WK.sub ?_ (WK.cls (fun _ h => h) (hk64 (s_15, ()) (hd69 _ rfl)))
                    exact ⟨rfl, rfl, rfl, rfl, rfl, rfl, rfl, rfl, rfl, rfl, rfl, rfl, trivial⟩
              · have hm55 := ifF hb61 hm55
                refine WK_exit rfl ?_
                cases hm55
                refine WK.sub ?_ (WK.cls (fun _ h => h) (hk54 (l_12, (a45, _, c47, L44)) ⟨(hd59 _ rfl), hL44⟩))
                exact ⟨rfl, rfl, rfl, rfl, rfl, rfl, rfl, rfl, trivial⟩
          · have hm26 := ifF hb43 hm26
            refine WK_exit rfl ?_
            cases hm26
            refine WK.sub ?_ (WK.cls (fun _ h => h) (hk25 (l_3, (a16, _, c18, L15)) ⟨(hd30 _ rfl), hL15⟩))
            exact ⟨rfl, rfl, rfl, rfl, trivial⟩
      · refine WK_block ?_
        refine WK_loop (S := Int) (G := Unit) (fun s => fiduciallaw48_surface_s1 p0 s) (fun s g => [(0, .slice a_p0 p0.length c_p0), (3, .pointer (some ⟨b1, 0, none⟩)), (4, .pointer (some ⟨b2, 0, none⟩)), (5, .int .i64 0), (26, .slice a_p0 p0.length c_p0), (27, .int .i64 (p0.length : Int)), (28, .int .i64 s)]) (fun s g => St w0 m m [[⟨b1, 25, [.int .i64 p1_0, .int .i64 p1_1, .int .i64 p1_2, .int .i64 p1_3, .int .i64 p1_4, .slice a_p1_5 p1_5.length c_p1_5]⟩], [⟨b2, 25, [.int .i64 0, .int .i64 0, .int .i64 0, .int .i64 0, .int .i64 0, .slice none 0 0]⟩]]) (fun s g => True) FUEL 0 () x6 hx7 trivial ⟨rfl, rfl, rfl, rfl, rfl, rfl, rfl, trivial⟩ (fun _ h => h) ?_
        rintro s_2 ⟨⟩ o10 fl11 hm9 - hn12 hd13
        have hm9 : fiduciallaw48_surface_s1 p0 s_2 = some o10 := hm9
        unfold fiduciallaw48_surface_s1 at hm9
        refine WK.sub (e' := [(0, .slice a_p0 p0.length c_p0), (3, .pointer (some ⟨b1, 0, none⟩)), (4, .pointer (some ⟨b2, 0, none⟩)), (5, .int .i64 0), (26, .slice a_p0 p0.length c_p0), (27, .int .i64 (p0.length : Int)), (28, .int .i64 s_2)]) ⟨rfl, rfl, rfl, rfl, rfl, rfl, rfl, trivial⟩ (WK.cls (C' := St w0 m m [[⟨b1, 25, [.int .i64 p1_0, .int .i64 p1_1, .int .i64 p1_2, .int .i64 p1_3, .int .i64 p1_4, .slice a_p1_5 p1_5.length c_p1_5]⟩], [⟨b2, 25, [.int .i64 0, .int .i64 0, .int .i64 0, .int .i64 0, .int .i64 0, .slice none 0 0]⟩]]) (fun _ h => h) ?_)
        refine WK_seq ?_
        refine WK_region ?_
        refine WO_pure tbok 1 [(0, .slice a_p0 p0.length c_p0), (3, .pointer (some ⟨b1, 0, none⟩)), (4, .pointer (some ⟨b2, 0, none⟩)), (5, .int .i64 0), (26, .slice a_p0 p0.length c_p0), (27, .int .i64 (p0.length : Int)), (28, .int .i64 s_2), (29, .bool (decide (s_2 < (p0.length : Int))))] rfl ⟨rfl, rfl, rfl, rfl, rfl, rfl, rfl, rfl, trivial⟩ ?_
        refine WO_end ?_
        refine WK_seq ?_
        refine WK_cond (b := decide (s_2 < (p0.length : Int))) rfl (fun hb88 => ?_) (fun hb88 => ?_)
        · have hm9 := ifT hb88 hm9
          refine WK_skip ?_
          refine WK_seq ?_
          refine WK_block ?_
          refine WK_seq ?_
          refine WK_region ?_
          obtain ⟨v_23, hy89, hm9⟩ := bind_some hm9
          obtain ⟨hc90, hy89⟩ := ix_some hy89
          refine WO_index tbok rfl rfl rfl rfl rfl rfl rfl rfl (SlR.addr h_p0) hc90 ?_
          refine WO_loadE tbok rfl rfl rfl rfl (fun _ h => St.sat h) h_p0 hy89 rfl ?_
          refine WO_alloc tbok [.int .i64 0, .int .i64 0, .int .i64 0] rfl rfl trivial rfl rfl rfl rfl (fun b91 => ?_)
          refine WO.cls (C' := St w0 m m [[⟨b1, 25, [.int .i64 p1_0, .int .i64 p1_1, .int .i64 p1_2, .int .i64 p1_3, .int .i64 p1_4, .slice a_p1_5 p1_5.length c_p1_5]⟩], [⟨b2, 25, [.int .i64 0, .int .i64 0, .int .i64 0, .int .i64 0, .int .i64 0, .slice none 0 0]⟩], [⟨b91, 60, [.int .i64 0, .int .i64 0, .int .i64 0]⟩]]) (fun _ h => h) ?_
          refine WO_storeB tbok 2 [.int .i64 v_23.1, .int .i64 v_23.2.1, .int .i64 v_23.2.2] rfl rfl rfl rfl rfl rfl rfl ?_
          refine WO.cls (C' := St w0 m m [[⟨b1, 25, [.int .i64 p1_0, .int .i64 p1_1, .int .i64 p1_2, .int .i64 p1_3, .int .i64 p1_4, .slice a_p1_5 p1_5.length c_p1_5]⟩], [⟨b2, 25, [.int .i64 0, .int .i64 0, .int .i64 0, .int .i64 0, .int .i64 0, .slice none 0 0]⟩], [⟨b91, 60, [.int .i64 v_23.1, .int .i64 v_23.2.1, .int .i64 v_23.2.2]⟩]]) (fun _ h => h) ?_
          refine WO_end ?_
          refine WK_seq ?_
          obtain ⟨s_24, hx92, hm9⟩ := bind_some hm9
          refine WK_meet [(0, .slice a_p0 p0.length c_p0), (3, .pointer (some ⟨b1, 0, none⟩)), (4, .pointer (some ⟨b2, 0, none⟩)), (5, .int .i64 0), (26, .slice a_p0 p0.length c_p0), (27, .int .i64 (p0.length : Int)), (28, .int .i64 s_2), (44, .bool s_24)] (St w0 m m [[⟨b1, 25, [.int .i64 p1_0, .int .i64 p1_1, .int .i64 p1_2, .int .i64 p1_3, .int .i64 p1_4, .slice a_p1_5 p1_5.length c_p1_5]⟩], [⟨b2, 25, [.int .i64 0, .int .i64 0, .int .i64 0, .int .i64 0, .int .i64 0, .slice none 0 0]⟩], [⟨b91, 60, [.int .i64 v_23.1, .int .i64 v_23.2.1, .int .i64 v_23.2.2]⟩]]) ?_ (fun hk93 => ?_)
          · refine WK_cond (b := s_24) rfl (fun hb94 => ?_) (fun hb94 => ?_)
            · have hm9 := ifT hb94 hm9
              refine WK_seq ?_
              refine WK_region ?_
              refine WO_pure tbok 1 [(0, .slice a_p0 p0.length c_p0), (3, .pointer (some ⟨b1, 0, none⟩)), (4, .pointer (some ⟨b2, 0, none⟩)), (5, .int .i64 0), (26, .slice a_p0 p0.length c_p0), (27, .int .i64 (p0.length : Int)), (28, .int .i64 s_2), (45, .agg #[.int .i64 0, .int .i64 0, .int .i64 0, .int .i64 0, .int .i64 0, .slice none 0 0])] rfl ⟨rfl, rfl, rfl, rfl, rfl, rfl, rfl, rfl, trivial⟩ ?_
              refine WO_storeB tbok 1 [.int .i64 0, .int .i64 0, .int .i64 0, .int .i64 0, .int .i64 0, .slice none 0 0] rfl rfl rfl rfl rfl rfl rfl ?_
              refine WO.cls (C' := St w0 m m [[⟨b1, 25, [.int .i64 p1_0, .int .i64 p1_1, .int .i64 p1_2, .int .i64 p1_3, .int .i64 p1_4, .slice a_p1_5 p1_5.length c_p1_5]⟩], [⟨b2, 25, [.int .i64 0, .int .i64 0, .int .i64 0, .int .i64 0, .int .i64 0, .slice none 0 0]⟩], [⟨b91, 60, [.int .i64 v_23.1, .int .i64 v_23.2.1, .int .i64 v_23.2.2]⟩]]) (fun _ h => h) ?_
              refine WO_pure tbok 1 [(0, .slice a_p0 p0.length c_p0), (3, .pointer (some ⟨b1, 0, none⟩)), (4, .pointer (some ⟨b2, 0, none⟩)), (5, .int .i64 2), (26, .slice a_p0 p0.length c_p0), (27, .int .i64 (p0.length : Int)), (28, .int .i64 s_2)] rfl ⟨rfl, rfl, rfl, rfl, rfl, rfl, rfl, trivial⟩ ?_
              refine WO_end ?_
              cases hm9
              have hq := hd13 _ rfl
              subst hq
              have hm : some _ = some _ := hm
              cases hm
              exact WK_ret (ret_out (L := []) (RLc_cell tbok 1 rfl rfl rfl (RLc_tmp rfl RLc_nil)) (List.nil_sublist _) ⟨none, 0, 0, rfl, SlR_nil⟩)
            · have hm9 := ifF hb94 hm9
              refine WK_skip ?_
              refine WK_blk ?_
              refine WK_region ?_
              refine WO_pure tbok 2 [(0, .slice a_p0 p0.length c_p0), (3, .pointer (some ⟨b1, 0, none⟩)), (4, .pointer (some ⟨b2, 0, none⟩)), (5, .int .i64 0), (26, .slice a_p0 p0.length c_p0), (27, .int .i64 (p0.length : Int)), (28, .int .i64 (w64 (s_2 + 1)))] rfl ⟨rfl, rfl, rfl, rfl, rfl, rfl, rfl, trivial⟩ ?_
              refine WO_end ?_
              cases hm9
              refine WK.sub ?_ (WK.cls (fun _ h => St.take 2 h) (hn12 _ () rfl trivial))
              exact ⟨rfl, rfl, rfl, rfl, rfl, rfl, rfl, trivial⟩
          · refine WK_region ?_
            refine WO_pure tbok 1 [(0, .slice a_p0 p0.length c_p0), (3, .pointer (some ⟨b1, 0, none⟩)), (4, .pointer (some ⟨b2, 0, none⟩)), (5, .int .i64 0), (8, .pointer (some ⟨b91, 0, none⟩)), (26, .slice a_p0 p0.length c_p0), (27, .int .i64 (p0.length : Int)), (28, .int .i64 s_2), (32, .pointer (some ⟨b91, 0, none⟩))] rfl ⟨rfl, rfl, rfl, rfl, rfl, rfl, rfl, rfl, rfl, trivial⟩ ?_
            refine WO_loadB tbok 2 rfl rfl rfl rfl (fun _ h => h) rfl rfl ?_
            obtain ⟨y_25, hc95, hx92⟩ := bind_some hx92
            refine WO_call0 (.bool y_25) rfl rfl trivial rfl rfl rfl rfl St_closed ⟨45, #[], #[], rfl, callable_45, fun w hw => ⟨_, hw.sat, fiduciallaw48_far_walk hc95⟩⟩ ?_
            refine WO_pure tbok 1 [(0, .slice a_p0 p0.length c_p0), (3, .pointer (some ⟨b1, 0, none⟩)), (4, .pointer (some ⟨b2, 0, none⟩)), (5, .int .i64 0), (8, .pointer (some ⟨b91, 0, none⟩)), (26, .slice a_p0 p0.length c_p0), (27, .int .i64 (p0.length : Int)), (28, .int .i64 s_2), (35, .bool y_25)] rfl ⟨rfl, rfl, rfl, rfl, rfl, rfl, rfl, rfl, rfl, trivial⟩ ?_
            refine WO_split (d := 35) (b := y_25) rfl (fun hb96 => ?_) (fun hb96 => ?_)
            · have hx92 := ifT hb96 hx92
              refine WO_pure tbok 2 [(0, .slice a_p0 p0.length c_p0), (3, .pointer (some ⟨b1, 0, none⟩)), (4, .pointer (some ⟨b2, 0, none⟩)), (5, .int .i64 0), (8, .pointer (some ⟨b91, 0, none⟩)), (26, .slice a_p0 p0.length c_p0), (27, .int .i64 (p0.length : Int)), (28, .int .i64 s_2), (35, .bool true)] rfl ⟨rfl, rfl, rfl, rfl, rfl, rfl, rfl, rfl, rfl, trivial⟩ ?_
              refine WO_skip rfl rfl ?_
              refine WO_pure tbok 4 [(0, .slice a_p0 p0.length c_p0), (3, .pointer (some ⟨b1, 0, none⟩)), (4, .pointer (some ⟨b2, 0, none⟩)), (5, .int .i64 0), (26, .slice a_p0 p0.length c_p0), (27, .int .i64 (p0.length : Int)), (28, .int .i64 s_2), (40, .bool true)] rfl ⟨rfl, rfl, rfl, rfl, rfl, rfl, rfl, rfl, trivial⟩ ?_
              refine WO_skip rfl rfl ?_
              refine WO_pure tbok 1 [(0, .slice a_p0 p0.length c_p0), (3, .pointer (some ⟨b1, 0, none⟩)), (4, .pointer (some ⟨b2, 0, none⟩)), (5, .int .i64 0), (26, .slice a_p0 p0.length c_p0), (27, .int .i64 (p0.length : Int)), (28, .int .i64 s_2), (44, .bool true)] rfl ⟨rfl, rfl, rfl, rfl, rfl, rfl, rfl, rfl, trivial⟩ ?_
              refine WO_end ?_
              cases hx92
              refine WK.sub ?_ (WK.cls (fun _ h => h) hk93)
              exact ⟨rfl, rfl, rfl, rfl, rfl, rfl, rfl, rfl, trivial⟩
            · have hx92 := ifF hb96 hx92
              refine WO_pure tbok 1 [(0, .slice a_p0 p0.length c_p0), (3, .pointer (some ⟨b1, 0, none⟩)), (4, .pointer (some ⟨b2, 0, none⟩)), (5, .int .i64 0), (8, .pointer (some ⟨b91, 0, none⟩)), (26, .slice a_p0 p0.length c_p0), (27, .int .i64 (p0.length : Int)), (28, .int .i64 s_2), (35, .bool false), (36, .pointer (some ⟨b91, 1, none⟩))] rfl ⟨rfl, rfl, rfl, rfl, rfl, rfl, rfl, rfl, rfl, rfl, trivial⟩ ?_
              refine WO_loadB tbok 2 rfl rfl rfl rfl (fun _ h => h) rfl rfl ?_
              obtain ⟨y_26, hc97, hx92⟩ := bind_some hx92
              refine WO_call0 (.bool y_26) rfl rfl trivial rfl rfl rfl rfl St_closed ⟨45, #[], #[], rfl, callable_45, fun w hw => ⟨_, hw.sat, fiduciallaw48_far_walk hc97⟩⟩ ?_
              refine WO_pure tbok 2 [(0, .slice a_p0 p0.length c_p0), (3, .pointer (some ⟨b1, 0, none⟩)), (4, .pointer (some ⟨b2, 0, none⟩)), (5, .int .i64 0), (8, .pointer (some ⟨b91, 0, none⟩)), (26, .slice a_p0 p0.length c_p0), (27, .int .i64 (p0.length : Int)), (28, .int .i64 s_2), (40, .bool y_26)] rfl ⟨rfl, rfl, rfl, rfl, rfl, rfl, rfl, rfl, rfl, trivial⟩ ?_
              refine WO_split (d := 40) (b := y_26) rfl (fun hb98 => ?_) (fun hb98 => ?_)
              · have hx92 := ifT hb98 hx92
                refine WO_pure tbok 2 [(0, .slice a_p0 p0.length c_p0), (3, .pointer (some ⟨b1, 0, none⟩)), (4, .pointer (some ⟨b2, 0, none⟩)), (5, .int .i64 0), (26, .slice a_p0 p0.length c_p0), (27, .int .i64 (p0.length : Int)), (28, .int .i64 s_2), (40, .bool true)] rfl ⟨rfl, rfl, rfl, rfl, rfl, rfl, rfl, rfl, trivial⟩ ?_
                refine WO_skip rfl rfl ?_
                refine WO_pure tbok 1 [(0, .slice a_p0 p0.length c_p0), (3, .pointer (some ⟨b1, 0, none⟩)), (4, .pointer (some ⟨b2, 0, none⟩)), (5, .int .i64 0), (26, .slice a_p0 p0.length c_p0), (27, .int .i64 (p0.length : Int)), (28, .int .i64 s_2), (44, .bool true)] rfl ⟨rfl, rfl, rfl, rfl, rfl, rfl, rfl, rfl, trivial⟩ ?_
                refine WO_end ?_
                cases hx92
                refine WK.sub ?_ (WK.cls (fun _ h => h) hk93)
                exact ⟨rfl, rfl, rfl, rfl, rfl, rfl, rfl, rfl, trivial⟩
              · have hx92 := ifF hb98 hx92
                refine WO_pure tbok 1 [(0, .slice a_p0 p0.length c_p0), (3, .pointer (some ⟨b1, 0, none⟩)), (4, .pointer (some ⟨b2, 0, none⟩)), (5, .int .i64 0), (26, .slice a_p0 p0.length c_p0), (27, .int .i64 (p0.length : Int)), (28, .int .i64 s_2), (40, .bool false), (41, .pointer (some ⟨b91, 2, none⟩))] rfl ⟨rfl, rfl, rfl, rfl, rfl, rfl, rfl, rfl, rfl, trivial⟩ ?_
                refine WO_loadB tbok 2 rfl rfl rfl rfl (fun _ h => h) rfl rfl ?_
                obtain ⟨y_27, hc99, hx92⟩ := bind_some hx92
                refine WO_call0 (.bool y_27) rfl rfl trivial rfl rfl rfl rfl St_closed ⟨45, #[], #[], rfl, callable_45, fun w hw => ⟨_, hw.sat, fiduciallaw48_far_walk hc99⟩⟩ ?_
                refine WO_pure tbok 1 [(0, .slice a_p0 p0.length c_p0), (3, .pointer (some ⟨b1, 0, none⟩)), (4, .pointer (some ⟨b2, 0, none⟩)), (5, .int .i64 0), (26, .slice a_p0 p0.length c_p0), (27, .int .i64 (p0.length : Int)), (28, .int .i64 s_2), (44, .bool y_27)] rfl ⟨rfl, rfl, rfl, rfl, rfl, rfl, rfl, rfl, trivial⟩ ?_
                refine WO_end ?_
                cases hx92
                refine WK.sub ?_ (WK.cls (fun _ h => h) hk93)
                exact ⟨rfl, rfl, rfl, rfl, rfl, rfl, rfl, rfl, trivial⟩
        · have hm9 := ifF hb88 hm9
          refine WK_exit rfl ?_
          cases hm9
          refine WK.sub ?_ (WK.cls (fun _ h => h) (hk8 ((), ()) (hd13 _ rfl)))
          exact ⟨rfl, rfl, rfl, rfl, trivial⟩
theorem fiduciallaw48_same_walk {m : Mu} {p0_0 : Int} {p0_1 : Int} {p0_2 : Int} {p0_3 : Int} {p0_4 : Int} {p0_5 : List Int} {p1_0 : Int} {p1_1 : Int} {p1_2 : Int} {p1_3 : Int} {p1_4 : Int} {p1_5 : List Int} {a_p0_5 : Option Addr} {q_p0_5 c_p0_5 : Nat} {a_p1_5 : Option Addr} {q_p1_5 c_p1_5 : Nat} (h_p0_5 : SlR (FE (I1 .i64)) 1 m (.slice a_p0_5 q_p0_5 c_p0_5) p0_5) (h_p1_5 : SlR (FE (I1 .i64)) 1 m (.slice a_p1_5 q_p1_5 c_p1_5) p1_5) {r : Bool} (hm : fiduciallaw48_same p0_0 p0_1 p0_2 p0_3 p0_4 p0_5 p1_0 p1_1 p1_2 p1_3 p1_4 p1_5 = some r) :
    Go.E.Spec Try.prog 15 [.agg #[.int .i64 p0_0, .int .i64 p0_1, .int .i64 p0_2, .int .i64 p0_3, .int .i64 p0_4, .slice a_p0_5 q_p0_5 c_p0_5], .agg #[.int .i64 p1_0, .int .i64 p1_1, .int .i64 p1_2, .int .i64 p1_3, .int .i64 p1_4, .slice a_p1_5 q_p1_5 c_p1_5]] m (fun v _ _ => v = .bool r) := by
  refine Spec_enter Try.func15 rfl rfl rfl (fun w0 => ?_)
  refine WK.sub (e' := [(0, .agg #[.int .i64 p0_0, .int .i64 p0_1, .int .i64 p0_2, .int .i64 p0_3, .int .i64 p0_4, .slice a_p0_5 q_p0_5 c_p0_5]), (1, .agg #[.int .i64 p1_0, .int .i64 p1_1, .int .i64 p1_2, .int .i64 p1_3, .int .i64 p1_4, .slice a_p1_5 q_p1_5 c_p1_5])]) ⟨rfl, rfl, trivial⟩ ?_
  obtain rfl := SlR.qlen h_p0_5
  obtain rfl := SlR.qlen h_p1_5
  refine WK.sub (e' := [(0, .agg #[.int .i64 p0_0, .int .i64 p0_1, .int .i64 p0_2, .int .i64 p0_3, .int .i64 p0_4, .slice a_p0_5 p0_5.length c_p0_5]), (1, .agg #[.int .i64 p1_0, .int .i64 p1_1, .int .i64 p1_2, .int .i64 p1_3, .int .i64 p1_4, .slice a_p1_5 p1_5.length c_p1_5])]) ⟨rfl, rfl, trivial⟩ ?_
  unfold fiduciallaw48_same at hm
  refine WK_seq ?_
  refine WK_region ?_
  refine WO_box [.int .i64 p0_0, .int .i64 p0_1, .int .i64 p0_2, .int .i64 p0_3, .int .i64 p0_4, .slice a_p0_5 p0_5.length c_p0_5] rfl rfl trivial rfl rfl rfl (fun b1 => ?_)
  refine WO.cls (C' := St w0 m m [[⟨b1, 25, [.int .i64 p0_0, .int .i64 p0_1, .int .i64 p0_2, .int .i64 p0_3, .int .i64 p0_4, .slice a_p0_5 p0_5.length c_p0_5]⟩]]) (fun _ h => h) ?_
  refine WO_box [.int .i64 p1_0, .int .i64 p1_1, .int .i64 p1_2, .int .i64 p1_3, .int .i64 p1_4, .slice a_p1_5 p1_5.length c_p1_5] rfl rfl trivial rfl rfl rfl (fun b2 => ?_)
  refine WO.cls (C' := St w0 m m [[⟨b1, 25, [.int .i64 p0_0, .int .i64 p0_1, .int .i64 p0_2, .int .i64 p0_3, .int .i64 p0_4, .slice a_p0_5 p0_5.length c_p0_5]⟩], [⟨b2, 25, [.int .i64 p1_0, .int .i64 p1_1, .int .i64 p1_2, .int .i64 p1_3, .int .i64 p1_4, .slice a_p1_5 p1_5.length c_p1_5]⟩]]) (fun _ h => h) ?_
  refine WO_pure tbok 1 [(2, .pointer (some ⟨b1, 0, none⟩)), (3, .pointer (some ⟨b2, 0, none⟩)), (4, .bool false)] rfl ⟨rfl, rfl, rfl, trivial⟩ ?_
  refine WO_end ?_
  refine WK_seq ?_
  refine WK_region ?_
  refine WO_pure tbok 1 [(2, .pointer (some ⟨b1, 0, none⟩)), (3, .pointer (some ⟨b2, 0, none⟩)), (4, .bool false), (5, .pointer (some ⟨b1, 0, none⟩))] rfl ⟨rfl, rfl, rfl, rfl, trivial⟩ ?_
  refine WO_loadB tbok 0 rfl rfl rfl rfl (fun _ h => h) rfl rfl ?_
  refine WO_pure tbok 1 [(2, .pointer (some ⟨b1, 0, none⟩)), (3, .pointer (some ⟨b2, 0, none⟩)), (4, .bool false), (6, .int .i64 p0_0), (7, .pointer (some ⟨b2, 0, none⟩))] rfl ⟨rfl, rfl, rfl, rfl, rfl, trivial⟩ ?_
  refine WO_loadB tbok 1 rfl rfl rfl rfl (fun _ h => h) rfl rfl ?_
  refine WO_pure tbok 2 [(2, .pointer (some ⟨b1, 0, none⟩)), (3, .pointer (some ⟨b2, 0, none⟩)), (4, .bool false), (10, .bool (p0_0 == p1_0))] rfl ⟨rfl, rfl, rfl, rfl, trivial⟩ ?_
  refine WO_split (d := 10) (b := p0_0 == p1_0) rfl (fun hb3 => ?_) (fun hb3 => ?_)
  · have hm := ifT hb3 hm
    refine WO_pure tbok 1 [(2, .pointer (some ⟨b1, 0, none⟩)), (3, .pointer (some ⟨b2, 0, none⟩)), (4, .bool false), (10, .bool true), (11, .pointer (some ⟨b1, 1, none⟩))] rfl ⟨rfl, rfl, rfl, rfl, rfl, trivial⟩ ?_
    refine WO_loadB tbok 0 rfl rfl rfl rfl (fun _ h => h) rfl rfl ?_
    refine WO_pure tbok 1 [(2, .pointer (some ⟨b1, 0, none⟩)), (3, .pointer (some ⟨b2, 0, none⟩)), (4, .bool false), (10, .bool true), (12, .int .i64 p0_1), (13, .pointer (some ⟨b2, 1, none⟩))] rfl ⟨rfl, rfl, rfl, rfl, rfl, rfl, trivial⟩ ?_
    refine WO_loadB tbok 1 rfl rfl rfl rfl (fun _ h => h) rfl rfl ?_
    refine WO_pure tbok 3 [(2, .pointer (some ⟨b1, 0, none⟩)), (3, .pointer (some ⟨b2, 0, none⟩)), (4, .bool false), (17, .bool (p0_1 == p1_1))] rfl ⟨rfl, rfl, rfl, rfl, trivial⟩ ?_
    refine WO_split (d := 17) (b := p0_1 == p1_1) rfl (fun hb4 => ?_) (fun hb4 => ?_)
    · have hm := ifT hb4 hm
      refine WO_pure tbok 1 [(2, .pointer (some ⟨b1, 0, none⟩)), (3, .pointer (some ⟨b2, 0, none⟩)), (4, .bool false), (17, .bool true), (18, .pointer (some ⟨b1, 2, none⟩))] rfl ⟨rfl, rfl, rfl, rfl, rfl, trivial⟩ ?_
      refine WO_loadB tbok 0 rfl rfl rfl rfl (fun _ h => h) rfl rfl ?_
      refine WO_pure tbok 1 [(2, .pointer (some ⟨b1, 0, none⟩)), (3, .pointer (some ⟨b2, 0, none⟩)), (4, .bool false), (17, .bool true), (19, .int .i64 p0_2), (20, .pointer (some ⟨b2, 2, none⟩))] rfl ⟨rfl, rfl, rfl, rfl, rfl, rfl, trivial⟩ ?_
      refine WO_loadB tbok 1 rfl rfl rfl rfl (fun _ h => h) rfl rfl ?_
      refine WO_pure tbok 3 [(2, .pointer (some ⟨b1, 0, none⟩)), (3, .pointer (some ⟨b2, 0, none⟩)), (4, .bool false), (24, .bool (p0_2 == p1_2))] rfl ⟨rfl, rfl, rfl, rfl, trivial⟩ ?_
      refine WO_split (d := 24) (b := p0_2 == p1_2) rfl (fun hb5 => ?_) (fun hb5 => ?_)
      · have hm := ifT hb5 hm
        refine WO_pure tbok 1 [(2, .pointer (some ⟨b1, 0, none⟩)), (3, .pointer (some ⟨b2, 0, none⟩)), (4, .bool false), (24, .bool true), (25, .pointer (some ⟨b1, 3, none⟩))] rfl ⟨rfl, rfl, rfl, rfl, rfl, trivial⟩ ?_
        refine WO_loadB tbok 0 rfl rfl rfl rfl (fun _ h => h) rfl rfl ?_
        refine WO_pure tbok 1 [(2, .pointer (some ⟨b1, 0, none⟩)), (3, .pointer (some ⟨b2, 0, none⟩)), (4, .bool false), (24, .bool true), (26, .int .i64 p0_3), (27, .pointer (some ⟨b2, 3, none⟩))] rfl ⟨rfl, rfl, rfl, rfl, rfl, rfl, trivial⟩ ?_
        refine WO_loadB tbok 1 rfl rfl rfl rfl (fun _ h => h) rfl rfl ?_
        refine WO_pure tbok 3 [(2, .pointer (some ⟨b1, 0, none⟩)), (3, .pointer (some ⟨b2, 0, none⟩)), (4, .bool false), (31, .bool (p0_3 == p1_3))] rfl ⟨rfl, rfl, rfl, rfl, trivial⟩ ?_
        refine WO_split (d := 31) (b := p0_3 == p1_3) rfl (fun hb6 => ?_) (fun hb6 => ?_)
        · have hm := ifT hb6 hm
          refine WO_pure tbok 1 [(2, .pointer (some ⟨b1, 0, none⟩)), (3, .pointer (some ⟨b2, 0, none⟩)), (4, .bool false), (31, .bool true), (32, .pointer (some ⟨b1, 4, none⟩))] rfl ⟨rfl, rfl, rfl, rfl, rfl, trivial⟩ ?_
          refine WO_loadB tbok 0 rfl rfl rfl rfl (fun _ h => h) rfl rfl ?_
          refine WO_pure tbok 1 [(2, .pointer (some ⟨b1, 0, none⟩)), (3, .pointer (some ⟨b2, 0, none⟩)), (4, .bool false), (31, .bool true), (33, .int .i64 p0_4), (34, .pointer (some ⟨b2, 4, none⟩))] rfl ⟨rfl, rfl, rfl, rfl, rfl, rfl, trivial⟩ ?_
          refine WO_loadB tbok 1 rfl rfl rfl rfl (fun _ h => h) rfl rfl ?_
          refine WO_pure tbok 3 [(2, .pointer (some ⟨b1, 0, none⟩)), (3, .pointer (some ⟨b2, 0, none⟩)), (4, .bool false), (38, .bool (p0_4 == p1_4))] rfl ⟨rfl, rfl, rfl, rfl, trivial⟩ ?_
          refine WO_split (d := 38) (b := p0_4 == p1_4) rfl (fun hb7 => ?_) (fun hb7 => ?_)
          · have hm := ifT hb7 hm
            refine WO_pure tbok 1 [(3, .pointer (some ⟨b2, 0, none⟩)), (4, .bool false), (38, .bool true), (39, .pointer (some ⟨b1, 5, none⟩))] rfl ⟨rfl, rfl, rfl, rfl, trivial⟩ ?_
            refine WO_loadB tbok 0 rfl rfl rfl rfl (fun _ h => h) rfl rfl ?_
            refine WO_pure tbok 1 [(4, .bool false), (38, .bool true), (40, .slice a_p0_5 p0_5.length c_p0_5), (41, .pointer (some ⟨b2, 5, none⟩))] rfl ⟨rfl, rfl, rfl, rfl, trivial⟩ ?_
            refine WO_loadB tbok 1 rfl rfl rfl rfl (fun _ h => h) rfl rfl ?_
            obtain ⟨y_1, hc8, hm⟩ := bind_some hm
            refine WO_call0 (.bool y_1) rfl rfl trivial rfl rfl rfl rfl St_closed ⟨38, #[], #[], rfl, callable_38, fun w hw => ⟨_, hw.sat, slices_Equal_sint_walk h_p0_5 h_p1_5 hc8⟩⟩ ?_
            refine WO_pure tbok 2 [(4, .bool y_1)] rfl ⟨rfl, trivial⟩ ?_
            refine WO_end ?_
            cases hm
            exact WK_ret (ret_out (L := []) (RLc_tmp rfl RLc_nil) (List.nil_sublist _) rfl)
          · have hm := ifF hb7 hm
            refine WO_pure tbok 4 [(4, .bool false), (38, .bool false)] rfl ⟨rfl, rfl, trivial⟩ ?_
            refine WO_skip rfl rfl ?_
            refine WO_pure tbok 2 [(4, .bool false)] rfl ⟨rfl, trivial⟩ ?_
            refine WO_end ?_
            cases hm
            exact WK_ret (ret_out (L := []) (RLc_tmp rfl RLc_nil) (List.nil_sublist _) rfl)
        · have hm := ifF hb6 hm
          refine WO_pure tbok 11 [(4, .bool false), (38, .bool false)] rfl ⟨rfl, rfl, trivial⟩ ?_
          refine WO_skip rfl rfl ?_
          refine WO_pure tbok 2 [(4, .bool false)] rfl ⟨rfl, trivial⟩ ?_
          refine WO_end ?_
          cases hm
          exact WK_ret (ret_out (L := []) (RLc_tmp rfl RLc_nil) (List.nil_sublist _) rfl)
      · have hm := ifF hb5 hm
        refine WO_pure tbok 18 [(4, .bool false), (38, .bool false)] rfl ⟨rfl, rfl, trivial⟩ ?_
        refine WO_skip rfl rfl ?_
        refine WO_pure tbok 2 [(4, .bool false)] rfl ⟨rfl, trivial⟩ ?_
        refine WO_end ?_
        cases hm
        exact WK_ret (ret_out (L := []) (RLc_tmp rfl RLc_nil) (List.nil_sublist _) rfl)
    · have hm := ifF hb4 hm
      refine WO_pure tbok 25 [(4, .bool false), (38, .bool false)] rfl ⟨rfl, rfl, trivial⟩ ?_
      refine WO_skip rfl rfl ?_
      refine WO_pure tbok 2 [(4, .bool false)] rfl ⟨rfl, trivial⟩ ?_
      refine WO_end ?_
      cases hm
      exact WK_ret (ret_out (L := []) (RLc_tmp rfl RLc_nil) (List.nil_sublist _) rfl)
  · have hm := ifF hb3 hm
    refine WO_pure tbok 32 [(4, .bool false), (38, .bool false)] rfl ⟨rfl, rfl, trivial⟩ ?_
    refine WO_skip rfl rfl ?_
    refine WO_pure tbok 2 [(4, .bool false)] rfl ⟨rfl, trivial⟩ ?_
    refine WO_end ?_
    cases hm
    exact WK_ret (ret_out (L := []) (RLc_tmp rfl RLc_nil) (List.nil_sublist _) rfl)
theorem fiduciallaw48_TerrainSurface_walk {m : Mu} {p0 : List (Int × Int × Int)} {p1_0 : Int} {p1_1 : Int} {p1_2 : Int} {p1_3 : Int} {p1_4 : Int} {p1_5 : List Int} {a_p0 : Option Addr} {q_p0 c_p0 : Nat} {a_p1_5 : Option Addr} {q_p1_5 c_p1_5 : Nat} (h_p0 : SlR (FE T3) 3 m (.slice a_p0 q_p0 c_p0) p0) (h_p1_5 : SlR (FE (I1 .i64)) 1 m (.slice a_p1_5 q_p1_5 c_p1_5) p1_5) {r : Bool} (hm : fiduciallaw48_TerrainSurface p0 p1_0 p1_1 p1_2 p1_3 p1_4 p1_5 = some r) :
    Go.E.Spec Try.prog 3 [.slice a_p0 q_p0 c_p0, .agg #[.int .i64 p1_0, .int .i64 p1_1, .int .i64 p1_2, .int .i64 p1_3, .int .i64 p1_4, .slice a_p1_5 q_p1_5 c_p1_5]] m (fun v _ _ => v = .bool r) := by
  refine Spec_enter Try.func3 rfl rfl rfl (fun w0 => ?_)
  refine WK.sub (e' := [(0, .slice a_p0 q_p0 c_p0), (1, .agg #[.int .i64 p1_0, .int .i64 p1_1, .int .i64 p1_2, .int .i64 p1_3, .int .i64 p1_4, .slice a_p1_5 q_p1_5 c_p1_5])]) ⟨rfl, rfl, trivial⟩ ?_
  obtain rfl := SlR.qlen h_p0
  obtain rfl := SlR.qlen h_p1_5
  refine WK.sub (e' := [(0, .slice a_p0 p0.length c_p0), (1, .agg #[.int .i64 p1_0, .int .i64 p1_1, .int .i64 p1_2, .int .i64 p1_3, .int .i64 p1_4, .slice a_p1_5 p1_5.length c_p1_5])]) ⟨rfl, rfl, trivial⟩ ?_
  unfold fiduciallaw48_TerrainSurface at hm
  refine WK_seq ?_
  refine WK_region ?_
  refine WO_box [.int .i64 p1_0, .int .i64 p1_1, .int .i64 p1_2, .int .i64 p1_3, .int .i64 p1_4, .slice a_p1_5 p1_5.length c_p1_5] rfl rfl trivial rfl rfl rfl (fun b1 => ?_)
  refine WO.cls (C' := St w0 m m [[⟨b1, 25, [.int .i64 p1_0, .int .i64 p1_1, .int .i64 p1_2, .int .i64 p1_3, .int .i64 p1_4, .slice a_p1_5 p1_5.length c_p1_5]⟩]]) (fun _ h => h) ?_
  refine WO_pure tbok 1 [(0, .slice a_p0 p0.length c_p0), (3, .pointer (some ⟨b1, 0, none⟩)), (4, .bool false)] rfl ⟨rfl, rfl, rfl, trivial⟩ ?_
  refine WO_end ?_
  refine WK_seq ?_
  refine WK_seq ?_
  refine WK_region ?_
  obtain ⟨y_1, hc2, hm⟩ := bind_some hm
  refine WO_call0 (.bool y_1) rfl rfl trivial rfl rfl rfl rfl St_closed ⟨11, #[], #[], rfl, callable_11, fun w hw => ⟨_, hw.sat, fiduciallaw48_known_walk hc2⟩⟩ ?_
  refine WO_pure tbok 1 [(0, .slice a_p0 p0.length c_p0), (3, .pointer (some ⟨b1, 0, none⟩)), (4, .bool false), (10, .bool (!y_1))] rfl ⟨rfl, rfl, rfl, rfl, trivial⟩ ?_
  refine WO_end ?_
  refine WK_cond (b := !y_1) rfl (fun hb3 => ?_) (fun hb3 => ?_)
  · have hm := ifT hb3 hm
    refine WK_seq ?_
    refine WK_region ?_
    refine WO_pure tbok 1 [(0, .slice a_p0 p0.length c_p0), (3, .pointer (some ⟨b1, 0, none⟩)), (4, .bool false)] rfl ⟨rfl, rfl, rfl, trivial⟩ ?_
    refine WO_end ?_
    cases hm
    exact WK_ret (ret_out (L := []) (RLc_tmp rfl RLc_nil) (List.nil_sublist _) rfl)
  · have hm := ifF hb3 hm
    refine WK_skip ?_
    refine WK_seq ?_
    refine WK_seq ?_
    obtain ⟨s_2, hx4, hm⟩ := bind_some hm
    refine WK_meet [(0, .slice a_p0 p0.length c_p0), (3, .pointer (some ⟨b1, 0, none⟩)), (4, .bool false), (18, .bool s_2)] (St w0 m m [[⟨b1, 25, [.int .i64 p1_0, .int .i64 p1_1, .int .i64 p1_2, .int .i64 p1_3, .int .i64 p1_4, .slice a_p1_5 p1_5.length c_p1_5]⟩]]) ?_ (fun hk5 => ?_)
    · refine WK_cond (b := s_2) rfl (fun hb6 => ?_) (fun hb6 => ?_)
      · have hm := ifT hb6 hm
        refine WK_seq ?_
        refine WK_region ?_
        refine WO_pure tbok 1 [(0, .slice a_p0 p0.length c_p0), (3, .pointer (some ⟨b1, 0, none⟩)), (4, .bool true)] rfl ⟨rfl, rfl, rfl, trivial⟩ ?_
        refine WO_end ?_
        cases hm
        exact WK_ret (ret_out (L := []) (RLc_tmp rfl RLc_nil) (List.nil_sublist _) rfl)
      · have hm := ifF hb6 hm
        refine WK_skip ?_
        refine WK_seq ?_
        refine WK_region ?_
        refine WO_pure tbok 1 [(0, .slice a_p0 p0.length c_p0), (3, .pointer (some ⟨b1, 0, none⟩)), (4, .bool false), (20, .slice a_p0 p0.length c_p0)] rfl ⟨rfl, rfl, rfl, rfl, trivial⟩ ?_
        refine WO_loadB tbok 0 rfl rfl rfl rfl (fun _ h => h) rfl rfl ?_
        obtain ⟨⟨y_3, y_4, y_5, y_6, y_7, y_8, y_9⟩, hc7, hm⟩ := bind_some hm
        refine WO_call2 (terrain_Surface_Q (y_3, y_4, y_5, y_6, y_7, y_8, y_9)) rfl rfl trivial rfl rfl rfl rfl ⟨13, #[], #[], rfl, callable_13, terrain_Surface_walk h_p0 h_p1_5 hc7⟩ (fun v11 m12 L10 hle13 hq => ?_)
        obtain ⟨a8, qa8, c9, rfl, h14⟩ := hq
        obtain rfl := SlR.qlen h14
        refine WO.cls (C' := St w0 m m12 [[⟨b1, 25, [.int .i64 p1_0, .int .i64 p1_1, .int .i64 p1_2, .int .i64 p1_3, .int .i64 p1_4, .slice a_p1_5 p1_5.length c_p1_5]⟩], L10]) (fun _ h => h.sub (by simp)) ?_
        refine WO_pure tbok 3 [(0, .slice a_p0 p0.length c_p0), (3, .pointer (some ⟨b1, 0, none⟩)), (4, .bool false), (23, .agg #[.int .i64 y_3, .int .i64 y_4, .int .i64 y_5, .int .i64 y_6, .int .i64 y_7, .slice a8 ((y_8).length) c9]), (24, .int .i64 y_9)] rfl ⟨rfl, rfl, rfl, rfl, rfl, trivial⟩ ?_
        refine WO_alloc tbok [.int .i64 0, .int .i64 0, .int .i64 0, .int .i64 0, .int .i64 0, .slice none 0 0] rfl rfl trivial rfl rfl rfl rfl (fun b15 => ?_)
        refine WO.cls (C' := St w0 m m12 [[⟨b1, 25, [.int .i64 p1_0, .int .i64 p1_1, .int .i64 p1_2, .int .i64 p1_3, .int .i64 p1_4, .slice a_p1_5 p1_5.length c_p1_5]⟩], L10, [⟨b15, 25, [.int .i64 0, .int .i64 0, .int .i64 0, .int .i64 0, .int .i64 0, .slice none 0 0]⟩]]) (fun _ h => h) ?_
        refine WO_storeB tbok 2 [.int .i64 y_3, .int .i64 y_4, .int .i64 y_5, .int .i64 y_6, .int .i64 y_7, .slice a8 ((y_8).length) c9] rfl rfl rfl rfl rfl rfl rfl ?_
        refine WO.cls (C' := St w0 m m12 [[⟨b1, 25, [.int .i64 p1_0, .int .i64 p1_1, .int .i64 p1_2, .int .i64 p1_3, .int .i64 p1_4, .slice a_p1_5 p1_5.length c_p1_5]⟩], L10, [⟨b15, 25, [.int .i64 y_3, .int .i64 y_4, .int .i64 y_5, .int .i64 y_6, .int .i64 y_7, .slice a8 ((y_8).length) c9]⟩]]) (fun _ h => h) ?_
        refine WO_pure tbok 1 [(0, .slice a_p0 p0.length c_p0), (3, .pointer (some ⟨b1, 0, none⟩)), (4, .bool false), (5, .pointer (some ⟨b15, 0, none⟩)), (6, .int .i64 y_9)] rfl ⟨rfl, rfl, rfl, rfl, rfl, trivial⟩ ?_
        refine WO_end ?_
        refine WK_seq ?_
        refine WK_region ?_
        refine WO_pure tbok 1 [(3, .pointer (some ⟨b1, 0, none⟩)), (4, .bool false), (5, .pointer (some ⟨b15, 0, none⟩)), (6, .int .i64 y_9), (26, .slice a_p0 p0.length c_p0)] rfl ⟨rfl, rfl, rfl, rfl, rfl, trivial⟩ ?_
        refine WO_loadB tbok 0 rfl rfl rfl rfl (fun _ h => h) rfl rfl ?_
        obtain ⟨⟨y_10, y_11, y_12, y_13, y_14, y_15, y_16⟩, hc16, hm⟩ := bind_some hm
        refine WO_call2 (fiduciallaw48_surface_Q (y_10, y_11, y_12, y_13, y_14, y_15, y_16)) rfl rfl trivial rfl rfl rfl rfl ⟨14, #[], #[], rfl, callable_14, fiduciallaw48_surface_walk (h_p0.mono (mono_FE _) hle13) (h_p1_5.mono (mono_FE _) hle13) hc16⟩ (fun v20 m21 L19 hle22 hq => ?_)
        obtain ⟨a17, qa17, c18, rfl, h23⟩ := hq
        obtain rfl := SlR.qlen h23
        refine WO.cls (C' := St w0 m m21 [[⟨b1, 25, [.int .i64 p1_0, .int .i64 p1_1, .int .i64 p1_2, .int .i64 p1_3, .int .i64 p1_4, .slice a_p1_5 p1_5.length c_p1_5]⟩], L10, [⟨b15, 25, [.int .i64 y_3, .int .i64 y_4, .int .i64 y_5, .int .i64 y_6, .int .i64 y_7, .slice a8 ((y_8).length) c9]⟩], L19]) (fun _ h => h.sub (by simp)) ?_
        refine WO_pure tbok 3 [(3, .pointer (some ⟨b1, 0, none⟩)), (4, .bool false), (5, .pointer (some ⟨b15, 0, none⟩)), (6, .int .i64 y_9), (29, .agg #[.int .i64 y_10, .int .i64 y_11, .int .i64 y_12, .int .i64 y_13, .int .i64 y_14, .slice a17 ((y_15).length) c18]), (30, .int .i64 y_16)] rfl ⟨rfl, rfl, rfl, rfl, rfl, rfl, trivial⟩ ?_
        refine WO_alloc tbok [.int .i64 0, .int .i64 0, .int .i64 0, .int .i64 0, .int .i64 0, .slice none 0 0] rfl rfl trivial rfl rfl rfl rfl (fun b24 => ?_)
        refine WO.cls (C' := St w0 m m21 [[⟨b1, 25, [.int .i64 p1_0, .int .i64 p1_1, .int .i64 p1_2, .int .i64 p1_3, .int .i64 p1_4, .slice a_p1_5 p1_5.length c_p1_5]⟩], L10, [⟨b15, 25, [.int .i64 y_3, .int .i64 y_4, .int .i64 y_5, .int .i64 y_6, .int .i64 y_7, .slice a8 ((y_8).length) c9]⟩], L19, [⟨b24, 25, [.int .i64 0, .int .i64 0, .int .i64 0, .int .i64 0, .int .i64 0, .slice none 0 0]⟩]]) (fun _ h => h) ?_
        refine WO_storeB tbok 4 [.int .i64 y_10, .int .i64 y_11, .int .i64 y_12, .int .i64 y_13, .int .i64 y_14, .slice a17 ((y_15).length) c18] rfl rfl rfl rfl rfl rfl rfl ?_
        refine WO.cls (C' := St w0 m m21 [[⟨b1, 25, [.int .i64 p1_0, .int .i64 p1_1, .int .i64 p1_2, .int .i64 p1_3, .int .i64 p1_4, .slice a_p1_5 p1_5.length c_p1_5]⟩], L10, [⟨b15, 25, [.int .i64 y_3, .int .i64 y_4, .int .i64 y_5, .int .i64 y_6, .int .i64 y_7, .slice a8 ((y_8).length) c9]⟩], L19, [⟨b24, 25, [.int .i64 y_10, .int .i64 y_11, .int .i64 y_12, .int .i64 y_13, .int .i64 y_14, .slice a17 ((y_15).length) c18]⟩]]) (fun _ h => h) ?_
        refine WO_pure tbok 1 [(3, .pointer (some ⟨b1, 0, none⟩)), (4, .bool false), (5, .pointer (some ⟨b15, 0, none⟩)), (6, .int .i64 y_9), (7, .pointer (some ⟨b24, 0, none⟩)), (8, .int .i64 y_16)] rfl ⟨rfl, rfl, rfl, rfl, rfl, rfl, trivial⟩ ?_
        refine WO_end ?_
        refine WK_seq ?_
        refine WK_draw 16 [0, 1, 2, 3, 4, 5, 6, 7, 8, 9, 11, 10, 12, 13, 14, 15] follows_ok (by kernel_rfl) St_closed ?_
        refine WO_pure tbok 4 [(3, .pointer (some ⟨b1, 0, none⟩)), (4, .bool false), (5, .pointer (some ⟨b15, 0, none⟩)), (7, .pointer (some ⟨b24, 0, none⟩)), (34, .bool (y_9 == y_16))] rfl ⟨rfl, rfl, rfl, rfl, rfl, trivial⟩ ?_
        refine WO_split (d := 34) (b := y_9 == y_16) rfl (fun hb25 => ?_) (fun hb25 => ?_)
        · have hm := ifT hb25 hm
          refine WO_loadB tbok 2 rfl rfl rfl rfl (fun _ h => h) rfl rfl ?_
          refine WO_loadB tbok 4 rfl rfl rfl rfl (fun _ h => h) rfl rfl ?_
          obtain ⟨y_17, hc26, hm⟩ := bind_some hm
          refine WO_call0 (.bool y_17) rfl rfl St_closed rfl rfl rfl rfl St_closed ⟨15, #[], #[], rfl, callable_15, fun w hw => ⟨_, hw.sat, fiduciallaw48_same_walk (h14.mono (mono_FE _) hle22) h23 hc26⟩⟩ ?_
          refine WO_pure tbok 2 [(3, .pointer (some ⟨b1, 0, none⟩)), (4, .bool false), (39, .bool y_17)] rfl ⟨rfl, rfl, rfl, trivial⟩ ?_
          refine WO_split (d := 39) (b := y_17) rfl (fun hb27 => ?_) (fun hb27 => ?_)
          · have hm := ifT hb27 hm
            refine WO_loadB tbok 0 rfl rfl rfl rfl (fun _ h => h) rfl rfl ?_
            refine WO_loadB tbok 0 rfl rfl rfl rfl (fun _ h => h) rfl rfl ?_
            obtain ⟨y_18, hc28, hm⟩ := bind_some hm
            refine WO_call0 (.int .i64 y_18) rfl rfl St_closed rfl rfl rfl rfl St_closed ⟨16, #[], #[], rfl, callable_16, fun w hw => ⟨_, hw.sat, terrain_Check_walk ((h_p1_5.mono (mono_FE _) hle13).mono (mono_FE _) hle22) hc28⟩⟩ ?_
            obtain ⟨y_19, hc29, hm⟩ := bind_some hm
            refine WO_call0 (.int .i64 y_19) rfl rfl St_closed rfl rfl rfl rfl St_closed ⟨17, #[], #[], rfl, callable_17, fun w hw => ⟨_, hw.sat, fiduciallaw48_checked_walk ((h_p1_5.mono (mono_FE _) hle13).mono (mono_FE _) hle22) hc29⟩⟩ ?_
            refine WO_pure tbok 3 [(4, .bool (y_18 == y_19))] rfl ⟨rfl, trivial⟩ ?_
            refine WO_tail ?_
            refine WO_end ?_
            cases hm
            exact WK_ret (ret_out (L := []) (RLc_tmp rfl RLc_nil) (List.nil_sublist _) rfl)
          · have hm := ifF hb27 hm
            refine WO_pure tbok 2 [(4, .bool false), (39, .bool false)] rfl ⟨rfl, rfl, trivial⟩ ?_
            refine WO_skip rfl rfl ?_
            refine WO_skip rfl rfl ?_
            refine WO_pure tbok 3 [(4, .bool false)] rfl ⟨rfl, trivial⟩ ?_
            refine WO_tail ?_
            refine WO_end ?_
            cases hm
            exact WK_ret (ret_out (L := []) (RLc_tmp rfl RLc_nil) (List.nil_sublist _) rfl)
        · have hm := ifF hb25 hm
          refine WO_pure tbok 2 [(3, .pointer (some ⟨b1, 0, none⟩)), (4, .bool false), (34, .bool false)] rfl ⟨rfl, rfl, rfl, trivial⟩ ?_
          refine WO_skip rfl rfl ?_
          refine WO_pure tbok 4 [(4, .bool false), (39, .bool false)] rfl ⟨rfl, rfl, trivial⟩ ?_
          refine WO_skip rfl rfl ?_
          refine WO_skip rfl rfl ?_
          refine WO_pure tbok 3 [(4, .bool false)] rfl ⟨rfl, trivial⟩ ?_
          refine WO_tail ?_
          refine WO_end ?_
          cases hm
          exact WK_ret (ret_out (L := []) (RLc_tmp rfl RLc_nil) (List.nil_sublist _) rfl)
    · refine WK_region ?_
      refine WO_pure tbok 4 [(0, .slice a_p0 p0.length c_p0), (3, .pointer (some ⟨b1, 0, none⟩)), (4, .bool false), (14, .bool (decide (40 < (p0.length : Int))))] rfl ⟨rfl, rfl, rfl, rfl, trivial⟩ ?_
      refine WO_split (d := 14) (b := decide (40 < (p0.length : Int))) rfl (fun hb30 => ?_) (fun hb30 => ?_)
      · have hx4 := ifT hb30 hx4
        refine WO_pure tbok 1 [(0, .slice a_p0 p0.length c_p0), (3, .pointer (some ⟨b1, 0, none⟩)), (4, .bool false), (14, .bool true)] rfl ⟨rfl, rfl, rfl, rfl, trivial⟩ ?_
        refine WO_skip rfl rfl ?_
        refine WO_pure tbok 2 [(0, .slice a_p0 p0.length c_p0), (3, .pointer (some ⟨b1, 0, none⟩)), (4, .bool false), (18, .bool true)] rfl ⟨rfl, rfl, rfl, rfl, trivial⟩ ?_
        refine WO_end ?_
        cases hx4
        refine WK.sub ?_ (WK.cls (fun _ h => h) hk5)
        exact ⟨rfl, rfl, rfl, rfl, trivial⟩
      · have hx4 := ifF hb30 hx4
        refine WO_loadB tbok 0 rfl rfl rfl rfl (fun _ h => h) rfl rfl ?_
        obtain ⟨y_20, hc31, hx4⟩ := bind_some hx4
        refine WO_call0 (.bool y_20) rfl rfl trivial rfl rfl rfl rfl St_closed ⟨12, #[], #[], rfl, callable_12, fun w hw => ⟨_, hw.sat, fiduciallaw48_few_walk h_p1_5 hc31⟩⟩ ?_
        refine WO_pure tbok 2 [(0, .slice a_p0 p0.length c_p0), (3, .pointer (some ⟨b1, 0, none⟩)), (4, .bool false), (18, .bool (!y_20))] rfl ⟨rfl, rfl, rfl, rfl, trivial⟩ ?_
        refine WO_end ?_
        cases hx4
        refine WK.sub ?_ (WK.cls (fun _ h => h) hk5)
        exact ⟨rfl, rfl, rfl, rfl, trivial⟩
end Go.Proofs.Ytcaeieofjchpjaa
