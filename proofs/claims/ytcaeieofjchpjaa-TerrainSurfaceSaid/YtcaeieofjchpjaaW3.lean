import Derived.Test.YtcaeieofjchpjaaTab
import Derived.Test.YtcaeieofjchpjaaM
import Derived.Test.YtcaeieofjchpjaaW2
set_option linter.unusedVariables false
set_option maxRecDepth 100000
set_option maxHeartbeats 4000000
namespace Go.Proofs.Ytcaeieofjchpjaa
open Go.E Go.RowKit
attribute [local irreducible] Go.E.WO Go.E.WK
theorem slices_Equal_sint_walk {m : Mu} {p0 : List Int} {p1 : List Int} {a_p0 : Option Addr} {q_p0 c_p0 : Nat} {a_p1 : Option Addr} {q_p1 c_p1 : Nat} (h_p0 : SlR (FE (I1 .i64)) 1 m (.slice a_p0 q_p0 c_p0) p0) (h_p1 : SlR (FE (I1 .i64)) 1 m (.slice a_p1 q_p1 c_p1) p1) {r : Bool} (hm : slices_Equal_sint p0 p1 = some r) :
    Go.E.Spec Try.prog 38 [.slice a_p0 q_p0 c_p0, .slice a_p1 q_p1 c_p1] m (fun v _ _ => v = .bool r) := by
  refine Spec_enter Try.func38 rfl rfl rfl (fun w0 => ?_)
  refine WK.sub (e' := [(0, .slice a_p0 q_p0 c_p0), (1, .slice a_p1 q_p1 c_p1)]) ⟨rfl, rfl, trivial⟩ ?_
  obtain rfl := SlR.qlen h_p0
  obtain rfl := SlR.qlen h_p1
  refine WK.sub (e' := [(0, .slice a_p0 p0.length c_p0), (1, .slice a_p1 p1.length c_p1)]) ⟨rfl, rfl, trivial⟩ ?_
  unfold slices_Equal_sint at hm
  refine WK_seq ?_
  refine WK_region ?_
  refine WO_pure tbok 1 [(0, .slice a_p0 p0.length c_p0), (1, .slice a_p1 p1.length c_p1), (4, .bool false)] rfl ⟨rfl, rfl, rfl, trivial⟩ ?_
  refine WO_end ?_
  refine WK_seq ?_
  refine WK_seq ?_
  refine WK_region ?_
  refine WO_pure tbok 5 [(0, .slice a_p0 p0.length c_p0), (1, .slice a_p1 p1.length c_p1), (4, .bool false), (10, .bool ((p0.length : Int) != (p1.length : Int)))] rfl ⟨rfl, rfl, rfl, rfl, trivial⟩ ?_
  refine WO_end ?_
  refine WK_cond (b := (p0.length : Int) != (p1.length : Int)) rfl (fun hb3 => ?_) (fun hb3 => ?_)
  · have hm := ifT hb3 hm
    refine WK_seq ?_
    refine WK_region ?_
    refine WO_pure tbok 1 [(0, .slice a_p0 p0.length c_p0), (1, .slice a_p1 p1.length c_p1), (4, .bool false)] rfl ⟨rfl, rfl, rfl, trivial⟩ ?_
    refine WO_end ?_
    cases hm
    exact WK_ret (ret_out (L := []) (RLc_tmp rfl RLc_nil) (List.nil_sublist _) rfl)
  · have hm := ifF hb3 hm
    refine WK_skip ?_
    refine WK_seq ?_
    refine WK_seq ?_
    refine WK_region ?_
    refine WO_pure tbok 3 [(0, .slice a_p0 p0.length c_p0), (1, .slice a_p1 p1.length c_p1), (4, .bool false), (12, .int .i64 (p0.length : Int)), (13, .int .i64 0)] rfl ⟨rfl, rfl, rfl, rfl, rfl, trivial⟩ ?_
    refine WO_end ?_
    obtain ⟨x4, hx5, hm⟩ := bind_some hm
    refine WK_join (β := Unit × Unit) (fun p => Sum.inr p.1 = x4) (fun p => [(4, .bool false)]) (fun p => St w0 m m []) ?_ (fun hk6 => ?_)
    · rintro ⟨⟨⟩, ⟨⟩⟩ hq12
      subst hq12
      refine WK.sub (e' := [(4, .bool false)]) ⟨rfl, trivial⟩ (WK.cls (C' := St w0 m m []) (fun _ h => h) ?_)
      refine WK_seq ?_
      refine WK_region ?_
      refine WO_pure tbok 1 [(4, .bool true)] rfl ⟨rfl, trivial⟩ ?_
      refine WO_end ?_
      cases hm
      exact WK_ret (ret_out (L := []) (RLc_tmp rfl RLc_nil) (List.nil_sublist _) rfl)
    · refine WK_block ?_
      refine WK_loop (S := Int) (G := Unit) (fun s => slices_Equal_sint_s1 p0 p1 s) (fun s g => [(0, .slice a_p0 p0.length c_p0), (1, .slice a_p1 p1.length c_p1), (4, .bool false), (12, .int .i64 (p0.length : Int)), (13, .int .i64 s)]) (fun s g => St w0 m m []) (fun s g => True) FUEL 0 () x4 hx5 trivial ⟨rfl, rfl, rfl, rfl, rfl, trivial⟩ (fun _ h => h) ?_
      rintro s_1 ⟨⟩ o8 fl9 hm7 - hn10 hd11
      have hm7 : slices_Equal_sint_s1 p0 p1 s_1 = some o8 := hm7
      unfold slices_Equal_sint_s1 at hm7
      refine WK.sub (e' := [(0, .slice a_p0 p0.length c_p0), (1, .slice a_p1 p1.length c_p1), (4, .bool false), (12, .int .i64 (p0.length : Int)), (13, .int .i64 s_1)]) ⟨rfl, rfl, rfl, rfl, rfl, trivial⟩ (WK.cls (C' := St w0 m m []) (fun _ h => h) ?_)
      refine WK_seq ?_
      refine WK_region ?_
      refine WO_pure tbok 1 [(0, .slice a_p0 p0.length c_p0), (1, .slice a_p1 p1.length c_p1), (4, .bool false), (12, .int .i64 (p0.length : Int)), (13, .int .i64 s_1), (14, .bool (decide (s_1 < (p0.length : Int))))] rfl ⟨rfl, rfl, rfl, rfl, rfl, rfl, trivial⟩ ?_
      refine WO_end ?_
      refine WK_seq ?_
      refine WK_cond (b := decide (s_1 < (p0.length : Int))) rfl (fun hb13 => ?_) (fun hb13 => ?_)
      · have hm7 := ifT hb13 hm7
        refine WK_skip ?_
        refine WK_seq ?_
        refine WK_block ?_
        refine WK_seq ?_
        refine WK_region ?_
        refine WO_pure tbok 2 [(0, .slice a_p0 p0.length c_p0), (1, .slice a_p1 p1.length c_p1), (4, .bool false), (5, .int .i64 s_1), (12, .int .i64 (p0.length : Int)), (13, .int .i64 s_1)] rfl ⟨rfl, rfl, rfl, rfl, rfl, rfl, trivial⟩ ?_
        refine WO_end ?_
        refine WK_seq ?_
        refine WK_draw 9 [0, 1, 2, 3, 4, 5, 6, 7, 8] follows_ok (by kernel_rfl) St_closed ?_
        refine WO_pure tbok 2 [(0, .slice a_p0 p0.length c_p0), (1, .slice a_p1 p1.length c_p1), (4, .bool false), (5, .int .i64 s_1), (12, .int .i64 (p0.length : Int)), (13, .int .i64 s_1), (16, .slice a_p0 p0.length c_p0), (17, .int .i64 s_1)] rfl ⟨rfl, rfl, rfl, rfl, rfl, rfl, rfl, rfl, trivial⟩ ?_
        obtain ⟨v_2, hy14, hm7⟩ := bind_some hm7
        obtain ⟨hc15, hy14⟩ := ix_some hy14
        refine WO_index tbok rfl rfl rfl rfl rfl rfl rfl rfl (SlR.addr h_p0) hc15 ?_
        refine WO_loadE tbok rfl rfl rfl rfl (fun _ h => St.sat h) h_p0 hy14 rfl ?_
        refine WO_pure tbok 2 [(0, .slice a_p0 p0.length c_p0), (1, .slice a_p1 p1.length c_p1), (4, .bool false), (12, .int .i64 (p0.length : Int)), (13, .int .i64 s_1), (19, .int .i64 v_2), (20, .slice a_p1 p1.length c_p1), (21, .int .i64 s_1)] rfl ⟨rfl, rfl, rfl, rfl, rfl, rfl, rfl, rfl, trivial⟩ ?_
        obtain ⟨v_3, hy16, hm7⟩ := bind_some hm7
        obtain ⟨hc17, hy16⟩ := ix_some hy16
        refine WO_index tbok rfl rfl rfl rfl rfl rfl rfl rfl (SlR.addr h_p1) hc17 ?_
        refine WO_loadE tbok rfl rfl rfl rfl (fun _ h => St.sat h) h_p1 hy16 rfl ?_
        refine WO_pure tbok 1 [(0, .slice a_p0 p0.length c_p0), (1, .slice a_p1 p1.length c_p1), (4, .bool false), (12, .int .i64 (p0.length : Int)), (13, .int .i64 s_1), (24, .bool (v_2 != v_3))] rfl ⟨rfl, rfl, rfl, rfl, rfl, rfl, trivial⟩ ?_
        refine WO_tail ?_
        refine WO_end ?_
        refine WK_cond (b := v_2 != v_3) rfl (fun hb18 => ?_) (fun hb18 => ?_)
        · have hm7 := ifT hb18 hm7
          refine WK_seq ?_
          refine WK_region ?_
          refine WO_pure tbok 1 [(0, .slice a_p0 p0.length c_p0), (1, .slice a_p1 p1.length c_p1), (4, .bool false), (12, .int .i64 (p0.length : Int)), (13, .int .i64 s_1)] rfl ⟨rfl, rfl, rfl, rfl, rfl, trivial⟩ ?_
          refine WO_end ?_
          cases hm7
          have hq := hd11 _ rfl
          subst hq
          have hm : some _ = some _ := hm
          cases hm
          exact WK_ret (ret_out (L := []) (RLc_tmp rfl RLc_nil) (List.nil_sublist _) rfl)
        · have hm7 := ifF hb18 hm7
          refine WK_skip ?_
          refine WK_blk ?_
          refine WK_region ?_
          refine WO_pure tbok 2 [(0, .slice a_p0 p0.length c_p0), (1, .slice a_p1 p1.length c_p1), (4, .bool false), (12, .int .i64 (p0.length : Int)), (13, .int .i64 (w64 (s_1 + 1)))] rfl ⟨rfl, rfl, rfl, rfl, rfl, trivial⟩ ?_
          refine WO_end ?_
          cases hm7
          refine WK.sub ?_ (WK.cls (fun _ h => h) (hn10 _ () rfl trivial))
          exact ⟨rfl, rfl, rfl, rfl, rfl, trivial⟩
      · have hm7 := ifF hb13 hm7
        refine WK_exit rfl ?_
        cases hm7
        refine WK.sub ?_ (WK.cls (fun _ h => h) (hk6 ((), ()) (hd11 _ rfl)))
        exact ⟨rfl, trivial⟩
theorem slices_Equal_sbool_walk {m : Mu} {p0 : List Bool} {p1 : List Bool} {a_p0 : Option Addr} {q_p0 c_p0 : Nat} {a_p1 : Option Addr} {q_p1 c_p1 : Nat} (h_p0 : SlR (FE B1) 1 m (.slice a_p0 q_p0 c_p0) p0) (h_p1 : SlR (FE B1) 1 m (.slice a_p1 q_p1 c_p1) p1) {r : Bool} (hm : slices_Equal_sbool p0 p1 = some r) :
    Go.E.Spec Try.prog 20 [.slice a_p0 q_p0 c_p0, .slice a_p1 q_p1 c_p1] m (fun v _ _ => v = .bool r) := by
  refine Spec_enter Try.func20 rfl rfl rfl (fun w0 => ?_)
  refine WK.sub (e' := [(0, .slice a_p0 q_p0 c_p0), (1, .slice a_p1 q_p1 c_p1)]) ⟨rfl, rfl, trivial⟩ ?_
  obtain rfl := SlR.qlen h_p0
  obtain rfl := SlR.qlen h_p1
  refine WK.sub (e' := [(0, .slice a_p0 p0.length c_p0), (1, .slice a_p1 p1.length c_p1)]) ⟨rfl, rfl, trivial⟩ ?_
  unfold slices_Equal_sbool at hm
  refine WK_seq ?_
  refine WK_region ?_
  refine WO_pure tbok 1 [(0, .slice a_p0 p0.length c_p0), (1, .slice a_p1 p1.length c_p1), (4, .bool false)] rfl ⟨rfl, rfl, rfl, trivial⟩ ?_
  refine WO_end ?_
  refine WK_seq ?_
  refine WK_seq ?_
  refine WK_region ?_
  refine WO_pure tbok 5 [(0, .slice a_p0 p0.length c_p0), (1, .slice a_p1 p1.length c_p1), (4, .bool false), (10, .bool ((p0.length : Int) != (p1.length : Int)))] rfl ⟨rfl, rfl, rfl, rfl, trivial⟩ ?_
  refine WO_end ?_
  refine WK_cond (b := (p0.length : Int) != (p1.length : Int)) rfl (fun hb3 => ?_) (fun hb3 => ?_)
  · have hm := ifT hb3 hm
    refine WK_seq ?_
    refine WK_region ?_
    refine WO_pure tbok 1 [(0, .slice a_p0 p0.length c_p0), (1, .slice a_p1 p1.length c_p1), (4, .bool false)] rfl ⟨rfl, rfl, rfl, trivial⟩ ?_
    refine WO_end ?_
    cases hm
    exact WK_ret (ret_out (L := []) (RLc_tmp rfl RLc_nil) (List.nil_sublist _) rfl)
  · have hm := ifF hb3 hm
    refine WK_skip ?_
    refine WK_seq ?_
    refine WK_seq ?_
    refine WK_region ?_
    refine WO_pure tbok 3 [(0, .slice a_p0 p0.length c_p0), (1, .slice a_p1 p1.length c_p1), (4, .bool false), (12, .int .i64 (p0.length : Int)), (13, .int .i64 0)] rfl ⟨rfl, rfl, rfl, rfl, rfl, trivial⟩ ?_
    refine WO_end ?_
    obtain ⟨x4, hx5, hm⟩ := bind_some hm
    refine WK_join (β := Unit × Unit) (fun p => Sum.inr p.1 = x4) (fun p => [(4, .bool false)]) (fun p => St w0 m m []) ?_ (fun hk6 => ?_)
    · rintro ⟨⟨⟩, ⟨⟩⟩ hq12
      subst hq12
      refine WK.sub (e' := [(4, .bool false)]) ⟨rfl, trivial⟩ (WK.cls (C' := St w0 m m []) (fun _ h => h) ?_)
      refine WK_seq ?_
      refine WK_region ?_
      refine WO_pure tbok 1 [(4, .bool true)] rfl ⟨rfl, trivial⟩ ?_
      refine WO_end ?_
      cases hm
      exact WK_ret (ret_out (L := []) (RLc_tmp rfl RLc_nil) (List.nil_sublist _) rfl)
    · refine WK_block ?_
      refine WK_loop (S := Int) (G := Unit) (fun s => slices_Equal_sbool_s1 p0 p1 s) (fun s g => [(0, .slice a_p0 p0.length c_p0), (1, .slice a_p1 p1.length c_p1), (4, .bool false), (12, .int .i64 (p0.length : Int)), (13, .int .i64 s)]) (fun s g => St w0 m m []) (fun s g => True) FUEL 0 () x4 hx5 trivial ⟨rfl, rfl, rfl, rfl, rfl, trivial⟩ (fun _ h => h) ?_
      rintro s_1 ⟨⟩ o8 fl9 hm7 - hn10 hd11
      have hm7 : slices_Equal_sbool_s1 p0 p1 s_1 = some o8 := hm7
      unfold slices_Equal_sbool_s1 at hm7
      refine WK.sub (e' := [(0, .slice a_p0 p0.length c_p0), (1, .slice a_p1 p1.length c_p1), (4, .bool false), (12, .int .i64 (p0.length : Int)), (13, .int .i64 s_1)]) ⟨rfl, rfl, rfl, rfl, rfl, trivial⟩ (WK.cls (C' := St w0 m m []) (fun _ h => h) ?_)
      refine WK_seq ?_
      refine WK_region ?_
      refine WO_pure tbok 1 [(0, .slice a_p0 p0.length c_p0), (1, .slice a_p1 p1.length c_p1), (4, .bool false), (12, .int .i64 (p0.length : Int)), (13, .int .i64 s_1), (14, .bool (decide (s_1 < (p0.length : Int))))] rfl ⟨rfl, rfl, rfl, rfl, rfl, rfl, trivial⟩ ?_
      refine WO_end ?_
      refine WK_seq ?_
      refine WK_cond (b := decide (s_1 < (p0.length : Int))) rfl (fun hb13 => ?_) (fun hb13 => ?_)
      · have hm7 := ifT hb13 hm7
        refine WK_skip ?_
        refine WK_seq ?_
        refine WK_block ?_
        refine WK_seq ?_
        refine WK_region ?_
        refine WO_pure tbok 2 [(0, .slice a_p0 p0.length c_p0), (1, .slice a_p1 p1.length c_p1), (4, .bool false), (5, .int .i64 s_1), (12, .int .i64 (p0.length : Int)), (13, .int .i64 s_1)] rfl ⟨rfl, rfl, rfl, rfl, rfl, rfl, trivial⟩ ?_
        refine WO_end ?_
        refine WK_seq ?_
        refine WK_draw 9 [0, 1, 2, 3, 4, 5, 6, 7, 8] follows_ok (by kernel_rfl) St_closed ?_
        refine WO_pure tbok 2 [(0, .slice a_p0 p0.length c_p0), (1, .slice a_p1 p1.length c_p1), (4, .bool false), (5, .int .i64 s_1), (12, .int .i64 (p0.length : Int)), (13, .int .i64 s_1), (16, .slice a_p0 p0.length c_p0), (17, .int .i64 s_1)] rfl ⟨rfl, rfl, rfl, rfl, rfl, rfl, rfl, rfl, trivial⟩ ?_
        obtain ⟨v_2, hy14, hm7⟩ := bind_some hm7
        obtain ⟨hc15, hy14⟩ := ix_some hy14
        refine WO_index tbok rfl rfl rfl rfl rfl rfl rfl rfl (SlR.addr h_p0) hc15 ?_
        refine WO_loadE tbok rfl rfl rfl rfl (fun _ h => St.sat h) h_p0 hy14 rfl ?_
        refine WO_pure tbok 2 [(0, .slice a_p0 p0.length c_p0), (1, .slice a_p1 p1.length c_p1), (4, .bool false), (12, .int .i64 (p0.length : Int)), (13, .int .i64 s_1), (19, .bool v_2), (20, .slice a_p1 p1.length c_p1), (21, .int .i64 s_1)] rfl ⟨rfl, rfl, rfl, rfl, rfl, rfl, rfl, rfl, trivial⟩ ?_
        obtain ⟨v_3, hy16, hm7⟩ := bind_some hm7
        obtain ⟨hc17, hy16⟩ := ix_some hy16
        refine WO_index tbok rfl rfl rfl rfl rfl rfl rfl rfl (SlR.addr h_p1) hc17 ?_
        refine WO_loadE tbok rfl rfl rfl rfl (fun _ h => St.sat h) h_p1 hy16 rfl ?_
        refine WO_pure tbok 1 [(0, .slice a_p0 p0.length c_p0), (1, .slice a_p1 p1.length c_p1), (4, .bool false), (12, .int .i64 (p0.length : Int)), (13, .int .i64 s_1), (24, .bool (!(v_2 == v_3)))] rfl ⟨rfl, rfl, rfl, rfl, rfl, rfl, trivial⟩ ?_
        refine WO_tail ?_
        refine WO_end ?_
        refine WK_cond (b := !(v_2 == v_3)) rfl (fun hb18 => ?_) (fun hb18 => ?_)
        · have hm7 := ifT hb18 hm7
          refine WK_seq ?_
          refine WK_region ?_
          refine WO_pure tbok 1 [(0, .slice a_p0 p0.length c_p0), (1, .slice a_p1 p1.length c_p1), (4, .bool false), (12, .int .i64 (p0.length : Int)), (13, .int .i64 s_1)] rfl ⟨rfl, rfl, rfl, rfl, rfl, trivial⟩ ?_
          refine WO_end ?_
          cases hm7
          have hq := hd11 _ rfl
          subst hq
          have hm : some _ = some _ := hm
          cases hm
          exact WK_ret (ret_out (L := []) (RLc_tmp rfl RLc_nil) (List.nil_sublist _) rfl)
        · have hm7 := ifF hb18 hm7
          refine WK_skip ?_
          refine WK_blk ?_
          refine WK_region ?_
          refine WO_pure tbok 2 [(0, .slice a_p0 p0.length c_p0), (1, .slice a_p1 p1.length c_p1), (4, .bool false), (12, .int .i64 (p0.length : Int)), (13, .int .i64 (w64 (s_1 + 1)))] rfl ⟨rfl, rfl, rfl, rfl, rfl, trivial⟩ ?_
          refine WO_end ?_
          cases hm7
          refine WK.sub ?_ (WK.cls (fun _ h => h) (hn10 _ () rfl trivial))
          exact ⟨rfl, rfl, rfl, rfl, rfl, trivial⟩
      · have hm7 := ifF hb13 hm7
        refine WK_exit rfl ?_
        cases hm7
        refine WK.sub ?_ (WK.cls (fun _ h => h) (hk6 ((), ()) (hd11 _ rfl)))
        exact ⟨rfl, trivial⟩
theorem fiduciallaw48_known_walk {m : Mu}    {r : Bool} (hm : fiduciallaw48_known = some r) :
    Go.E.Spec Try.prog 11 [] m (fun v _ _ => v = .bool r) := by
  refine Spec_enter Try.func11 rfl rfl rfl (fun w0 => ?_)
  refine WK.sub (e' := []) trivial ?_
  refine WK.sub (e' := []) trivial ?_
  unfold fiduciallaw48_known at hm
  refine WK_seq ?_
  refine WK_region ?_
  refine WO_pure tbok 1 [(0, .bool false)] rfl ⟨rfl, trivial⟩ ?_
  refine WO_end ?_
  refine WK_seq ?_
  refine WK_region ?_
  refine WO_bslice (E := (I1 .i64)) tbok (fun _ => rfl) (by decide) [.int .i64 5, .int .i64 9, .int .i64 5, .int .i64 5, .int .i64 (-2147483648), .int .i64 1] ([5, 9, 5, 5, (-2147483648), 1] : List Int) rfl rfl trivial rfl rfl rfl rfl rfl rfl rfl rfl rfl rfl rfl rfl (fun b1 hb1 => ?_)
  refine WO.cls (C' := St w0 m m [[⟨b1, 3, ([5, 9, 5, 5, (-2147483648), 1] : List Int).flatMap (I1 .i64)⟩]]) (fun _ h => h) ?_
  refine WO_pure tbok 1 [(0, .bool false), (11, .agg #[.int .i64 0, .int .i64 0, .int .i64 10, .int .i64 3, .int .i64 2, .slice (some ⟨b1, 0, none⟩) 6 6])] rfl ⟨rfl, rfl, trivial⟩ ?_
  refine WO_alloc tbok [.int .i64 0, .int .i64 0, .int .i64 0, .int .i64 0, .int .i64 0, .slice none 0 0] rfl rfl trivial rfl rfl rfl rfl (fun b3 => ?_)
  refine WO.cls (C' := St w0 m m [[⟨b1, 3, ([5, 9, 5, 5, (-2147483648), 1] : List Int).flatMap (I1 .i64)⟩], [⟨b3, 25, [.int .i64 0, .int .i64 0, .int .i64 0, .int .i64 0, .int .i64 0, .slice none 0 0]⟩]]) (fun _ h => h) ?_
  refine WO_storeB tbok 1 [.int .i64 0, .int .i64 0, .int .i64 10, .int .i64 3, .int .i64 2, .slice (some ⟨b1, 0, none⟩) 6 6] rfl rfl rfl rfl rfl rfl rfl ?_
  refine WO.cls (C' := St w0 m m [[⟨b1, 3, ([5, 9, 5, 5, (-2147483648), 1] : List Int).flatMap (I1 .i64)⟩], [⟨b3, 25, [.int .i64 0, .int .i64 0, .int .i64 10, .int .i64 3, .int .i64 2, .slice (some ⟨b1, 0, none⟩) 6 6]⟩]]) (fun _ h => h) ?_
  refine WO_end ?_
  refine WK_seq ?_
  refine WK_region ?_
  refine WO_loadB tbok 1 rfl rfl rfl rfl (fun _ h => h) rfl rfl ?_
  refine WO_freeze 0 rfl (fun m4 hle5 hmm6 => ?_)
  refine WO.cls (C' := St w0 m m4 [[], [⟨b3, 25, [.int .i64 0, .int .i64 0, .int .i64 10, .int .i64 3, .int .i64 2, .slice (some ⟨b1, 0, none⟩) 6 6]⟩]]) (fun _ h => h) ?_
  obtain ⟨⟨y_1, y_2, y_3, y_4, y_5, y_6, y_7⟩, hc7, hm⟩ := bind_some hm
  refine WO_call2 (terrain_Open_Q (y_1, y_2, y_3, y_4, y_5, y_6, y_7)) rfl rfl trivial rfl rfl rfl rfl ⟨26, #[], #[], rfl, callable_26, terrain_Open_walk (OwnE.rd (E := (I1 .i64)) (k := 1) (fun _ => rfl) hb1 hmm6) hc7⟩ (fun v12 m13 L11 hle14 hq => ?_)
  obtain ⟨a8, qa8, c9, rfl, h15⟩ := hq
  obtain rfl := SlR.qlen h15
  refine WO.cls (C' := St w0 m m13 [[], [⟨b3, 25, [.int .i64 0, .int .i64 0, .int .i64 10, .int .i64 3, .int .i64 2, .slice (some ⟨b1, 0, none⟩) 6 6]⟩], L11]) (fun _ h => h.sub (by simp)) ?_
  refine WO_pure tbok 3 [(0, .bool false), (1, .pointer (some ⟨b3, 0, none⟩)), (15, .agg #[.int .i64 y_1, .int .i64 y_2, .int .i64 y_3, .int .i64 y_4, .int .i64 y_5, .slice a8 ((y_6).length) c9]), (16, .int .i64 y_7)] rfl ⟨rfl, rfl, rfl, rfl, trivial⟩ ?_
  refine WO_alloc tbok [.int .i64 0, .int .i64 0, .int .i64 0, .int .i64 0, .int .i64 0, .slice none 0 0] rfl rfl trivial rfl rfl rfl rfl (fun b16 => ?_)
  refine WO.cls (C' := St w0 m m13 [[], [⟨b3, 25, [.int .i64 0, .int .i64 0, .int .i64 10, .int .i64 3, .int .i64 2, .slice (some ⟨b1, 0, none⟩) 6 6]⟩], L11, [⟨b16, 25, [.int .i64 0, .int .i64 0, .int .i64 0, .int .i64 0, .int .i64 0, .slice none 0 0]⟩]]) (fun _ h => h) ?_
  refine WO_storeB tbok 3 [.int .i64 y_1, .int .i64 y_2, .int .i64 y_3, .int .i64 y_4, .int .i64 y_5, .slice a8 ((y_6).length) c9] rfl rfl rfl rfl rfl rfl rfl ?_
  refine WO.cls (C' := St w0 m m13 [[], [⟨b3, 25, [.int .i64 0, .int .i64 0, .int .i64 10, .int .i64 3, .int .i64 2, .slice (some ⟨b1, 0, none⟩) 6 6]⟩], L11, [⟨b16, 25, [.int .i64 y_1, .int .i64 y_2, .int .i64 y_3, .int .i64 y_4, .int .i64 y_5, .slice a8 ((y_6).length) c9]⟩]]) (fun _ h => h) ?_
  refine WO_pure tbok 1 [(0, .bool false), (1, .pointer (some ⟨b3, 0, none⟩)), (2, .pointer (some ⟨b16, 0, none⟩)), (3, .int .i64 y_7)] rfl ⟨rfl, rfl, rfl, rfl, trivial⟩ ?_
  refine WO_end ?_
  refine WK_seq ?_
  refine WK_region ?_
  refine WO_loadB tbok 1 rfl rfl rfl rfl (fun _ h => h) rfl rfl ?_
  refine WO_bslice (E := (I1 .i64)) tbok (fun _ => rfl) (by decide) [.int .i64 1] ([1] : List Int) rfl rfl trivial rfl rfl rfl rfl rfl rfl rfl rfl rfl rfl rfl rfl (fun b17 hb17 => ?_)
  refine WO.cls (C' := St w0 m m13 [[], [⟨b3, 25, [.int .i64 0, .int .i64 0, .int .i64 10, .int .i64 3, .int .i64 2, .slice (some ⟨b1, 0, none⟩) 6 6]⟩], L11, [⟨b16, 25, [.int .i64 y_1, .int .i64 y_2, .int .i64 y_3, .int .i64 y_4, .int .i64 y_5, .slice a8 ((y_6).length) c9]⟩], [⟨b17, 3, ([1] : List Int).flatMap (I1 .i64)⟩]]) (fun _ h => h) ?_
  refine WO_bslice (E := (I1 .i64)) tbok (fun _ => rfl) (by decide) [.int .i64 3] ([3] : List Int) rfl rfl trivial rfl rfl rfl rfl rfl rfl rfl rfl rfl rfl rfl rfl (fun b19 hb19 => ?_)
  refine WO.cls (C' := St w0 m m13 [[], [⟨b3, 25, [.int .i64 0, .int .i64 0, .int .i64 10, .int .i64 3, .int .i64 2, .slice (some ⟨b1, 0, none⟩) 6 6]⟩], L11, [⟨b16, 25, [.int .i64 y_1, .int .i64 y_2, .int .i64 y_3, .int .i64 y_4, .int .i64 y_5, .slice a8 ((y_6).length) c9]⟩], [⟨b17, 3, ([1] : List Int).flatMap (I1 .i64)⟩], [⟨b19, 3, ([3] : List Int).flatMap (I1 .i64)⟩]]) (fun _ h => h) ?_
  obtain ⟨⟨y_8, y_9⟩, hc21, hm⟩ := bind_some hm
  refine WO_call1 (terrain_Ground_Q (y_8, y_9)) rfl rfl trivial rfl rfl rfl rfl ⟨18, #[], #[], rfl, callable_18, fun w hw => ⟨_, hw.satV, terrain_Ground_walk (((OwnE.rd (E := (I1 .i64)) (k := 1) (fun _ => rfl) hb1 hmm6).mono (mono_FE _) hle14).mono (mono_FE _) hw.leV) (OwnE.rd (E := (I1 .i64)) (k := 1) (fun _ => rfl) hb17 (fun _ hx => hw.memV (i := 4) rfl hx)) (OwnE.rd (E := (I1 .i64)) (k := 1) (fun _ => rfl) hb19 (fun _ hx => hw.memV (i := 5) rfl hx)) hc21⟩⟩ (fun v26 L25 hq => ?_)
  obtain ⟨a22, qa22, c23, rfl, hL25⟩ := hq
  obtain rfl := OwnE.qlen hL25
  refine WO.cls (C' := St w0 m m13 [[], [⟨b3, 25, [.int .i64 0, .int .i64 0, .int .i64 10, .int .i64 3, .int .i64 2, .slice (some ⟨b1, 0, none⟩) 6 6]⟩], L11, [⟨b16, 25, [.int .i64 y_1, .int .i64 y_2, .int .i64 y_3, .int .i64 y_4, .int .i64 y_5, .slice a8 ((y_6).length) c9]⟩], [⟨b17, 3, ([1] : List Int).flatMap (I1 .i64)⟩], [⟨b19, 3, ([3] : List Int).flatMap (I1 .i64)⟩], L25]) (fun _ h => h) ?_
  refine WO_pure tbok 5 [(0, .bool false), (1, .pointer (some ⟨b3, 0, none⟩)), (2, .pointer (some ⟨b16, 0, none⟩)), (3, .int .i64 y_7), (4, .slice a22 ((y_8).length) c23), (5, .int .i64 y_9)] rfl ⟨rfl, rfl, rfl, rfl, rfl, rfl, trivial⟩ ?_
  refine WO_end ?_
  refine WK_seq ?_
  refine WK_region ?_
  refine WO_loadB tbok 1 rfl rfl rfl rfl (fun _ h => h) rfl rfl ?_
  obtain ⟨⟨y_10, y_11, y_12, y_13, y_14, y_15, y_16⟩, hc27, hm⟩ := bind_some hm
  refine WO_call2 (terrain_Fill_Q (y_10, y_11, y_12, y_13, y_14, y_15, y_16)) rfl rfl trivial rfl rfl rfl rfl ⟨35, #[], #[], rfl, callable_35, terrain_Fill_walk ((OwnE.rd (E := (I1 .i64)) (k := 1) (fun _ => rfl) hb1 hmm6).mono (mono_FE _) hle14) hc27⟩ (fun v32 m33 L31 hle34 hq => ?_)
  obtain ⟨a28, qa28, c29, rfl, h35⟩ := hq
  obtain rfl := SlR.qlen h35
  refine WO.cls (C' := St w0 m m33 [[], [⟨b3, 25, [.int .i64 0, .int .i64 0, .int .i64 10, .int .i64 3, .int .i64 2, .slice (some ⟨b1, 0, none⟩) 6 6]⟩], L11, [⟨b16, 25, [.int .i64 y_1, .int .i64 y_2, .int .i64 y_3, .int .i64 y_4, .int .i64 y_5, .slice a8 ((y_6).length) c9]⟩], [⟨b17, 3, ([1] : List Int).flatMap (I1 .i64)⟩], [⟨b19, 3, ([3] : List Int).flatMap (I1 .i64)⟩], L25, L31]) (fun _ h => h.sub (by simp)) ?_
  refine WO_pure tbok 3 [(0, .bool false), (2, .pointer (some ⟨b16, 0, none⟩)), (3, .int .i64 y_7), (4, .slice a22 ((y_8).length) c23), (5, .int .i64 y_9), (27, .agg #[.int .i64 y_10, .int .i64 y_11, .int .i64 y_12, .int .i64 y_13, .int .i64 y_14, .slice a28 ((y_15).length) c29]), (28, .int .i64 y_16)] rfl ⟨rfl, rfl, rfl, rfl, rfl, rfl, rfl, trivial⟩ ?_
  refine WO_alloc tbok [.int .i64 0, .int .i64 0, .int .i64 0, .int .i64 0, .int .i64 0, .slice none 0 0] rfl rfl trivial rfl rfl rfl rfl (fun b36 => ?_)
  refine WO.cls (C' := St w0 m m33 [[], [⟨b3, 25, [.int .i64 0, .int .i64 0, .int .i64 10, .int .i64 3, .int .i64 2, .slice (some ⟨b1, 0, none⟩) 6 6]⟩], L11, [⟨b16, 25, [.int .i64 y_1, .int .i64 y_2, .int .i64 y_3, .int .i64 y_4, .int .i64 y_5, .slice a8 ((y_6).length) c9]⟩], [⟨b17, 3, ([1] : List Int).flatMap (I1 .i64)⟩], [⟨b19, 3, ([3] : List Int).flatMap (I1 .i64)⟩], L25, L31, [⟨b36, 25, [.int .i64 0, .int .i64 0, .int .i64 0, .int .i64 0, .int .i64 0, .slice none 0 0]⟩]]) (fun _ h => h) ?_
  refine WO_storeB tbok 8 [.int .i64 y_10, .int .i64 y_11, .int .i64 y_12, .int .i64 y_13, .int .i64 y_14, .slice a28 ((y_15).length) c29] rfl rfl rfl rfl rfl rfl rfl ?_
  refine WO.cls (C' := St w0 m m33 [[], [⟨b3, 25, [.int .i64 0, .int .i64 0, .int .i64 10, .int .i64 3, .int .i64 2, .slice (some ⟨b1, 0, none⟩) 6 6]⟩], L11, [⟨b16, 25, [.int .i64 y_1, .int .i64 y_2, .int .i64 y_3, .int .i64 y_4, .int .i64 y_5, .slice a8 ((y_6).length) c9]⟩], [⟨b17, 3, ([1] : List Int).flatMap (I1 .i64)⟩], [⟨b19, 3, ([3] : List Int).flatMap (I1 .i64)⟩], L25, L31, [⟨b36, 25, [.int .i64 y_10, .int .i64 y_11, .int .i64 y_12, .int .i64 y_13, .int .i64 y_14, .slice a28 ((y_15).length) c29]⟩]]) (fun _ h => h) ?_
  refine WO_pure tbok 1 [(0, .bool false), (2, .pointer (some ⟨b16, 0, none⟩)), (3, .int .i64 y_7), (4, .slice a22 ((y_8).length) c23), (5, .int .i64 y_9), (6, .pointer (some ⟨b36, 0, none⟩)), (7, .int .i64 y_16)] rfl ⟨rfl, rfl, rfl, rfl, rfl, rfl, rfl, trivial⟩ ?_
  refine WO_end ?_
  refine WK_seq ?_
  refine WK_region ?_
  refine WO_pure tbok 3 [(0, .bool false), (2, .pointer (some ⟨b16, 0, none⟩)), (3, .int .i64 y_7), (4, .slice a22 ((y_8).length) c23), (5, .int .i64 y_9), (6, .pointer (some ⟨b36, 0, none⟩)), (7, .int .i64 y_16), (30, .agg #[.int .i64 0, .int .i64 0, .int .i64 7]), (31, .agg #[.int .i64 4, .int .i64 4, .int .i64 9]), (32, .agg #[.int .i64 5, .int .i64 (-5), .int .i64 3])] rfl ⟨rfl, rfl, rfl, rfl, rfl, rfl, rfl, rfl, rfl, rfl, trivial⟩ ?_
  refine WO_bslice (E := T3) tbok (fun _ => rfl) (by decide) [.agg #[.int .i64 0, .int .i64 0, .int .i64 7], .agg #[.int .i64 4, .int .i64 4, .int .i64 9], .agg #[.int .i64 5, .int .i64 (-5), .int .i64 3]] ([(0, 0, 7), (4, 4, 9), (5, (-5), 3)] : List (Int × Int × Int)) rfl rfl trivial rfl rfl rfl rfl rfl rfl rfl rfl rfl rfl rfl rfl (fun b37 hb37 => ?_)
  refine WO.cls (C' := St w0 m m33 [[], [⟨b3, 25, [.int .i64 0, .int .i64 0, .int .i64 10, .int .i64 3, .int .i64 2, .slice (some ⟨b1, 0, none⟩) 6 6]⟩], L11, [⟨b16, 25, [.int .i64 y_1, .int .i64 y_2, .int .i64 y_3, .int .i64 y_4, .int .i64 y_5, .slice a8 ((y_6).length) c9]⟩], [⟨b17, 3, ([1] : List Int).flatMap (I1 .i64)⟩], [⟨b19, 3, ([3] : List Int).flatMap (I1 .i64)⟩], L25, L31, [⟨b36, 25, [.int .i64 y_10, .int .i64 y_11, .int .i64 y_12, .int .i64 y_13, .int .i64 y_14, .slice a28 ((y_15).length) c29]⟩], [⟨b37, 60, ([(0, 0, 7), (4, 4, 9), (5, (-5), 3)] : List (Int × Int × Int)).flatMap T3⟩]]) (fun _ h => h) ?_
  obtain ⟨hc39, hm⟩ := chk_some hm
  refine WO_make (E := (I1 .i64)) tbok (fun _ => rfl) (by decide) (0 : Int) rfl rfl trivial rfl rfl rfl rfl rfl rfl rfl rfl rfl (mk_ok (by decide) hc39) (fun b40 c41 L42 hL42 => ?_)
  refine WO.cls (C' := St w0 m m33 [[], [⟨b3, 25, [.int .i64 0, .int .i64 0, .int .i64 10, .int .i64 3, .int .i64 2, .slice (some ⟨b1, 0, none⟩) 6 6]⟩], L11, [⟨b16, 25, [.int .i64 y_1, .int .i64 y_2, .int .i64 y_3, .int .i64 y_4, .int .i64 y_5, .slice a8 ((y_6).length) c9]⟩], [⟨b17, 3, ([1] : List Int).flatMap (I1 .i64)⟩], [⟨b19, 3, ([3] : List Int).flatMap (I1 .i64)⟩], L25, L31, [⟨b36, 25, [.int .i64 y_10, .int .i64 y_11, .int .i64 y_12, .int .i64 y_13, .int .i64 y_14, .slice a28 ((y_15).length) c29]⟩], [⟨b37, 60, ([(0, 0, 7), (4, 4, 9), (5, (-5), 3)] : List (Int × Int × Int)).flatMap T3⟩], L42]) (fun _ h => h) ?_
  refine WO_pure tbok 1 [(0, .bool false), (2, .pointer (some ⟨b16, 0, none⟩)), (3, .int .i64 y_7), (4, .slice a22 ((y_8).length) c23), (5, .int .i64 y_9), (6, .pointer (some ⟨b36, 0, none⟩)), (7, .int .i64 y_16), (33, .slice (some ⟨b37, 0, none⟩) 3 3), (35, .agg #[.int .i64 0, .int .i64 0, .int .i64 10, .int .i64 2, .int .i64 2, .slice (some ⟨b40, 0, none⟩) ((List.replicate 4 (0 : Int)).length) c41])] rfl ⟨rfl, rfl, rfl, rfl, rfl, rfl, rfl, rfl, rfl, trivial⟩ ?_
  refine WO_freeze 9 rfl (fun m44 hle45 hmm46 => ?_)
  refine WO.cls (C' := St w0 m m44 [[], [⟨b3, 25, [.int .i64 0, .int .i64 0, .int .i64 10, .int .i64 3, .int .i64 2, .slice (some ⟨b1, 0, none⟩) 6 6]⟩], L11, [⟨b16, 25, [.int .i64 y_1, .int .i64 y_2, .int .i64 y_3, .int .i64 y_4, .int .i64 y_5, .slice a8 ((y_6).length) c9]⟩], [⟨b17, 3, ([1] : List Int).flatMap (I1 .i64)⟩], [⟨b19, 3, ([3] : List Int).flatMap (I1 .i64)⟩], L25, L31, [⟨b36, 25, [.int .i64 y_10, .int .i64 y_11, .int .i64 y_12, .int .i64 y_13, .int .i64 y_14, .slice a28 ((y_15).length) c29]⟩], [], L42]) (fun _ h => h) ?_
  refine WO_freeze 10 rfl (fun m47 hle48 hmm49 => ?_)
  refine WO.cls (C' := St w0 m m47 [[], [⟨b3, 25, [.int .i64 0, .int .i64 0, .int .i64 10, .int .i64 3, .int .i64 2, .slice (some ⟨b1, 0, none⟩) 6 6]⟩], L11, [⟨b16, 25, [.int .i64 y_1, .int .i64 y_2, .int .i64 y_3, .int .i64 y_4, .int .i64 y_5, .slice a8 ((y_6).length) c9]⟩], [⟨b17, 3, ([1] : List Int).flatMap (I1 .i64)⟩], [⟨b19, 3, ([3] : List Int).flatMap (I1 .i64)⟩], L25, L31, [⟨b36, 25, [.int .i64 y_10, .int .i64 y_11, .int .i64 y_12, .int .i64 y_13, .int .i64 y_14, .slice a28 ((y_15).length) c29]⟩], [], []]) (fun _ h => h) ?_
  obtain ⟨⟨y_17, y_18, y_19, y_20, y_21, y_22, y_23⟩, hc50, hm⟩ := bind_some hm
  refine WO_call2 (terrain_Surface_Q (y_17, y_18, y_19, y_20, y_21, y_22, y_23)) rfl rfl trivial rfl rfl rfl rfl ⟨13, #[], #[], rfl, callable_13, terrain_Surface_walk ((OwnE.rd (E := T3) (k := 3) (fun _ => rfl) hb37 hmm46).mono (mono_FE _) hle48) (OwnE.rd (E := (I1 .i64)) (k := 1) (fun _ => rfl) hL42 hmm49) hc50⟩ (fun v55 m56 L54 hle57 hq => ?_)
  obtain ⟨a51, qa51, c52, rfl, h58⟩ := hq
  obtain rfl := SlR.qlen h58
  refine WO.cls (C' := St w0 m m56 [[], [⟨b3, 25, [.int .i64 0, .int .i64 0, .int .i64 10, .int .i64 3, .int .i64 2, .slice (some ⟨b1, 0, none⟩) 6 6]⟩], L11, [⟨b16, 25, [.int .i64 y_1, .int .i64 y_2, .int .i64 y_3, .int .i64 y_4, .int .i64 y_5, .slice a8 ((y_6).length) c9]⟩], [⟨b17, 3, ([1] : List Int).flatMap (I1 .i64)⟩], [⟨b19, 3, ([3] : List Int).flatMap (I1 .i64)⟩], L25, L31, [⟨b36, 25, [.int .i64 y_10, .int .i64 y_11, .int .i64 y_12, .int .i64 y_13, .int .i64 y_14, .slice a28 ((y_15).length) c29]⟩], [], [], L54]) (fun _ h => h.sub (by simp)) ?_
  refine WO_pure tbok 3 [(0, .bool false), (2, .pointer (some ⟨b16, 0, none⟩)), (3, .int .i64 y_7), (4, .slice a22 ((y_8).length) c23), (5, .int .i64 y_9), (6, .pointer (some ⟨b36, 0, none⟩)), (7, .int .i64 y_16), (37, .agg #[.int .i64 y_17, .int .i64 y_18, .int .i64 y_19, .int .i64 y_20, .int .i64 y_21, .slice a51 ((y_22).length) c52]), (38, .int .i64 y_23)] rfl ⟨rfl, rfl, rfl, rfl, rfl, rfl, rfl, rfl, rfl, trivial⟩ ?_
  refine WO_alloc tbok [.int .i64 0, .int .i64 0, .int .i64 0, .int .i64 0, .int .i64 0, .slice none 0 0] rfl rfl trivial rfl rfl rfl rfl (fun b59 => ?_)
  refine WO.cls (C' := St w0 m m56 [[], [⟨b3, 25, [.int .i64 0, .int .i64 0, .int .i64 10, .int .i64 3, .int .i64 2, .slice (some ⟨b1, 0, none⟩) 6 6]⟩], L11, [⟨b16, 25, [.int .i64 y_1, .int .i64 y_2, .int .i64 y_3, .int .i64 y_4, .int .i64 y_5, .slice a8 ((y_6).length) c9]⟩], [⟨b17, 3, ([1] : List Int).flatMap (I1 .i64)⟩], [⟨b19, 3, ([3] : List Int).flatMap (I1 .i64)⟩], L25, L31, [⟨b36, 25, [.int .i64 y_10, .int .i64 y_11, .int .i64 y_12, .int .i64 y_13, .int .i64 y_14, .slice a28 ((y_15).length) c29]⟩], [], [], L54, [⟨b59, 25, [.int .i64 0, .int .i64 0, .int .i64 0, .int .i64 0, .int .i64 0, .slice none 0 0]⟩]]) (fun _ h => h) ?_
  refine WO_storeB tbok 12 [.int .i64 y_17, .int .i64 y_18, .int .i64 y_19, .int .i64 y_20, .int .i64 y_21, .slice a51 ((y_22).length) c52] rfl rfl rfl rfl rfl rfl rfl ?_
  refine WO.cls (C' := St w0 m m56 [[], [⟨b3, 25, [.int .i64 0, .int .i64 0, .int .i64 10, .int .i64 3, .int .i64 2, .slice (some ⟨b1, 0, none⟩) 6 6]⟩], L11, [⟨b16, 25, [.int .i64 y_1, .int .i64 y_2, .int .i64 y_3, .int .i64 y_4, .int .i64 y_5, .slice a8 ((y_6).length) c9]⟩], [⟨b17, 3, ([1] : List Int).flatMap (I1 .i64)⟩], [⟨b19, 3, ([3] : List Int).flatMap (I1 .i64)⟩], L25, L31, [⟨b36, 25, [.int .i64 y_10, .int .i64 y_11, .int .i64 y_12, .int .i64 y_13, .int .i64 y_14, .slice a28 ((y_15).length) c29]⟩], [], [], L54, [⟨b59, 25, [.int .i64 y_17, .int .i64 y_18, .int .i64 y_19, .int .i64 y_20, .int .i64 y_21, .slice a51 ((y_22).length) c52]⟩]]) (fun _ h => h) ?_
  refine WO_pure tbok 1 [(0, .bool false), (2, .pointer (some ⟨b16, 0, none⟩)), (3, .int .i64 y_7), (4, .slice a22 ((y_8).length) c23), (5, .int .i64 y_9), (6, .pointer (some ⟨b36, 0, none⟩)), (7, .int .i64 y_16), (8, .pointer (some ⟨b59, 0, none⟩)), (9, .int .i64 y_23)] rfl ⟨rfl, rfl, rfl, rfl, rfl, rfl, rfl, rfl, rfl, trivial⟩ ?_
  refine WO_end ?_
  refine WK_seq ?_
  refine WK_region ?_
  refine WO_pure tbok 9 [(0, .bool false), (2, .pointer (some ⟨b16, 0, none⟩)), (4, .slice a22 ((y_8).length) c23), (6, .pointer (some ⟨b36, 0, none⟩)), (8, .pointer (some ⟨b59, 0, none⟩)), (47, .bool ((w64 ((w64 ((w64 (y_7 + y_9)) + y_16)) + y_23)) == 0))] rfl ⟨rfl, rfl, rfl, rfl, rfl, rfl, trivial⟩ ?_
  refine WO_split (d := 47) (b := (w64 ((w64 ((w64 (y_7 + y_9)) + y_16)) + y_23)) == 0) rfl (fun hb60 => ?_) (fun hb60 => ?_)
  · have hm := ifT hb60 hm
    refine WO_pure tbok 1 [(0, .bool false), (4, .slice a22 ((y_8).length) c23), (6, .pointer (some ⟨b36, 0, none⟩)), (8, .pointer (some ⟨b59, 0, none⟩)), (47, .bool true), (48, .pointer (some ⟨b16, 5, none⟩))] rfl ⟨rfl, rfl, rfl, rfl, rfl, rfl, trivial⟩ ?_
    refine WO_loadB tbok 3 rfl rfl rfl rfl (fun _ h => h) rfl rfl ?_
    refine WO_bslice (E := (I1 .i64)) tbok (fun _ => rfl) (by decide) [.int .i64 5, .int .i64 5, .int .i64 1, .int .i64 5, .int .i64 (-2147483648), .int .i64 1] ([5, 5, 1, 5, (-2147483648), 1] : List Int) rfl rfl trivial rfl rfl rfl rfl rfl rfl rfl rfl rfl rfl rfl rfl (fun b61 hb61 => ?_)
    refine WO.cls (C' := St w0 m m56 [[], [⟨b3, 25, [.int .i64 0, .int .i64 0, .int .i64 10, .int .i64 3, .int .i64 2, .slice (some ⟨b1, 0, none⟩) 6 6]⟩], L11, [⟨b16, 25, [.int .i64 y_1, .int .i64 y_2, .int .i64 y_3, .int .i64 y_4, .int .i64 y_5, .slice a8 ((y_6).length) c9]⟩], [⟨b17, 3, ([1] : List Int).flatMap (I1 .i64)⟩], [⟨b19, 3, ([3] : List Int).flatMap (I1 .i64)⟩], L25, L31, [⟨b36, 25, [.int .i64 y_10, .int .i64 y_11, .int .i64 y_12, .int .i64 y_13, .int .i64 y_14, .slice a28 ((y_15).length) c29]⟩], [], [], L54, [⟨b59, 25, [.int .i64 y_17, .int .i64 y_18, .int .i64 y_19, .int .i64 y_20, .int .i64 y_21, .slice a51 ((y_22).length) c52]⟩], [⟨b61, 3, ([5, 5, 1, 5, (-2147483648), 1] : List Int).flatMap (I1 .i64)⟩]]) (fun _ h => h) ?_
    obtain ⟨y_24, hc63, hm⟩ := bind_some hm
    refine WO_call0 (.bool y_24) rfl rfl trivial rfl rfl rfl rfl St_closed ⟨38, #[], #[], rfl, callable_38, fun w hw => ⟨_, hw.satV, slices_Equal_sint_walk (((((h15.mono (mono_FE _) hle34).mono (mono_FE _) hle45).mono (mono_FE _) hle48).mono (mono_FE _) hle57).mono (mono_FE _) hw.leV) (OwnE.rd (E := (I1 .i64)) (k := 1) (fun _ => rfl) hb61 (fun _ hx => hw.memV (i := 13) rfl hx)) hc63⟩⟩ ?_
    refine WO_pure tbok 2 [(0, .bool false), (4, .slice a22 ((y_8).length) c23), (6, .pointer (some ⟨b36, 0, none⟩)), (8, .pointer (some ⟨b59, 0, none⟩)), (53, .bool y_24)] rfl ⟨rfl, rfl, rfl, rfl, rfl, trivial⟩ ?_
    refine WO_split (d := 53) (b := y_24) rfl (fun hb64 => ?_) (fun hb64 => ?_)
    · have hm := ifT hb64 hm
      refine WO_pure tbok 1 [(0, .bool false), (6, .pointer (some ⟨b36, 0, none⟩)), (8, .pointer (some ⟨b59, 0, none⟩)), (53, .bool true), (54, .slice a22 ((y_8).length) c23)] rfl ⟨rfl, rfl, rfl, rfl, rfl, trivial⟩ ?_
      refine WO_bslice (E := B1) tbok (fun _ => rfl) (by decide) [.bool true, .bool false, .bool false, .bool true, .bool false, .bool true] ([true, false, false, true, false, true] : List Bool) rfl rfl trivial rfl rfl rfl rfl rfl rfl rfl rfl rfl rfl rfl rfl (fun b65 hb65 => ?_)
      refine WO.cls (C' := St w0 m m56 [[], [⟨b3, 25, [.int .i64 0, .int .i64 0, .int .i64 10, .int .i64 3, .int .i64 2, .slice (some ⟨b1, 0, none⟩) 6 6]⟩], L11, [⟨b16, 25, [.int .i64 y_1, .int .i64 y_2, .int .i64 y_3, .int .i64 y_4, .int .i64 y_5, .slice a8 ((y_6).length) c9]⟩], [⟨b17, 3, ([1] : List Int).flatMap (I1 .i64)⟩], [⟨b19, 3, ([3] : List Int).flatMap (I1 .i64)⟩], L25, L31, [⟨b36, 25, [.int .i64 y_10, .int .i64 y_11, .int .i64 y_12, .int .i64 y_13, .int .i64 y_14, .slice a28 ((y_15).length) c29]⟩], [], [], L54, [⟨b59, 25, [.int .i64 y_17, .int .i64 y_18, .int .i64 y_19, .int .i64 y_20, .int .i64 y_21, .slice a51 ((y_22).length) c52]⟩], [⟨b61, 3, ([5, 5, 1, 5, (-2147483648), 1] : List Int).flatMap (I1 .i64)⟩], [⟨b65, 4, ([true, false, false, true, false, true] : List Bool).flatMap B1⟩]]) (fun _ h => h) ?_
      obtain ⟨y_25, hc67, hm⟩ := bind_some hm
      refine WO_call0 (.bool y_25) rfl rfl trivial rfl rfl rfl rfl St_closed ⟨20, #[], #[], rfl, callable_20, fun w hw => ⟨_, hw.satV, slices_Equal_sbool_walk (OwnE.rd (E := B1) (k := 1) (fun _ => rfl) hL25 (fun _ hx => hw.memV (i := 6) rfl hx)) (OwnE.rd (E := B1) (k := 1) (fun _ => rfl) hb65 (fun _ hx => hw.memV (i := 14) rfl hx)) hc67⟩⟩ ?_
      refine WO_pure tbok 2 [(0, .bool false), (6, .pointer (some ⟨b36, 0, none⟩)), (8, .pointer (some ⟨b59, 0, none⟩)), (58, .bool y_25)] rfl ⟨rfl, rfl, rfl, rfl, trivial⟩ ?_
      refine WO_split (d := 58) (b := y_25) rfl (fun hb68 => ?_) (fun hb68 => ?_)
      · have hm := ifT hb68 hm
        refine WO_pure tbok 1 [(0, .bool false), (8, .pointer (some ⟨b59, 0, none⟩)), (58, .bool true), (59, .pointer (some ⟨b36, 5, none⟩))] rfl ⟨rfl, rfl, rfl, rfl, trivial⟩ ?_
        refine WO_loadB tbok 8 rfl rfl rfl rfl (fun _ h => h) rfl rfl ?_
        refine WO_bslice (E := (I1 .i64)) tbok (fun _ => rfl) (by decide) [.int .i64 5, .int .i64 9, .int .i64 5, .int .i64 5, .int .i64 1, .int .i64 1] ([5, 9, 5, 5, 1, 1] : List Int) rfl rfl trivial rfl rfl rfl rfl rfl rfl rfl rfl rfl rfl rfl rfl (fun b69 hb69 => ?_)
        refine WO.cls (C' := St w0 m m56 [[], [⟨b3, 25, [.int .i64 0, .int .i64 0, .int .i64 10, .int .i64 3, .int .i64 2, .slice (some ⟨b1, 0, none⟩) 6 6]⟩], L11, [⟨b16, 25, [.int .i64 y_1, .int .i64 y_2, .int .i64 y_3, .int .i64 y_4, .int .i64 y_5, .slice a8 ((y_6).length) c9]⟩], [⟨b17, 3, ([1] : List Int).flatMap (I1 .i64)⟩], [⟨b19, 3, ([3] : List Int).flatMap (I1 .i64)⟩], L25, L31, [⟨b36, 25, [.int .i64 y_10, .int .i64 y_11, .int .i64 y_12, .int .i64 y_13, .int .i64 y_14, .slice a28 ((y_15).length) c29]⟩], [], [], L54, [⟨b59, 25, [.int .i64 y_17, .int .i64 y_18, .int .i64 y_19, .int .i64 y_20, .int .i64 y_21, .slice a51 ((y_22).length) c52]⟩], [⟨b61, 3, ([5, 5, 1, 5, (-2147483648), 1] : List Int).flatMap (I1 .i64)⟩], [⟨b65, 4, ([true, false, false, true, false, true] : List Bool).flatMap B1⟩], [⟨b69, 3, ([5, 9, 5, 5, 1, 1] : List Int).flatMap (I1 .i64)⟩]]) (fun _ h => h) ?_
        obtain ⟨y_26, hc71, hm⟩ := bind_some hm
        refine WO_call0 (.bool y_26) rfl rfl trivial rfl rfl rfl rfl St_closed ⟨38, #[], #[], rfl, callable_38, fun w hw => ⟨_, hw.satV, slices_Equal_sint_walk ((((h35.mono (mono_FE _) hle45).mono (mono_FE _) hle48).mono (mono_FE _) hle57).mono (mono_FE _) hw.leV) (OwnE.rd (E := (I1 .i64)) (k := 1) (fun _ => rfl) hb69 (fun _ hx => hw.memV (i := 15) rfl hx)) hc71⟩⟩ ?_
        refine WO_pure tbok 2 [(0, .bool false), (8, .pointer (some ⟨b59, 0, none⟩)), (64, .bool y_26)] rfl ⟨rfl, rfl, rfl, trivial⟩ ?_
        refine WO_split (d := 64) (b := y_26) rfl (fun hb72 => ?_) (fun hb72 => ?_)
        · have hm := ifT hb72 hm
          refine WO_pure tbok 1 [(0, .bool false), (64, .bool true), (65, .pointer (some ⟨b59, 5, none⟩))] rfl ⟨rfl, rfl, rfl, trivial⟩ ?_
          refine WO_loadB tbok 12 rfl rfl rfl rfl (fun _ h => h) rfl rfl ?_
          refine WO_bslice (E := (I1 .i64)) tbok (fun _ => rfl) (by decide) [.int .i64 9, .int .i64 3, .int .i64 (-2147483648), .int .i64 (-2147483648)] ([9, 3, (-2147483648), (-2147483648)] : List Int) rfl rfl trivial rfl rfl rfl rfl rfl rfl rfl rfl rfl rfl rfl rfl (fun b73 hb73 => ?_)
          refine WO.cls (C' := St w0 m m56 [[], [⟨b3, 25, [.int .i64 0, .int .i64 0, .int .i64 10, .int .i64 3, .int .i64 2, .slice (some ⟨b1, 0, none⟩) 6 6]⟩], L11, [⟨b16, 25, [.int .i64 y_1, .int .i64 y_2, .int .i64 y_3, .int .i64 y_4, .int .i64 y_5, .slice a8 ((y_6).length) c9]⟩], [⟨b17, 3, ([1] : List Int).flatMap (I1 .i64)⟩], [⟨b19, 3, ([3] : List Int).flatMap (I1 .i64)⟩], L25, L31, [⟨b36, 25, [.int .i64 y_10, .int .i64 y_11, .int .i64 y_12, .int .i64 y_13, .int .i64 y_14, .slice a28 ((y_15).length) c29]⟩], [], [], L54, [⟨b59, 25, [.int .i64 y_17, .int .i64 y_18, .int .i64 y_19, .int .i64 y_20, .int .i64 y_21, .slice a51 ((y_22).length) c52]⟩], [⟨b61, 3, ([5, 5, 1, 5, (-2147483648), 1] : List Int).flatMap (I1 .i64)⟩], [⟨b65, 4, ([true, false, false, true, false, true] : List Bool).flatMap B1⟩], [⟨b69, 3, ([5, 9, 5, 5, 1, 1] : List Int).flatMap (I1 .i64)⟩], [⟨b73, 3, ([9, 3, (-2147483648), (-2147483648)] : List Int).flatMap (I1 .i64)⟩]]) (fun _ h => h) ?_
          obtain ⟨y_27, hc75, hm⟩ := bind_some hm
          refine WO_call0 (.bool y_27) rfl rfl trivial rfl rfl rfl rfl St_closed ⟨38, #[], #[], rfl, callable_38, fun w hw => ⟨_, hw.satV, slices_Equal_sint_walk (h58.mono (mono_FE _) hw.leV) (OwnE.rd (E := (I1 .i64)) (k := 1) (fun _ => rfl) hb73 (fun _ hx => hw.memV (i := 16) rfl hx)) hc75⟩⟩ ?_
          refine WO_pure tbok 2 [(0, .bool false), (70, .bool y_27)] rfl ⟨rfl, rfl, trivial⟩ ?_
          refine WO_split (d := 70) (b := y_27) rfl (fun hb76 => ?_) (fun hb76 => ?_)
          · have hm := ifT hb76 hm
            refine WO_pure tbok 1 [(0, .bool false), (70, .bool true), (71, .agg #[.int .i64 0, .int .i64 0, .int .i64 0, .int .i64 0, .int .i64 0, .slice none 0 0])] rfl ⟨rfl, rfl, rfl, trivial⟩ ?_
            obtain ⟨y_28, hc77, hm⟩ := bind_some hm
            refine WO_call0 (.int .i64 y_28) rfl rfl trivial rfl rfl rfl rfl St_closed ⟨16, #[], #[], rfl, callable_16, fun w hw => ⟨_, hw.sat, terrain_Check_walk SlR_nil hc77⟩⟩ ?_
            refine WO_pure tbok 3 [(0, .bool (y_28 == 2))] rfl ⟨rfl, trivial⟩ ?_
            refine WO_end ?_
            cases hm
            exact WK_ret (ret_out (L := []) (RLc_tmp rfl RLc_nil) (List.nil_sublist _) rfl)
          · have hm := ifF hb76 hm
            refine WO_pure tbok 1 [(0, .bool false), (70, .bool false)] rfl ⟨rfl, rfl, trivial⟩ ?_
            refine WO_skip rfl rfl ?_
            refine WO_pure tbok 3 [(0, .bool false)] rfl ⟨rfl, trivial⟩ ?_
            refine WO_end ?_
            cases hm
            exact WK_ret (ret_out (L := []) (RLc_tmp rfl RLc_nil) (List.nil_sublist _) rfl)
        · have hm := ifF hb72 hm
          refine WO_pure tbok 2 [(0, .bool false), (64, .bool false)] rfl ⟨rfl, rfl, trivial⟩ ?_
          refine WO_skip rfl rfl ?_
          refine WO_skip rfl rfl ?_
          refine WO_pure tbok 3 [(0, .bool false), (70, .bool false)] rfl ⟨rfl, rfl, trivial⟩ ?_
          refine WO_skip rfl rfl ?_
          refine WO_pure tbok 3 [(0, .bool false)] rfl ⟨rfl, trivial⟩ ?_
          refine WO_end ?_
          cases hm
          exact WK_ret (ret_out (L := []) (RLc_tmp rfl RLc_nil) (List.nil_sublist _) rfl)
      · have hm := ifF hb68 hm
        refine WO_pure tbok 2 [(0, .bool false), (8, .pointer (some ⟨b59, 0, none⟩)), (58, .bool false)] rfl ⟨rfl, rfl, rfl, trivial⟩ ?_
        refine WO_skip rfl rfl ?_
        refine WO_skip rfl rfl ?_
        refine WO_pure tbok 4 [(0, .bool false), (64, .bool false)] rfl ⟨rfl, rfl, trivial⟩ ?_
        refine WO_skip rfl rfl ?_
        refine WO_skip rfl rfl ?_
        refine WO_pure tbok 3 [(0, .bool false), (70, .bool false)] rfl ⟨rfl, rfl, trivial⟩ ?_
        refine WO_skip rfl rfl ?_
        refine WO_pure tbok 3 [(0, .bool false)] rfl ⟨rfl, trivial⟩ ?_
        refine WO_end ?_
        cases hm
        exact WK_ret (ret_out (L := []) (RLc_tmp rfl RLc_nil) (List.nil_sublist _) rfl)
    · have hm := ifF hb64 hm
      refine WO_pure tbok 1 [(0, .bool false), (6, .pointer (some ⟨b36, 0, none⟩)), (8, .pointer (some ⟨b59, 0, none⟩)), (53, .bool false)] rfl ⟨rfl, rfl, rfl, rfl, trivial⟩ ?_
      refine WO_skip rfl rfl ?_
      refine WO_skip rfl rfl ?_
      refine WO_pure tbok 4 [(0, .bool false), (8, .pointer (some ⟨b59, 0, none⟩)), (58, .bool false)] rfl ⟨rfl, rfl, rfl, trivial⟩ ?_
      refine WO_skip rfl rfl ?_
      refine WO_skip rfl rfl ?_
      refine WO_pure tbok 4 [(0, .bool false), (64, .bool false)] rfl ⟨rfl, rfl, trivial⟩ ?_
      refine WO_skip rfl rfl ?_
      refine WO_skip rfl rfl ?_
      refine WO_pure tbok 3 [(0, .bool false), (70, .bool false)] rfl ⟨rfl, rfl, trivial⟩ ?_
      refine WO_skip rfl rfl ?_
      refine WO_pure tbok 3 [(0, .bool false)] rfl ⟨rfl, trivial⟩ ?_
      refine WO_end ?_
      cases hm
      exact WK_ret (ret_out (L := []) (RLc_tmp rfl RLc_nil) (List.nil_sublist _) rfl)
  · have hm := ifF hb60 hm
    refine WO_pure tbok 2 [(0, .bool false), (4, .slice a22 ((y_8).length) c23), (6, .pointer (some ⟨b36, 0, none⟩)), (8, .pointer (some ⟨b59, 0, none⟩)), (47, .bool false)] rfl ⟨rfl, rfl, rfl, rfl, rfl, trivial⟩ ?_
    refine WO_skip rfl rfl ?_
    refine WO_skip rfl rfl ?_
    refine WO_pure tbok 3 [(0, .bool false), (6, .pointer (some ⟨b36, 0, none⟩)), (8, .pointer (some ⟨b59, 0, none⟩)), (53, .bool false)] rfl ⟨rfl, rfl, rfl, rfl, trivial⟩ ?_
    refine WO_skip rfl rfl ?_
    refine WO_skip rfl rfl ?_
    refine WO_pure tbok 4 [(0, .bool false), (8, .pointer (some ⟨b59, 0, none⟩)), (58, .bool false)] rfl ⟨rfl, rfl, rfl, trivial⟩ ?_
    refine WO_skip rfl rfl ?_
    refine WO_skip rfl rfl ?_
    refine WO_pure tbok 4 [(0, .bool false), (64, .bool false)] rfl ⟨rfl, rfl, trivial⟩ ?_
    refine WO_skip rfl rfl ?_
    refine WO_skip rfl rfl ?_
    refine WO_pure tbok 3 [(0, .bool false), (70, .bool false)] rfl ⟨rfl, rfl, trivial⟩ ?_
    refine WO_skip rfl rfl ?_
    refine WO_pure tbok 3 [(0, .bool false)] rfl ⟨rfl, trivial⟩ ?_
    refine WO_end ?_
    cases hm
    exact WK_ret (ret_out (L := []) (RLc_tmp rfl RLc_nil) (List.nil_sublist _) rfl)
theorem fiduciallaw48_few_walk {m : Mu} {p0_0 : Int} {p0_1 : Int} {p0_2 : Int} {p0_3 : Int} {p0_4 : Int} {p0_5 : List Int} {a_p0_5 : Option Addr} {q_p0_5 c_p0_5 : Nat} (h_p0_5 : SlR (FE (I1 .i64)) 1 m (.slice a_p0_5 q_p0_5 c_p0_5) p0_5) {r : Bool} (hm : fiduciallaw48_few p0_0 p0_1 p0_2 p0_3 p0_4 p0_5 = some r) :
    Go.E.Spec Try.prog 12 [.agg #[.int .i64 p0_0, .int .i64 p0_1, .int .i64 p0_2, .int .i64 p0_3, .int .i64 p0_4, .slice a_p0_5 q_p0_5 c_p0_5]] m (fun v _ _ => v = .bool r) := by
  refine Spec_enter Try.func12 rfl rfl rfl (fun w0 => ?_)
  refine WK.sub (e' := [(0, .agg #[.int .i64 p0_0, .int .i64 p0_1, .int .i64 p0_2, .int .i64 p0_3, .int .i64 p0_4, .slice a_p0_5 q_p0_5 c_p0_5])]) ⟨rfl, trivial⟩ ?_
  obtain rfl := SlR.qlen h_p0_5
  refine WK.sub (e' := [(0, .agg #[.int .i64 p0_0, .int .i64 p0_1, .int .i64 p0_2, .int .i64 p0_3, .int .i64 p0_4, .slice a_p0_5 p0_5.length c_p0_5])]) ⟨rfl, trivial⟩ ?_
  unfold fiduciallaw48_few at hm
  refine WK_seq ?_
  refine WK_region ?_
  refine WO_box [.int .i64 p0_0, .int .i64 p0_1, .int .i64 p0_2, .int .i64 p0_3, .int .i64 p0_4, .slice a_p0_5 p0_5.length c_p0_5] rfl rfl trivial rfl rfl rfl (fun b2 => ?_)
  refine WO.cls (C' := St w0 m m [[⟨b2, 25, [.int .i64 p0_0, .int .i64 p0_1, .int .i64 p0_2, .int .i64 p0_3, .int .i64 p0_4, .slice a_p0_5 p0_5.length c_p0_5]⟩]]) (fun _ h => h) ?_
  refine WO_pure tbok 1 [(1, .pointer (some ⟨b2, 0, none⟩)), (2, .bool false)] rfl ⟨rfl, rfl, trivial⟩ ?_
  refine WO_end ?_
  refine WK_seq ?_
  refine WK_region ?_
  refine WO_pure tbok 1 [(2, .bool false), (3, .pointer (some ⟨b2, 5, none⟩))] rfl ⟨rfl, rfl, trivial⟩ ?_
  refine WO_loadB tbok 0 rfl rfl rfl rfl (fun _ h => h) rfl rfl ?_
  refine WO_pure tbok 3 [(2, .bool (decide ((p0_5.length : Int) ≤ 150)))] rfl ⟨rfl, trivial⟩ ?_
  refine WO_end ?_
  cases hm
  exact WK_ret (ret_out (L := []) (RLc_tmp rfl RLc_nil) (List.nil_sublist _) rfl)
theorem fiduciallaw48_far_walk {m : Mu} {p0 : Int} {p1 : Int}   {r : Bool} (hm : fiduciallaw48_far p0 p1 = some r) :
    Go.E.Spec Try.prog 45 [.int .i64 p0, .int .i64 p1] m (fun v _ _ => v = .bool r) := by
  refine Spec_enter Try.func45 rfl rfl rfl (fun w0 => ?_)
  refine WK.sub (e' := [(0, .int .i64 p0), (1, .int .i64 p1)]) ⟨rfl, rfl, trivial⟩ ?_
  refine WK.sub (e' := [(0, .int .i64 p0), (1, .int .i64 p1)]) ⟨rfl, rfl, trivial⟩ ?_
  unfold fiduciallaw48_far at hm
  refine WK_seq ?_
  refine WK_region ?_
  refine WO_pure tbok 1 [(0, .int .i64 p0), (1, .int .i64 p1), (4, .bool false)] rfl ⟨rfl, rfl, rfl, trivial⟩ ?_
  refine WO_end ?_
  refine WK_seq ?_
  refine WK_region ?_
  refine WO_pure tbok 4 [(0, .int .i64 p0), (1, .int .i64 p1), (4, .bool false), (8, .bool (decide (p1 < p0)))] rfl ⟨rfl, rfl, rfl, rfl, trivial⟩ ?_
  refine WO_split (d := 8) (b := decide (p1 < p0)) rfl (fun hb1 => ?_) (fun hb1 => ?_)
  · have hm := ifT hb1 hm
    refine WO_pure tbok 6 [(4, .bool true)] rfl ⟨rfl, trivial⟩ ?_
    refine WO_end ?_
    cases hm
    exact WK_ret (ret_out (L := []) (RLc_tmp rfl RLc_nil) (List.nil_sublist _) rfl)
  · have hm := ifF hb1 hm
    refine WO_pure tbok 6 [(4, .bool (decide (p0 < (w64 (0 - p1)))))] rfl ⟨rfl, trivial⟩ ?_
    refine WO_end ?_
    cases hm
    exact WK_ret (ret_out (L := []) (RLc_tmp rfl RLc_nil) (List.nil_sublist _) rfl)
theorem fiduciallaw48_checked_walk {m : Mu} {p0_0 : Int} {p0_1 : Int} {p0_2 : Int} {p0_3 : Int} {p0_4 : Int} {p0_5 : List Int} {a_p0_5 : Option Addr} {q_p0_5 c_p0_5 : Nat} (h_p0_5 : SlR (FE (I1 .i64)) 1 m (.slice a_p0_5 q_p0_5 c_p0_5) p0_5) {r : Int} (hm : fiduciallaw48_checked p0_0 p0_1 p0_2 p0_3 p0_4 p0_5 = some r) :
    Go.E.Spec Try.prog 17 [.agg #[.int .i64 p0_0, .int .i64 p0_1, .int .i64 p0_2, .int .i64 p0_3, .int .i64 p0_4, .slice a_p0_5 q_p0_5 c_p0_5]] m (fun v _ _ => v = .int .i64 r) := by
  refine Spec_enter Try.func17 rfl rfl rfl (fun w0 => ?_)
  refine WK.sub (e' := [(0, .agg #[.int .i64 p0_0, .int .i64 p0_1, .int .i64 p0_2, .int .i64 p0_3, .int .i64 p0_4, .slice a_p0_5 q_p0_5 c_p0_5])]) ⟨rfl, trivial⟩ ?_
  obtain rfl := SlR.qlen h_p0_5
  refine WK.sub (e' := [(0, .agg #[.int .i64 p0_0, .int .i64 p0_1, .int .i64 p0_2, .int .i64 p0_3, .int .i64 p0_4, .slice a_p0_5 p0_5.length c_p0_5])]) ⟨rfl, trivial⟩ ?_
  unfold fiduciallaw48_checked at hm
  refine WK_seq ?_
  refine WK_region ?_
  refine WO_box [.int .i64 p0_0, .int .i64 p0_1, .int .i64 p0_2, .int .i64 p0_3, .int .i64 p0_4, .slice a_p0_5 p0_5.length c_p0_5] rfl rfl trivial rfl rfl rfl (fun b2 => ?_)
  refine WO.cls (C' := St w0 m m [[⟨b2, 25, [.int .i64 p0_0, .int .i64 p0_1, .int .i64 p0_2, .int .i64 p0_3, .int .i64 p0_4, .slice a_p0_5 p0_5.length c_p0_5]⟩]]) (fun _ h => h) ?_
  refine WO_pure tbok 1 [(1, .pointer (some ⟨b2, 0, none⟩)), (2, .int .i64 0)] rfl ⟨rfl, rfl, trivial⟩ ?_
  refine WO_end ?_
  refine WK_seq ?_
  refine WK_seq ?_
  obtain ⟨s_1, hx3, hm⟩ := bind_some hm
  refine WK_meet [(1, .pointer (some ⟨b2, 0, none⟩)), (2, .int .i64 0), (48, .bool s_1)] (St w0 m m [[⟨b2, 25, [.int .i64 p0_0, .int .i64 p0_1, .int .i64 p0_2, .int .i64 p0_3, .int .i64 p0_4, .slice a_p0_5 p0_5.length c_p0_5]⟩]]) ?_ (fun hk4 => ?_)
  · refine WK_cond (b := s_1) rfl (fun hb5 => ?_) (fun hb5 => ?_)
    · have hm := ifT hb5 hm
      refine WK_seq ?_
      refine WK_region ?_
      refine WO_pure tbok 1 [(1, .pointer (some ⟨b2, 0, none⟩)), (2, .int .i64 2)] rfl ⟨rfl, rfl, trivial⟩ ?_
      refine WO_end ?_
      cases hm
      exact WK_ret (ret_out (L := []) (RLc_tmp rfl RLc_nil) (List.nil_sublist _) rfl)
    · have hm := ifF hb5 hm
      refine WK_skip ?_
      refine WK_seq ?_
      refine WK_seq ?_
      refine WK_region ?_
      refine WO_pure tbok 1 [(1, .pointer (some ⟨b2, 0, none⟩)), (2, .int .i64 0), (49, .pointer (some ⟨b2, 5, none⟩))] rfl ⟨rfl, rfl, rfl, trivial⟩ ?_
      refine WO_loadB tbok 0 rfl rfl rfl rfl (fun _ h => h) rfl rfl ?_
      refine WO_pure tbok 2 [(1, .pointer (some ⟨b2, 0, none⟩)), (2, .int .i64 0), (51, .int .i64 (p0_5.length : Int)), (52, .pointer (some ⟨b2, 3, none⟩))] rfl ⟨rfl, rfl, rfl, rfl, trivial⟩ ?_
      refine WO_loadB tbok 0 rfl rfl rfl rfl (fun _ h => h) rfl rfl ?_
      refine WO_pure tbok 1 [(1, .pointer (some ⟨b2, 0, none⟩)), (2, .int .i64 0), (51, .int .i64 (p0_5.length : Int)), (53, .int .i64 p0_3), (54, .pointer (some ⟨b2, 4, none⟩))] rfl ⟨rfl, rfl, rfl, rfl, rfl, trivial⟩ ?_
      refine WO_loadB tbok 0 rfl rfl rfl rfl (fun _ h => h) rfl rfl ?_
      refine WO_pure tbok 2 [(1, .pointer (some ⟨b2, 0, none⟩)), (2, .int .i64 0), (57, .bool ((p0_5.length : Int) != (w64 (p0_3 * p0_4))))] rfl ⟨rfl, rfl, rfl, trivial⟩ ?_
      refine WO_end ?_
      refine WK_cond (b := (p0_5.length : Int) != (w64 (p0_3 * p0_4))) rfl (fun hb6 => ?_) (fun hb6 => ?_)
      · have hm := ifT hb6 hm
        refine WK_seq ?_
        refine WK_region ?_
        refine WO_pure tbok 1 [(1, .pointer (some ⟨b2, 0, none⟩)), (2, .int .i64 4)] rfl ⟨rfl, rfl, trivial⟩ ?_
        refine WO_end ?_
        cases hm
        exact WK_ret (ret_out (L := []) (RLc_tmp rfl RLc_nil) (List.nil_sublist _) rfl)
      · have hm := ifF hb6 hm
        refine WK_skip ?_
        refine WK_seq ?_
        refine WK_seq ?_
        refine WK_region ?_
        refine WO_pure tbok 1 [(2, .int .i64 0), (58, .pointer (some ⟨b2, 5, none⟩))] rfl ⟨rfl, rfl, trivial⟩ ?_
        refine WO_loadB tbok 0 rfl rfl rfl rfl (fun _ h => h) rfl rfl ?_
        refine WO_pure tbok 2 [(2, .int .i64 0), (59, .slice a_p0_5 p0_5.length c_p0_5), (60, .int .i64 (p0_5.length : Int)), (61, .int .i64 0)] rfl ⟨rfl, rfl, rfl, rfl, trivial⟩ ?_
        refine WO_end ?_
        obtain ⟨x7, hx8, hm⟩ := bind_some hm
        refine WK_join (β := Unit × Unit) (fun p => Sum.inr p.1 = x7) (fun p => [(2, .int .i64 0)]) (fun p => St w0 m m [[⟨b2, 25, [.int .i64 p0_0, .int .i64 p0_1, .int .i64 p0_2, .int .i64 p0_3, .int .i64 p0_4, .slice a_p0_5 p0_5.length c_p0_5]⟩]]) ?_ (fun hk9 => ?_)
        · rintro ⟨⟨⟩, ⟨⟩⟩ hq15
          subst hq15
          refine WK.sub (e' := [(2, .int .i64 0)]) ⟨rfl, trivial⟩ (WK.cls (C' := St w0 m m [[⟨b2, 25, [.int .i64 p0_0, .int .i64 p0_1, .int .i64 p0_2, .int .i64 p0_3, .int .i64 p0_4, .slice a_p0_5 p0_5.length c_p0_5]⟩]]) (fun _ h => h) ?_)
          refine WK_seq ?_
          refine WK_region ?_
          refine WO_pure tbok 1 [(2, .int .i64 0)] rfl ⟨rfl, trivial⟩ ?_
          refine WO_end ?_
          cases hm
          exact WK_ret (ret_out (L := []) (RLc_tmp rfl RLc_nil) (List.nil_sublist _) rfl)
        · refine WK_block ?_
          refine WK_loop (S := Int) (G := Unit) (fun s => fiduciallaw48_checked_s1 p0_5 s) (fun s g => [(2, .int .i64 0), (59, .slice a_p0_5 p0_5.length c_p0_5), (60, .int .i64 (p0_5.length : Int)), (61, .int .i64 s)]) (fun s g => St w0 m m [[⟨b2, 25, [.int .i64 p0_0, .int .i64 p0_1, .int .i64 p0_2, .int .i64 p0_3, .int .i64 p0_4, .slice a_p0_5 p0_5.length c_p0_5]⟩]]) (fun s g => True) FUEL 0 () x7 hx8 trivial ⟨rfl, rfl, rfl, rfl, trivial⟩ (fun _ h => h) ?_
          rintro s_2 ⟨⟩ o11 fl12 hm10 - hn13 hd14
          have hm10 : fiduciallaw48_checked_s1 p0_5 s_2 = some o11 := hm10
          unfold fiduciallaw48_checked_s1 at hm10
          refine WK.sub (e' := [(2, .int .i64 0), (59, .slice a_p0_5 p0_5.length c_p0_5), (60, .int .i64 (p0_5.length : Int)), (61, .int .i64 s_2)]) ⟨rfl, rfl, rfl, rfl, trivial⟩ (WK.cls (C' := St w0 m m [[⟨b2, 25, [.int .i64 p0_0, .int .i64 p0_1, .int .i64 p0_2, .int .i64 p0_3, .int .i64 p0_4, .slice a_p0_5 p0_5.length c_p0_5]⟩]]) (fun _ h => h) ?_)
          refine WK_seq ?_
          refine WK_region ?_
          refine WO_pure tbok 1 [(2, .int .i64 0), (59, .slice a_p0_5 p0_5.length c_p0_5), (60, .int .i64 (p0_5.length : Int)), (61, .int .i64 s_2), (62, .bool (decide (s_2 < (p0_5.length : Int))))] rfl ⟨rfl, rfl, rfl, rfl, rfl, trivial⟩ ?_
          refine WO_end ?_
          refine WK_seq ?_
          refine WK_cond (b := decide (s_2 < (p0_5.length : Int))) rfl (fun hb16 => ?_) (fun hb16 => ?_)
          · have hm10 := ifT hb16 hm10
            refine WK_skip ?_
            refine WK_seq ?_
            refine WK_block ?_
            refine WK_seq ?_
            refine WK_region ?_
            obtain ⟨v_3, hy17, hm10⟩ := bind_some hm10
            obtain ⟨hc18, hy17⟩ := ix_some hy17
            refine WO_index tbok rfl rfl rfl rfl rfl rfl rfl rfl (SlR.addr h_p0_5) hc18 ?_
            refine WO_loadE tbok rfl rfl rfl rfl (fun _ h => St.sat h) h_p0_5 hy17 rfl ?_
            refine WO_pure tbok 1 [(2, .int .i64 0), (4, .int .i64 v_3), (59, .slice a_p0_5 p0_5.length c_p0_5), (60, .int .i64 (p0_5.length : Int)), (61, .int .i64 s_2)] rfl ⟨rfl, rfl, rfl, rfl, rfl, trivial⟩ ?_
            refine WO_end ?_
            refine WK_seq ?_
            obtain ⟨s_4, hx19, hm10⟩ := bind_some hm10
            refine WK_meet [(2, .int .i64 0), (59, .slice a_p0_5 p0_5.length c_p0_5), (60, .int .i64 (p0_5.length : Int)), (61, .int .i64 s_2), (70, .bool s_4)] (St w0 m m [[⟨b2, 25, [.int .i64 p0_0, .int .i64 p0_1, .int .i64 p0_2, .int .i64 p0_3, .int .i64 p0_4, .slice a_p0_5 p0_5.length c_p0_5]⟩]]) ?_ (fun hk20 => ?_)
            · refine WK_cond (b := s_4) rfl (fun hb21 => ?_) (fun hb21 => ?_)
              · have hm10 := ifT hb21 hm10
                refine WK_seq ?_
                refine WK_region ?_
                refine WO_pure tbok 1 [(2, .int .i64 2), (59, .slice a_p0_5 p0_5.length c_p0_5), (60, .int .i64 (p0_5.length : Int)), (61, .int .i64 s_2)] rfl ⟨rfl, rfl, rfl, rfl, trivial⟩ ?_
                refine WO_end ?_
                cases hm10
                have hq := hd14 _ rfl
                subst hq
                have hm : some _ = some _ := hm
                cases hm
                exact WK_ret (ret_out (L := []) (RLc_tmp rfl RLc_nil) (List.nil_sublist _) rfl)
              · have hm10 := ifF hb21 hm10
                refine WK_skip ?_
                refine WK_blk ?_
                refine WK_region ?_
                refine WO_pure tbok 2 [(2, .int .i64 0), (59, .slice a_p0_5 p0_5.length c_p0_5), (60, .int .i64 (p0_5.length : Int)), (61, .int .i64 (w64 (s_2 + 1)))] rfl ⟨rfl, rfl, rfl, rfl, trivial⟩ ?_
                refine WO_end ?_
                cases hm10
                refine WK.sub ?_ (WK.cls (fun _ h => h) (hn13 _ () rfl trivial))
                exact ⟨rfl, rfl, rfl, rfl, trivial⟩
            · refine WK_region ?_
              refine WO_pure tbok 3 [(2, .int .i64 0), (4, .int .i64 v_3), (59, .slice a_p0_5 p0_5.length c_p0_5), (60, .int .i64 (p0_5.length : Int)), (61, .int .i64 s_2), (67, .bool (v_3 != (-2147483648)))] rfl ⟨rfl, rfl, rfl, rfl, rfl, rfl, trivial⟩ ?_
              refine WO_split (d := 67) (b := v_3 != (-2147483648)) rfl (fun hb22 => ?_) (fun hb22 => ?_)
              · have hx19 := ifT hb22 hx19
                refine WO_pure tbok 1 [(2, .int .i64 0), (59, .slice a_p0_5 p0_5.length c_p0_5), (60, .int .i64 (p0_5.length : Int)), (61, .int .i64 s_2), (67, .bool true), (68, .int .i64 v_3)] rfl ⟨rfl, rfl, rfl, rfl, rfl, rfl, trivial⟩ ?_
                obtain ⟨y_5, hc23, hx19⟩ := bind_some hx19
                refine WO_call0 (.bool y_5) rfl rfl trivial rfl rfl rfl rfl St_closed ⟨45, #[], #[], rfl, callable_45, fun w hw => ⟨_, hw.sat, fiduciallaw48_far_walk hc23⟩⟩ ?_
                refine WO_pure tbok 1 [(2, .int .i64 0), (59, .slice a_p0_5 p0_5.length c_p0_5), (60, .int .i64 (p0_5.length : Int)), (61, .int .i64 s_2), (70, .bool y_5)] rfl ⟨rfl, rfl, rfl, rfl, rfl, trivial⟩ ?_
                refine WO_end ?_
                cases hx19
                refine WK.sub ?_ (WK.cls (fun _ h => h) hk20)
                exact ⟨rfl, rfl, rfl, rfl, rfl, trivial⟩
              · have hx19 := ifF hb22 hx19
                refine WO_pure tbok 1 [(2, .int .i64 0), (59, .slice a_p0_5 p0_5.length c_p0_5), (60, .int .i64 (p0_5.length : Int)), (61, .int .i64 s_2), (67, .bool false)] rfl ⟨rfl, rfl, rfl, rfl, rfl, trivial⟩ ?_
                refine WO_skip rfl rfl ?_
                refine WO_pure tbok 1 [(2, .int .i64 0), (59, .slice a_p0_5 p0_5.length c_p0_5), (60, .int .i64 (p0_5.length : Int)), (61, .int .i64 s_2), (70, .bool false)] rfl ⟨rfl, rfl, rfl, rfl, rfl, trivial⟩ ?_
                refine WO_end ?_
                cases hx19
                refine WK.sub ?_ (WK.cls (fun _ h => h) hk20)
                exact ⟨rfl, rfl, rfl, rfl, rfl, trivial⟩
          · have hm10 := ifF hb16 hm10
            refine WK_exit rfl ?_
            cases hm10
            refine WK.sub ?_ (WK.cls (fun _ h => h) (hk9 ((), ()) (hd14 _ rfl)))
            exact ⟨rfl, trivial⟩
  · refine WK_region ?_
    refine WO_pure tbok 1 [(1, .pointer (some ⟨b2, 0, none⟩)), (2, .int .i64 0), (5, .pointer (some ⟨b2, 3, none⟩))] rfl ⟨rfl, rfl, rfl, trivial⟩ ?_
    refine WO_loadB tbok 0 rfl rfl rfl rfl (fun _ h => h) rfl rfl ?_
    refine WO_pure tbok 2 [(1, .pointer (some ⟨b2, 0, none⟩)), (2, .int .i64 0), (8, .bool (decide (p0_3 < 2)))] rfl ⟨rfl, rfl, rfl, trivial⟩ ?_
    refine WO_split (d := 8) (b := decide (p0_3 < 2)) rfl (fun hb24 => ?_) (fun hb24 => ?_)
    · have hx3 := ifT hb24 hx3
      refine WO_pure tbok 33 [(1, .pointer (some ⟨b2, 0, none⟩)), (2, .int .i64 0), (39, .bool true)] rfl ⟨rfl, rfl, rfl, trivial⟩ ?_
      refine WO_skip rfl rfl ?_
      refine WO_pure tbok 4 [(1, .pointer (some ⟨b2, 0, none⟩)), (2, .int .i64 0), (44, .bool true)] rfl ⟨rfl, rfl, rfl, trivial⟩ ?_
      refine WO_skip rfl rfl ?_
      refine WO_pure tbok 1 [(1, .pointer (some ⟨b2, 0, none⟩)), (2, .int .i64 0), (48, .bool true)] rfl ⟨rfl, rfl, rfl, trivial⟩ ?_
      refine WO_end ?_
      cases hx3
      refine WK.sub ?_ (WK.cls (fun _ h => h) hk4)
      exact ⟨rfl, rfl, rfl, trivial⟩
    · have hx3 := ifF hb24 hx3
      refine WO_pure tbok 1 [(1, .pointer (some ⟨b2, 0, none⟩)), (2, .int .i64 0), (8, .bool false), (9, .pointer (some ⟨b2, 3, none⟩))] rfl ⟨rfl, rfl, rfl, rfl, trivial⟩ ?_
      refine WO_loadB tbok 0 rfl rfl rfl rfl (fun _ h => h) rfl rfl ?_
      refine WO_pure tbok 3 [(1, .pointer (some ⟨b2, 0, none⟩)), (2, .int .i64 0), (13, .bool (decide (64 < p0_3)))] rfl ⟨rfl, rfl, rfl, trivial⟩ ?_
      refine WO_split (d := 13) (b := decide (64 < p0_3)) rfl (fun hb25 => ?_) (fun hb25 => ?_)
      · have hx3 := ifT hb25 hx3
        refine WO_pure tbok 28 [(1, .pointer (some ⟨b2, 0, none⟩)), (2, .int .i64 0), (39, .bool true)] rfl ⟨rfl, rfl, rfl, trivial⟩ ?_
        refine WO_skip rfl rfl ?_
        refine WO_pure tbok 4 [(1, .pointer (some ⟨b2, 0, none⟩)), (2, .int .i64 0), (44, .bool true)] rfl ⟨rfl, rfl, rfl, trivial⟩ ?_
        refine WO_skip rfl rfl ?_
        refine WO_pure tbok 1 [(1, .pointer (some ⟨b2, 0, none⟩)), (2, .int .i64 0), (48, .bool true)] rfl ⟨rfl, rfl, rfl, trivial⟩ ?_
        refine WO_end ?_
        cases hx3
        refine WK.sub ?_ (WK.cls (fun _ h => h) hk4)
        exact ⟨rfl, rfl, rfl, trivial⟩
      · have hx3 := ifF hb25 hx3
        refine WO_pure tbok 1 [(1, .pointer (some ⟨b2, 0, none⟩)), (2, .int .i64 0), (13, .bool false), (14, .pointer (some ⟨b2, 4, none⟩))] rfl ⟨rfl, rfl, rfl, rfl, trivial⟩ ?_
        refine WO_loadB tbok 0 rfl rfl rfl rfl (fun _ h => h) rfl rfl ?_
        refine WO_pure tbok 3 [(1, .pointer (some ⟨b2, 0, none⟩)), (2, .int .i64 0), (18, .bool (decide (p0_4 < 2)))] rfl ⟨rfl, rfl, rfl, trivial⟩ ?_
        refine WO_split (d := 18) (b := decide (p0_4 < 2)) rfl (fun hb26 => ?_) (fun hb26 => ?_)
        · have hx3 := ifT hb26 hx3
          refine WO_pure tbok 23 [(1, .pointer (some ⟨b2, 0, none⟩)), (2, .int .i64 0), (39, .bool true)] rfl ⟨rfl, rfl, rfl, trivial⟩ ?_
          refine WO_skip rfl rfl ?_
          refine WO_pure tbok 4 [(1, .pointer (some ⟨b2, 0, none⟩)), (2, .int .i64 0), (44, .bool true)] rfl ⟨rfl, rfl, rfl, trivial⟩ ?_
          refine WO_skip rfl rfl ?_
          refine WO_pure tbok 1 [(1, .pointer (some ⟨b2, 0, none⟩)), (2, .int .i64 0), (48, .bool true)] rfl ⟨rfl, rfl, rfl, trivial⟩ ?_
          refine WO_end ?_
          cases hx3
          refine WK.sub ?_ (WK.cls (fun _ h => h) hk4)
          exact ⟨rfl, rfl, rfl, trivial⟩
        · have hx3 := ifF hb26 hx3
          refine WO_pure tbok 1 [(1, .pointer (some ⟨b2, 0, none⟩)), (2, .int .i64 0), (18, .bool false), (19, .pointer (some ⟨b2, 4, none⟩))] rfl ⟨rfl, rfl, rfl, rfl, trivial⟩ ?_
          refine WO_loadB tbok 0 rfl rfl rfl rfl (fun _ h => h) rfl rfl ?_
          refine WO_pure tbok 3 [(1, .pointer (some ⟨b2, 0, none⟩)), (2, .int .i64 0), (23, .bool (decide (64 < p0_4)))] rfl ⟨rfl, rfl, rfl, trivial⟩ ?_
          refine WO_split (d := 23) (b := decide (64 < p0_4)) rfl (fun hb27 => ?_) (fun hb27 => ?_)
          · have hx3 := ifT hb27 hx3
            refine WO_pure tbok 18 [(1, .pointer (some ⟨b2, 0, none⟩)), (2, .int .i64 0), (39, .bool true)] rfl ⟨rfl, rfl, rfl, trivial⟩ ?_
            refine WO_skip rfl rfl ?_
            refine WO_pure tbok 4 [(1, .pointer (some ⟨b2, 0, none⟩)), (2, .int .i64 0), (44, .bool true)] rfl ⟨rfl, rfl, rfl, trivial⟩ ?_
            refine WO_skip rfl rfl ?_
            refine WO_pure tbok 1 [(1, .pointer (some ⟨b2, 0, none⟩)), (2, .int .i64 0), (48, .bool true)] rfl ⟨rfl, rfl, rfl, trivial⟩ ?_
            refine WO_end ?_
            cases hx3
            refine WK.sub ?_ (WK.cls (fun _ h => h) hk4)
            exact ⟨rfl, rfl, rfl, trivial⟩
          · have hx3 := ifF hb27 hx3
            refine WO_pure tbok 1 [(1, .pointer (some ⟨b2, 0, none⟩)), (2, .int .i64 0), (23, .bool false), (24, .pointer (some ⟨b2, 2, none⟩))] rfl ⟨rfl, rfl, rfl, rfl, trivial⟩ ?_
            refine WO_loadB tbok 0 rfl rfl rfl rfl (fun _ h => h) rfl rfl ?_
            refine WO_pure tbok 3 [(1, .pointer (some ⟨b2, 0, none⟩)), (2, .int .i64 0), (28, .bool (decide (p0_2 < 2)))] rfl ⟨rfl, rfl, rfl, trivial⟩ ?_
            refine WO_split (d := 28) (b := decide (p0_2 < 2)) rfl (fun hb28 => ?_) (fun hb28 => ?_)
            · have hx3 := ifT hb28 hx3
              refine WO_pure tbok 13 [(1, .pointer (some ⟨b2, 0, none⟩)), (2, .int .i64 0), (39, .bool true)] rfl ⟨rfl, rfl, rfl, trivial⟩ ?_
              refine WO_skip rfl rfl ?_
              refine WO_pure tbok 4 [(1, .pointer (some ⟨b2, 0, none⟩)), (2, .int .i64 0), (44, .bool true)] rfl ⟨rfl, rfl, rfl, trivial⟩ ?_
              refine WO_skip rfl rfl ?_
              refine WO_pure tbok 1 [(1, .pointer (some ⟨b2, 0, none⟩)), (2, .int .i64 0), (48, .bool true)] rfl ⟨rfl, rfl, rfl, trivial⟩ ?_
              refine WO_end ?_
              cases hx3
              refine WK.sub ?_ (WK.cls (fun _ h => h) hk4)
              exact ⟨rfl, rfl, rfl, trivial⟩
            · have hx3 := ifF hb28 hx3
              refine WO_pure tbok 1 [(1, .pointer (some ⟨b2, 0, none⟩)), (2, .int .i64 0), (28, .bool false), (29, .pointer (some ⟨b2, 2, none⟩))] rfl ⟨rfl, rfl, rfl, rfl, trivial⟩ ?_
              refine WO_loadB tbok 0 rfl rfl rfl rfl (fun _ h => h) rfl rfl ?_
              refine WO_pure tbok 3 [(1, .pointer (some ⟨b2, 0, none⟩)), (2, .int .i64 0), (33, .bool (decide (65536 < p0_2)))] rfl ⟨rfl, rfl, rfl, trivial⟩ ?_
              refine WO_split (d := 33) (b := decide (65536 < p0_2)) rfl (fun hb29 => ?_) (fun hb29 => ?_)
              · have hx3 := ifT hb29 hx3
                refine WO_pure tbok 8 [(1, .pointer (some ⟨b2, 0, none⟩)), (2, .int .i64 0), (39, .bool true)] rfl ⟨rfl, rfl, rfl, trivial⟩ ?_
                refine WO_skip rfl rfl ?_
                refine WO_pure tbok 4 [(1, .pointer (some ⟨b2, 0, none⟩)), (2, .int .i64 0), (44, .bool true)] rfl ⟨rfl, rfl, rfl, trivial⟩ ?_
                refine WO_skip rfl rfl ?_
                refine WO_pure tbok 1 [(1, .pointer (some ⟨b2, 0, none⟩)), (2, .int .i64 0), (48, .bool true)] rfl ⟨rfl, rfl, rfl, trivial⟩ ?_
                refine WO_end ?_
                cases hx3
                refine WK.sub ?_ (WK.cls (fun _ h => h) hk4)
                exact ⟨rfl, rfl, rfl, trivial⟩
              · have hx3 := ifF hb29 hx3
                refine WO_pure tbok 1 [(1, .pointer (some ⟨b2, 0, none⟩)), (2, .int .i64 0), (33, .bool false), (34, .pointer (some ⟨b2, 2, none⟩))] rfl ⟨rfl, rfl, rfl, rfl, trivial⟩ ?_
                refine WO_loadB tbok 0 rfl rfl rfl rfl (fun _ h => h) rfl rfl ?_
                refine WO_pure tbok 4 [(1, .pointer (some ⟨b2, 0, none⟩)), (2, .int .i64 0), (39, .bool ((Int.tmod p0_2 2) != 0))] rfl ⟨rfl, rfl, rfl, trivial⟩ ?_
                refine WO_split (d := 39) (b := (Int.tmod p0_2 2) != 0) rfl (fun hb30 => ?_) (fun hb30 => ?_)
                · have hx3 := ifT hb30 hx3
                  refine WO_pure tbok 2 [(1, .pointer (some ⟨b2, 0, none⟩)), (2, .int .i64 0), (39, .bool true)] rfl ⟨rfl, rfl, rfl, trivial⟩ ?_
                  refine WO_skip rfl rfl ?_
                  refine WO_pure tbok 4 [(1, .pointer (some ⟨b2, 0, none⟩)), (2, .int .i64 0), (44, .bool true)] rfl ⟨rfl, rfl, rfl, trivial⟩ ?_
                  refine WO_skip rfl rfl ?_
                  refine WO_pure tbok 1 [(1, .pointer (some ⟨b2, 0, none⟩)), (2, .int .i64 0), (48, .bool true)] rfl ⟨rfl, rfl, rfl, trivial⟩ ?_
                  refine WO_end ?_
                  cases hx3
                  refine WK.sub ?_ (WK.cls (fun _ h => h) hk4)
                  exact ⟨rfl, rfl, rfl, trivial⟩
                · have hx3 := ifF hb30 hx3
                  refine WO_pure tbok 1 [(1, .pointer (some ⟨b2, 0, none⟩)), (2, .int .i64 0), (39, .bool false), (40, .pointer (some ⟨b2, 0, none⟩))] rfl ⟨rfl, rfl, rfl, rfl, trivial⟩ ?_
                  refine WO_loadB tbok 0 rfl rfl rfl rfl (fun _ h => h) rfl rfl ?_
                  obtain ⟨y_6, hc31, hx3⟩ := bind_some hx3
                  refine WO_call0 (.bool y_6) rfl rfl trivial rfl rfl rfl rfl St_closed ⟨45, #[], #[], rfl, callable_45, fun w hw => ⟨_, hw.sat, fiduciallaw48_far_walk hc31⟩⟩ ?_
                  refine WO_pure tbok 2 [(1, .pointer (some ⟨b2, 0, none⟩)), (2, .int .i64 0), (44, .bool y_6)] rfl ⟨rfl, rfl, rfl, trivial⟩ ?_
                  refine WO_split (d := 44) (b := y_6) rfl (fun hb32 => ?_) (fun hb32 => ?_)
                  · have hx3 := ifT hb32 hx3
                    refine WO_pure tbok 2 [(1, .pointer (some ⟨b2, 0, none⟩)), (2, .int .i64 0), (44, .bool true)] rfl ⟨rfl, rfl, rfl, trivial⟩ ?_
                    refine WO_skip rfl rfl ?_
                    refine WO_pure tbok 1 [(1, .pointer (some ⟨b2, 0, none⟩)), (2, .int .i64 0), (48, .bool true)] rfl ⟨rfl, rfl, rfl, trivial⟩ ?_
                    refine WO_end ?_
                    cases hx3
                    refine WK.sub ?_ (WK.cls (fun _ h => h) hk4)
                    exact ⟨rfl, rfl, rfl, trivial⟩
                  · have hx3 := ifF hb32 hx3
                    refine WO_pure tbok 1 [(1, .pointer (some ⟨b2, 0, none⟩)), (2, .int .i64 0), (44, .bool false), (45, .pointer (some ⟨b2, 1, none⟩))] rfl ⟨rfl, rfl, rfl, rfl, trivial⟩ ?_
                    refine WO_loadB tbok 0 rfl rfl rfl rfl (fun _ h => h) rfl rfl ?_
                    obtain ⟨y_7, hc33, hx3⟩ := bind_some hx3
                    refine WO_call0 (.bool y_7) rfl rfl trivial rfl rfl rfl rfl St_closed ⟨45, #[], #[], rfl, callable_45, fun w hw => ⟨_, hw.sat, fiduciallaw48_far_walk hc33⟩⟩ ?_
                    refine WO_pure tbok 1 [(1, .pointer (some ⟨b2, 0, none⟩)), (2, .int .i64 0), (48, .bool y_7)] rfl ⟨rfl, rfl, rfl, trivial⟩ ?_
                    refine WO_end ?_
                    cases hx3
                    refine WK.sub ?_ (WK.cls (fun _ h => h) hk4)
                    exact ⟨rfl, rfl, rfl, trivial⟩
theorem fiduciallaw48_surface_c1_walk {m : Mu} {p0 : Int} {p1 : Int} {p2 : Int} {q0_0 : Int} {q0_1 : Int} {q0_2 : Int} {q0_3 : Int} {q0_4 : Int} {q0_5 : List Int} {a_q0_5 : Option Addr} {q_q0_5 c_q0_5 : Nat} {b_q0 : Nat} (hb_q0 : m b_q0 = some (Ent.obj ⟨b_q0, 25, [.int .i64 q0_0, .int .i64 q0_1, .int .i64 q0_2, .int .i64 q0_3, .int .i64 q0_4, .slice a_q0_5 q_q0_5 c_q0_5]⟩)) (h_q0_5 : SlR (FE (I1 .i64)) 1 m (.slice a_q0_5 q_q0_5 c_q0_5) q0_5) {r : Bool} (hm : fiduciallaw48_surface_c1 p0 p1 p2 q0_0 q0_1 q0_2 q0_3 q0_4 q0_5 = some r) :
    Go.E.Spec Try.prog 46 [.int .i64 p0, .int .i64 p1, .int .i64 p2, .pointer (some ⟨b_q0, 0, none⟩)] m (fun v _ _ => v = .bool r) := by
  refine Spec_enter Try.func46 rfl rfl rfl (fun w0 => ?_)
  refine WK.sub (e' := [(0, .int .i64 p0), (1, .int .i64 p1), (2, .int .i64 p2), (3, .pointer (some ⟨b_q0, 0, none⟩))]) ⟨rfl, rfl, rfl, rfl, trivial⟩ ?_
  obtain rfl := SlR.qlen h_q0_5
  refine WK.sub (e' := [(0, .int .i64 p0), (1, .int .i64 p1), (2, .int .i64 p2), (3, .pointer (some ⟨b_q0, 0, none⟩))]) ⟨rfl, rfl, rfl, rfl, trivial⟩ ?_
  unfold fiduciallaw48_surface_c1 at hm
  refine WK_seq ?_
  refine WK_region ?_
  refine WO_pure tbok 1 [(0, .int .i64 p0), (1, .int .i64 p1), (2, .int .i64 p2), (3, .pointer (some ⟨b_q0, 0, none⟩)), (7, .bool false)] rfl ⟨rfl, rfl, rfl, rfl, rfl, trivial⟩ ?_
  refine WO_end ?_
  refine WK_seq ?_
  refine WK_region ?_
  refine WO_pure tbok 5 [(3, .pointer (some ⟨b_q0, 0, none⟩)), (7, .bool false), (11, .int .i64 (w64 (p0 - p1))), (12, .int .i64 p2), (13, .pointer (some ⟨b_q0, 2, none⟩))] rfl ⟨rfl, rfl, rfl, rfl, rfl, trivial⟩ ?_
  refine WO_loadM tbok rfl rfl rfl rfl (fun _ h => St.sat h) hb_q0 rfl ?_
  refine WO_pure tbok 3 [(3, .pointer (some ⟨b_q0, 0, none⟩)), (7, .bool false), (8, .int .i64 (w64 ((w64 (p0 - p1)) - (w64 (p2 * q0_2)))))] rfl ⟨rfl, rfl, rfl, trivial⟩ ?_
  refine WO_end ?_
  refine WK_seq ?_
  refine WK_region ?_
  refine WO_pure tbok 2 [(3, .pointer (some ⟨b_q0, 0, none⟩)), (7, .bool false), (8, .int .i64 (w64 ((w64 (p0 - p1)) - (w64 (p2 * q0_2))))), (17, .int .i64 (w64 ((w64 (p0 - p1)) - (w64 (p2 * q0_2))))), (18, .pointer (some ⟨b_q0, 2, none⟩))] rfl ⟨rfl, rfl, rfl, rfl, rfl, trivial⟩ ?_
  refine WO_loadM tbok rfl rfl rfl rfl (fun _ h => St.sat h) hb_q0 rfl ?_
  refine WO_pure tbok 4 [(3, .pointer (some ⟨b_q0, 0, none⟩)), (7, .bool false), (8, .int .i64 (w64 ((w64 (p0 - p1)) - (w64 (p2 * q0_2))))), (23, .bool (decide ((w64 (Int.tdiv (w64 (0 - q0_2)) 2)) ≤ (w64 ((w64 (p0 - p1)) - (w64 (p2 * q0_2)))))))] rfl ⟨rfl, rfl, rfl, rfl, trivial⟩ ?_
  refine WO_split (d := 23) (b := decide ((w64 (Int.tdiv (w64 (0 - q0_2)) 2)) ≤ (w64 ((w64 (p0 - p1)) - (w64 (p2 * q0_2)))))) rfl (fun hb2 => ?_) (fun hb2 => ?_)
  · have hm := ifT hb2 hm
    refine WO_pure tbok 2 [(7, .bool false), (23, .bool true), (24, .int .i64 (w64 ((w64 (p0 - p1)) - (w64 (p2 * q0_2))))), (25, .pointer (some ⟨b_q0, 2, none⟩))] rfl ⟨rfl, rfl, rfl, rfl, trivial⟩ ?_
    refine WO_loadM tbok rfl rfl rfl rfl (fun _ h => St.sat h) hb_q0 rfl ?_
    refine WO_pure tbok 4 [(7, .bool (decide ((w64 ((w64 (p0 - p1)) - (w64 (p2 * q0_2)))) < (w64 (Int.tdiv q0_2 2)))))] rfl ⟨rfl, trivial⟩ ?_
    refine WO_end ?_
    cases hm
    exact WK_ret (ret_out (L := []) (RLc_tmp rfl RLc_nil) (List.nil_sublist _) rfl)
  · have hm := ifF hb2 hm
    refine WO_pure tbok 7 [(7, .bool false)] rfl ⟨rfl, trivial⟩ ?_
    refine WO_end ?_
    cases hm
    exact WK_ret (ret_out (L := []) (RLc_tmp rfl RLc_nil) (List.nil_sublist _) rfl)
def fiduciallaw48_with_Q (r : Int × Int × Int × Int × Int × List Int) : Value → Mu → List Ent → Prop := fun v m L => ∃ (a0 : Option Addr) (q0 c0 : Nat), v = .agg #[.int .i64 r.1, .int .i64 r.2.1, .int .i64 r.2.2.1, .int .i64 r.2.2.2.1, .int .i64 r.2.2.2.2.1, .slice a0 q0 c0] ∧ SlR (FE (I1 .i64)) 1 m (.slice a0 q0 c0) r.2.2.2.2.2
theorem fiduciallaw48_with_walk {m : Mu} {p0_0 : Int} {p0_1 : Int} {p0_2 : Int} {p0_3 : Int} {p0_4 : Int} {p0_5 : List Int} {p1 : List Int} {a_p0_5 : Option Addr} {q_p0_5 c_p0_5 : Nat} {a_p1 : Option Addr} {q_p1 c_p1 : Nat} (h_p0_5 : SlR (FE (I1 .i64)) 1 m (.slice a_p0_5 q_p0_5 c_p0_5) p0_5) (h_p1 : SlR (FE (I1 .i64)) 1 m (.slice a_p1 q_p1 c_p1) p1) {r : Int × Int × Int × Int × Int × List Int} (hm : fiduciallaw48_with p0_0 p0_1 p0_2 p0_3 p0_4 p0_5 p1 = some r) :
    Go.E.Spec Try.prog 22 [.agg #[.int .i64 p0_0, .int .i64 p0_1, .int .i64 p0_2, .int .i64 p0_3, .int .i64 p0_4, .slice a_p0_5 q_p0_5 c_p0_5], .slice a_p1 q_p1 c_p1] m (fiduciallaw48_with_Q r) := by
  refine Spec_enter Try.func22 rfl rfl rfl (fun w0 => ?_)
  refine WK.sub (e' := [(0, .agg #[.int .i64 p0_0, .int .i64 p0_1, .int .i64 p0_2, .int .i64 p0_3, .int .i64 p0_4, .slice a_p0_5 q_p0_5 c_p0_5]), (1, .slice a_p1 q_p1 c_p1)]) ⟨rfl, rfl, trivial⟩ ?_
  obtain rfl := SlR.qlen h_p0_5
  obtain rfl := SlR.qlen h_p1
  refine WK.sub (e' := [(0, .agg #[.int .i64 p0_0, .int .i64 p0_1, .int .i64 p0_2, .int .i64 p0_3, .int .i64 p0_4, .slice a_p0_5 p0_5.length c_p0_5]), (1, .slice a_p1 p1.length c_p1)]) ⟨rfl, rfl, trivial⟩ ?_
  unfold fiduciallaw48_with at hm
  refine WK_seq ?_
  refine WK_region ?_
  refine WO_box [.int .i64 p0_0, .int .i64 p0_1, .int .i64 p0_2, .int .i64 p0_3, .int .i64 p0_4, .slice a_p0_5 p0_5.length c_p0_5] rfl rfl trivial rfl rfl rfl (fun b3 => ?_)
  refine WO.cls (C' := St w0 m m [[⟨b3, 25, [.int .i64 p0_0, .int .i64 p0_1, .int .i64 p0_2, .int .i64 p0_3, .int .i64 p0_4, .slice a_p0_5 p0_5.length c_p0_5]⟩]]) (fun _ h => h) ?_
  refine WO_alloc tbok [.int .i64 0, .int .i64 0, .int .i64 0, .int .i64 0, .int .i64 0, .slice none 0 0] rfl rfl trivial rfl rfl rfl rfl (fun b4 => ?_)
  refine WO.cls (C' := St w0 m m [[⟨b3, 25, [.int .i64 p0_0, .int .i64 p0_1, .int .i64 p0_2, .int .i64 p0_3, .int .i64 p0_4, .slice a_p0_5 p0_5.length c_p0_5]⟩], [⟨b4, 25, [.int .i64 0, .int .i64 0, .int .i64 0, .int .i64 0, .int .i64 0, .slice none 0 0]⟩]]) (fun _ h => h) ?_
  refine WO_end ?_
  refine WK_seq ?_
  refine WK_region ?_
  refine WO_pure tbok 1 [(1, .slice a_p1 p1.length c_p1), (2, .pointer (some ⟨b3, 0, none⟩)), (4, .pointer (some ⟨b4, 0, none⟩)), (5, .pointer (some ⟨b3, 0, none⟩))] rfl ⟨rfl, rfl, rfl, rfl, trivial⟩ ?_
  refine WO_loadB tbok 0 rfl rfl rfl rfl (fun _ h => h) rfl rfl ?_
  refine WO_pure tbok 1 [(1, .slice a_p1 p1.length c_p1), (2, .pointer (some ⟨b3, 0, none⟩)), (4, .pointer (some ⟨b4, 0, none⟩)), (6, .int .i64 p0_0), (7, .pointer (some ⟨b3, 1, none⟩))] rfl ⟨rfl, rfl, rfl, rfl, rfl, trivial⟩ ?_
  refine WO_loadB tbok 0 rfl rfl rfl rfl (fun _ h => h) rfl rfl ?_
  refine WO_pure tbok 1 [(1, .slice a_p1 p1.length c_p1), (2, .pointer (some ⟨b3, 0, none⟩)), (4, .pointer (some ⟨b4, 0, none⟩)), (6, .int .i64 p0_0), (8, .int .i64 p0_1), (9, .pointer (some ⟨b3, 2, none⟩))] rfl ⟨rfl, rfl, rfl, rfl, rfl, rfl, trivial⟩ ?_
  refine WO_loadB tbok 0 rfl rfl rfl rfl (fun _ h => h) rfl rfl ?_
  refine WO_pure tbok 1 [(1, .slice a_p1 p1.length c_p1), (2, .pointer (some ⟨b3, 0, none⟩)), (4, .pointer (some ⟨b4, 0, none⟩)), (6, .int .i64 p0_0), (8, .int .i64 p0_1), (10, .int .i64 p0_2), (11, .pointer (some ⟨b3, 3, none⟩))] rfl ⟨rfl, rfl, rfl, rfl, rfl, rfl, rfl, trivial⟩ ?_
  refine WO_loadB tbok 0 rfl rfl rfl rfl (fun _ h => h) rfl rfl ?_
  refine WO_pure tbok 1 [(1, .slice a_p1 p1.length c_p1), (4, .pointer (some ⟨b4, 0, none⟩)), (6, .int .i64 p0_0), (8, .int .i64 p0_1), (10, .int .i64 p0_2), (12, .int .i64 p0_3), (13, .pointer (some ⟨b3, 4, none⟩))] rfl ⟨rfl, rfl, rfl, rfl, rfl, rfl, rfl, trivial⟩ ?_
  refine WO_loadB tbok 0 rfl rfl rfl rfl (fun _ h => h) rfl rfl ?_
  refine WO_pure tbok 2 [(4, .pointer (some ⟨b4, 0, none⟩)), (16, .agg #[.int .i64 p0_0, .int .i64 p0_1, .int .i64 p0_2, .int .i64 p0_3, .int .i64 p0_4, .slice a_p1 p1.length c_p1])] rfl ⟨rfl, rfl, trivial⟩ ?_
  refine WO_storeB tbok 1 [.int .i64 p0_0, .int .i64 p0_1, .int .i64 p0_2, .int .i64 p0_3, .int .i64 p0_4, .slice a_p1 p1.length c_p1] rfl rfl rfl rfl rfl rfl rfl ?_
  refine WO.cls (C' := St w0 m m [[⟨b3, 25, [.int .i64 p0_0, .int .i64 p0_1, .int .i64 p0_2, .int .i64 p0_3, .int .i64 p0_4, .slice a_p0_5 p0_5.length c_p0_5]⟩], [⟨b4, 25, [.int .i64 p0_0, .int .i64 p0_1, .int .i64 p0_2, .int .i64 p0_3, .int .i64 p0_4, .slice a_p1 p1.length c_p1]⟩]]) (fun _ h => h) ?_
  refine WO_end ?_
  cases hm
  exact WK_ret (ret_out (L := []) (RLc_cell tbok 1 rfl rfl rfl RLc_nil) (List.nil_sublist _) ⟨a_p1, p1.length, c_p1, rfl, h_p1⟩)
def fiduciallaw48_surface_Q (r : Int × Int × Int × Int × Int × List Int × Int) : Value → Mu → List Ent → Prop := fun v m L => ∃ (a0 : Option Addr) (q0 c0 : Nat), v = .tuple #[.agg #[.int .i64 r.1, .int .i64 r.2.1, .int .i64 r.2.2.1, .int .i64 r.2.2.2.1, .int .i64 r.2.2.2.2.1, .slice a0 q0 c0], .int .i64 r.2.2.2.2.2.2] ∧ SlR (FE (I1 .i64)) 1 m (.slice a0 q0 c0) r.2.2.2.2.2.1
theorem fiduciallaw48_surface_walk {m : Mu} {p0 : List (Int × Int × Int)} {p1_0 : Int} {p1_1 : Int} {p1_2 : Int} {p1_3 : Int} {p1_4 : Int} {p1_5 : List Int} {a_p0 : Option Addr} {q_p0 c_p0 : Nat} {a_p1_5 : Option Addr} {q_p1_5 c_p1_5 : Nat} (h_p0 : SlR (FE T3) 3 m (.slice a_p0 q_p0 c_p0) p0) (h_p1_5 : SlR (FE (I1 .i64)) 1 m (.slice a_p1_5 q_p1_5 c_p1_5) p1_5) {r : Int × Int × Int × Int × Int × List Int × Int} (hm : fiduciallaw48_surface p0 p1_0 p1_1 p1_2 p1_3 p1_4 p1_5 = some r) :
    Go.E.Spec Try.prog 14 [.slice a_p0 q_p0 c_p0, .agg #[.int .i64 p1_0, .int .i64 p1_1, .int .i64 p1_2, .int .i64 p1_3, .int .i64 p1_4, .slice a_p1_5 q_p1_5 c_p1_5]] m (fiduciallaw48_surface_Q r) := by
  refine Spec_enter Try.func14 rfl rfl rfl (fun w0 => ?_)
  refine WK.sub (e' := [(0, .slice a_p0 q_p0 c_p0), (1, .agg #[.int .i64 p1_0, .int .i64 p1_1, .int .i64 p1_2, .int .i64 p1_3, .int .i64 p1_4, .slice a_p1_5 q_p1_5 c_p1_5])]) ⟨rfl, rfl, trivial⟩ ?_
  obtain rfl := SlR.qlen h_p0
  obtain rfl := SlR.qlen h_p1_5
  refine WK.sub (e' := [(0, .slice a_p0 p0.length c_p0), (1, .agg #[.int .i64 p1_0, .int .i64 p1_1, .int .i64 p1_2, .int .i64 p1_3, .int .i64 p1_4, .slice a_p1_5 p1_5.length c_p1_5])]) ⟨rfl, rfl, trivial⟩ ?_
  unfold fiduciallaw48_surface at hm
  refine WK_seq ?_
  refine WK_region ?_
  refine WO_box [.int .i64 p1_0, .int .i64 p1_1, .int .i64 p1_2, .int .i64 p1_3, .int .i64 p1_4, .slice a_p1_5 p1_5.length c_p1_5] rfl rfl trivial rfl rfl rfl (fun b3 => ?_)
  refine WO.cls (C' := St w0 m m [[⟨b3, 25, [.int .i64 p1_0, .int .i64 p1_1, .int .i64 p1_2, .int .i64 p1_3, .int .i64 p1_4, .slice a_p1_5 p1_5.length c_p1_5]⟩]]) (fun _ h => h) ?_
  refine WO_alloc tbok [.int .i64 0, .int .i64 0, .int .i64 0, .int .i64 0, .int .i64 0, .slice none 0 0] rfl rfl trivial rfl rfl rfl rfl (fun b4 => ?_)
  refine WO.cls (C' := St w0 m m [[⟨b3, 25, [.int .i64 p1_0, .int .i64 p1_1, .int .i64 p1_2, .int .i64 p1_3, .int .i64 p1_4, .slice a_p1_5 p1_5.length c_p1_5]⟩], [⟨b4, 25, [.int .i64 0, .int .i64 0, .int .i64 0, .int .i64 0, .int .i64 0, .slice none 0 0]⟩]]) (fun _ h => h) ?_
  refine WO_pure tbok 1 [(0, .slice a_p0 p0.length c_p0), (3, .pointer (some ⟨b3, 0, none⟩)), (4, .pointer (some ⟨b4, 0, none⟩)), (5, .int .i64 0)] rfl ⟨rfl, rfl, rfl, rfl, trivial⟩ ?_
  refine WO_end ?_
  refine WK_seq ?_
  refine WK_seq ?_
  refine WK_region ?_
  refine WO_loadB tbok 0 rfl rfl rfl rfl (fun _ h => h) rfl rfl ?_
  obtain ⟨y_1, hc5, hm⟩ := bind_some hm
  refine WO_call0 (.int .i64 y_1) rfl rfl trivial rfl rfl rfl rfl St_closed ⟨17, #[], #[], rfl, callable_17, fun w hw => ⟨_, hw.sat, fiduciallaw48_checked_walk h_p1_5 hc5⟩⟩ ?_
  refine WO_pure tbok 1 [(0, .slice a_p0 p0.length c_p0), (3, .pointer (some ⟨b3, 0, none⟩)), (4, .pointer (some ⟨b4, 0, none⟩)), (5, .int .i64 0), (6, .int .i64 y_1)] rfl ⟨rfl, rfl, rfl, rfl, rfl, trivial⟩ ?_
  refine WO_end ?_
  refine WK_seq ?_
  refine WK_region ?_
  refine WO_pure tbok 2 [(0, .slice a_p0 p0.length c_p0), (3, .pointer (some ⟨b3, 0, none⟩)), (4, .pointer (some ⟨b4, 0, none⟩)), (5, .int .i64 0), (6, .int .i64 y_1), (19, .bool (y_1 != 0))] rfl ⟨rfl, rfl, rfl, rfl, rfl, rfl, trivial⟩ ?_
  refine WO_end ?_
  refine WK_cond (b := y_1 != 0) rfl (fun hb6 => ?_) (fun hb6 => ?_)
  · have hm := ifT hb6 hm
    refine WK_seq ?_
    refine WK_region ?_
    refine WO_pure tbok 2 [(0, .slice a_p0 p0.length c_p0), (3, .pointer (some ⟨b3, 0, none⟩)), (4, .pointer (some ⟨b4, 0, none⟩)), (5, .int .i64 0), (20, .agg #[.int .i64 0, .int .i64 0, .int .i64 0, .int .i64 0, .int .i64 0, .slice none 0 0]), (21, .int .i64 y_1)] rfl ⟨rfl, rfl, rfl, rfl, rfl, rfl, trivial⟩ ?_
    refine WO_storeB tbok 1 [.int .i64 0, .int .i64 0, .int .i64 0, .int .i64 0, .int .i64 0, .slice none 0 0] rfl rfl rfl rfl rfl rfl rfl ?_
    refine WO.cls (C' := St w0 m m [[⟨b3, 25, [.int .i64 p1_0, .int .i64 p1_1, .int .i64 p1_2, .int .i64 p1_3, .int .i64 p1_4, .slice a_p1_5 p1_5.length c_p1_5]⟩], [⟨b4, 25, [.int .i64 0, .int .i64 0, .int .i64 0, .int .i64 0, .int .i64 0, .slice none 0 0]⟩]]) (fun _ h => h) ?_
    refine WO_pure tbok 1 [(0, .slice a_p0 p0.length c_p0), (3, .pointer (some ⟨b3, 0, none⟩)), (4, .pointer (some ⟨b4, 0, none⟩)), (5, .int .i64 y_1)] rfl ⟨rfl, rfl, rfl, rfl, trivial⟩ ?_
    refine WO_end ?_
    cases hm
    exact WK_ret (ret_out (L := []) (RLc_cell tbok 1 rfl rfl rfl (RLc_tmp rfl RLc_nil)) (List.nil_sublist _) ⟨none, 0, 0, rfl, SlR_nil⟩)
  · have hm := ifF hb6 hm
    refine WK_skip ?_
    refine WK_seq ?_
    refine WK_seq ?_
    refine WK_region ?_
    refine WO_pure tbok 3 [(0, .slice a_p0 p0.length c_p0), (3, .pointer (some ⟨b3, 0, none⟩)), (4, .pointer (some ⟨b4, 0, none⟩)), (5, .int .i64 0), (24, .bool (decide (4096 < (p0.length : Int))))] rfl ⟨rfl, rfl, rfl, rfl, rfl, trivial⟩ ?_
    refine WO_end ?_
    refine WK_cond (b := decide (4096 < (p0.length : Int))) rfl (fun hb7 => ?_) (fun hb7 => ?_)
    · have hm := ifT hb7 hm
      refine WK_seq ?_
      refine WK_region ?_
      refine WO_pure tbok 1 [(0, .slice a_p0 p0.length c_p0), (3, .pointer (some ⟨b3, 0, none⟩)), (4, .pointer (some ⟨b4, 0, none⟩)), (5, .int .i64 0), (25, .agg #[.int .i64 0, .int .i64 0, .int .i64 0, .int .i64 0, .int .i64 0, .slice none 0 0])] rfl ⟨rfl, rfl, rfl, rfl, rfl, trivial⟩ ?_
      refine WO_storeB tbok 1 [.int .i64 0, .int .i64 0, .int .i64 0, .int .i64 0, .int .i64 0, .slice none 0 0] rfl rfl rfl rfl rfl rfl rfl ?_
      refine WO.cls (C' := St w0 m m [[⟨b3, 25, [.int .i64 p1_0, .int .i64 p1_1, .int .i64 p1_2, .int .i64 p1_3, .int .i64 p1_4, .slice a_p1_5 p1_5.length c_p1_5]⟩], [⟨b4, 25, [.int .i64 0, .int .i64 0, .int .i64 0, .int .i64 0, .int .i64 0, .slice none 0 0]⟩]]) (fun _ h => h) ?_
      refine WO_pure tbok 1 [(0, .slice a_p0 p0.length c_p0), (3, .pointer (some ⟨b3, 0, none⟩)), (4, .pointer (some ⟨b4, 0, none⟩)), (5, .int .i64 3)] rfl ⟨rfl, rfl, rfl, rfl, trivial⟩ ?_
      refine WO_end ?_
      cases hm
      exact WK_ret (ret_out (L := []) (RLc_cell tbok 1 rfl rfl rfl (RLc_tmp rfl RLc_nil)) (List.nil_sublist _) ⟨none, 0, 0, rfl, SlR_nil⟩)
    · have hm := ifF hb7 hm
      refine WK_skip ?_
      refine WK_seq ?_
      refine WK_seq ?_
      refine WK_region ?_
      refine WO_pure tbok 3 [(0, .slice a_p0 p0.length c_p0), (3, .pointer (some ⟨b3, 0, none⟩)), (4, .pointer (some ⟨b4, 0, none⟩)), (5, .int .i64 0), (26, .slice a_p0 p0.length c_p0), (27, .int .i64 (p0.length : Int)), (28, .int .i64 0)] rfl ⟨rfl, rfl, rfl, rfl, rfl, rfl, rfl, trivial⟩ ?_
      refine WO_end ?_
      obtain ⟨x8, hx9, hm⟩ := bind_some hm
      refine WK_join (β := Unit × Unit) (fun p => Sum.inr p.1 = x8) (fun p => [(0, .slice a_p0 p0.length c_p0), (3, .pointer (some ⟨b3, 0, none⟩)), (4, .pointer (some ⟨b4, 0, none⟩)), (5, .int .i64 0)]) (fun p => St w0 m m [[⟨b3, 25, [.int .i64 p1_0, .int .i64 p1_1, .int .i64 p1_2, .int .i64 p1_3, .int .i64 p1_4, .slice a_p1_5 p1_5.length c_p1_5]⟩], [⟨b4, 25, [.int .i64 0, .int .i64 0, .int .i64 0, .int .i64 0, .int .i64 0, .slice none 0 0]⟩]]) ?_ (fun hk10 => ?_)
      · rintro ⟨⟨⟩, ⟨⟩⟩ hq16
        subst hq16
        refine WK.sub (e' := [(0, .slice a_p0 p0.length c_p0), (3, .pointer (some ⟨b3, 0, none⟩)), (4, .pointer (some ⟨b4, 0, none⟩)), (5, .int .i64 0)]) ⟨rfl, rfl, rfl, rfl, trivial⟩ (WK.cls (C' := St w0 m m [[⟨b3, 25, [.int .i64 p1_0, .int .i64 p1_1, .int .i64 p1_2, .int .i64 p1_3, .int .i64 p1_4, .slice a_p1_5 p1_5.length c_p1_5]⟩], [⟨b4, 25, [.int .i64 0, .int .i64 0, .int .i64 0, .int .i64 0, .int .i64 0, .slice none 0 0]⟩]]) (fun _ h => h) ?_)
        refine WK_seq ?_
        refine WK_region ?_
        refine WO_pure tbok 1 [(0, .slice a_p0 p0.length c_p0), (3, .pointer (some ⟨b3, 0, none⟩)), (4, .pointer (some ⟨b4, 0, none⟩)), (5, .int .i64 0), (9, .slice none 0 0)] rfl ⟨rfl, rfl, rfl, rfl, rfl, trivial⟩ ?_
        refine WO_end ?_
        refine WK_seq ?_
        refine WK_region ?_
        refine WO_pure tbok 2 [(0, .slice a_p0 p0.length c_p0), (3, .pointer (some ⟨b3, 0, none⟩)), (4, .pointer (some ⟨b4, 0, none⟩)), (5, .int .i64 0), (9, .slice none 0 0), (10, .func (.func 46) #[] #[.pointer (some ⟨b3, 0, none⟩)])] rfl ⟨rfl, rfl, rfl, rfl, rfl, rfl, trivial⟩ ?_
        refine WO_end ?_
        refine WK_seq ?_
        refine WK_seq ?_
        refine WK_region ?_
        refine WO_pure tbok 1 [(0, .slice a_p0 p0.length c_p0), (3, .pointer (some ⟨b3, 0, none⟩)), (4, .pointer (some ⟨b4, 0, none⟩)), (5, .int .i64 0), (9, .slice none 0 0), (10, .func (.func 46) #[] #[.pointer (some ⟨b3, 0, none⟩)]), (48, .pointer (some ⟨b3, 4, none⟩))] rfl ⟨rfl, rfl, rfl, rfl, rfl, rfl, rfl, trivial⟩ ?_
        refine WO_loadB tbok 0 rfl rfl rfl rfl (fun _ h => h) rfl rfl ?_
        refine WO_pure tbok 1 [(0, .slice a_p0 p0.length c_p0), (3, .pointer (some ⟨b3, 0, none⟩)), (4, .pointer (some ⟨b4, 0, none⟩)), (5, .int .i64 0), (9, .slice none 0 0), (10, .func (.func 46) #[] #[.pointer (some ⟨b3, 0, none⟩)]), (49, .int .i64 p1_4), (50, .int .i64 0)] rfl ⟨rfl, rfl, rfl, rfl, rfl, rfl, rfl, rfl, trivial⟩ ?_
        refine WO_end ?_
        refine WK_pad ?_
        obtain ⟨x28, hx29, hm⟩ := bind_some hm
        refine WK_join (β := (List Int) × (Option Addr × Nat × Nat × List Ent)) (fun p => p.1 = x28 ∧ OwnE 3 1 (I1 .i64) (.slice p.2.1 p.2.2.1 p.2.2.2.1) p.1 p.2.2.2.2) (fun p => [(3, .pointer (some ⟨b3, 0, none⟩)), (4, .pointer (some ⟨b4, 0, none⟩)), (5, .int .i64 0), (9, .slice p.2.1 p.2.2.1 p.2.2.2.1)]) (fun p => St w0 m m [[⟨b3, 25, [.int .i64 p1_0, .int .i64 p1_1, .int .i64 p1_2, .int .i64 p1_3, .int .i64 p1_4, .slice a_p1_5 p1_5.length c_p1_5]⟩], [⟨b4, 25, [.int .i64 0, .int .i64 0, .int .i64 0, .int .i64 0, .int .i64 0, .slice none 0 0]⟩], p.2.2.2.2]) ?_ (fun hk30 => ?_)
        · rintro ⟨l_5, ⟨a25, q26, c27, L24⟩⟩ ⟨hq36, hL24⟩
          subst hq36
          have hqq : q26 = l_5.length := OwnE.qlen hL24
          subst hqq
          refine WK.sub (e' := [(3, .pointer (some ⟨b3, 0, none⟩)), (4, .pointer (some ⟨b4, 0, none⟩)), (5, .int .i64 0), (9, .slice a25 ((l_5).length) c27)]) ⟨rfl, rfl, rfl, rfl, trivial⟩ (WK.cls (C' := St w0 m m [[⟨b3, 25, [.int .i64 p1_0, .int .i64 p1_1, .int .i64 p1_2, .int .i64 p1_3, .int .i64 p1_4, .slice a_p1_5 p1_5.length c_p1_5]⟩], [⟨b4, 25, [.int .i64 0, .int .i64 0, .int .i64 0, .int .i64 0, .int .i64 0, .slice none 0 0]⟩], L24]) (fun _ h => h) ?_)
          refine WK_seq ?_
          refine WK_region ?_
          refine WO_loadB tbok 0 rfl rfl rfl rfl (fun _ h => h) rfl rfl ?_
          refine WO_pure tbok 1 [(4, .pointer (some ⟨b4, 0, none⟩)), (5, .int .i64 0), (91, .agg #[.int .i64 p1_0, .int .i64 p1_1, .int .i64 p1_2, .int .i64 p1_3, .int .i64 p1_4, .slice a_p1_5 p1_5.length c_p1_5]), (92, .slice a25 ((l_5).length) c27)] rfl ⟨rfl, rfl, rfl, rfl, trivial⟩ ?_
          refine WO_freeze 2 rfl (fun m37 hle38 hmm39 => ?_)
          refine WO.cls (C' := St w0 m m37 [[⟨b3, 25, [.int .i64 p1_0, .int .i64 p1_1, .int .i64 p1_2, .int .i64 p1_3, .int .i64 p1_4, .slice a_p1_5 p1_5.length c_p1_5]⟩], [⟨b4, 25, [.int .i64 0, .int .i64 0, .int .i64 0, .int .i64 0, .int .i64 0, .slice none 0 0]⟩], []]) (fun _ h => h) ?_
          obtain ⟨⟨y_6, y_7, y_8, y_9, y_10, y_11⟩, hc40, hm⟩ := bind_some hm
          refine WO_call2 (fiduciallaw48_with_Q (y_6, y_7, y_8, y_9, y_10, y_11)) rfl rfl trivial rfl rfl rfl rfl ⟨22, #[], #[], rfl, callable_22, fiduciallaw48_with_walk (h_p1_5.mono (mono_FE _) hle38) (OwnE.rd (E := (I1 .i64)) (k := 1) (fun _ => rfl) hL24 hmm39) hc40⟩ (fun v45 m46 L44 hle47 hq => ?_)
          obtain ⟨a41, qa41, c42, rfl, h48⟩ := hq
          obtain rfl := SlR.qlen h48
          refine WO.cls (C' := St w0 m m46 [[⟨b3, 25, [.int .i64 p1_0, .int .i64 p1_1, .int .i64 p1_2, .int .i64 p1_3, .int .i64 p1_4, .slice a_p1_5 p1_5.length c_p1_5]⟩], [⟨b4, 25, [.int .i64 0, .int .i64 0, .int .i64 0, .int .i64 0, .int .i64 0, .slice none 0 0]⟩], [], L44]) (fun _ h => h.sub (by simp)) ?_
          refine WO_storeB tbok 1 [.int .i64 y_6, .int .i64 y_7, .int .i64 y_8, .int .i64 y_9, .int .i64 y_10, .slice a41 ((y_11).length) c42] rfl rfl rfl rfl rfl rfl rfl ?_
          refine WO.cls (C' := St w0 m m46 [[⟨b3, 25, [.int .i64 p1_0, .int .i64 p1_1, .int .i64 p1_2, .int .i64 p1_3, .int .i64 p1_4, .slice a_p1_5 p1_5.length c_p1_5]⟩], [⟨b4, 25, [.int .i64 y_6, .int .i64 y_7, .int .i64 y_8, .int .i64 y_9, .int .i64 y_10, .slice a41 ((y_11).length) c42]⟩], [], L44]) (fun _ h => h) ?_
          refine WO_pure tbok 1 [(4, .pointer (some ⟨b4, 0, none⟩)), (5, .int .i64 0)] rfl ⟨rfl, rfl, trivial⟩ ?_
          refine WO_end ?_
          cases hm
          exact WK_ret (ret_out (L := []) (RLc_cell tbok 1 rfl rfl rfl (RLc_tmp rfl RLc_nil)) (List.nil_sublist _) ⟨a41, _, c42, rfl, h48⟩)
        · refine WK_block ?_
          refine WK_loop (S := List Int × Int) (G := Option Addr × Nat × Nat × List Ent) (fun s => fiduciallaw48_surface_s2 p0 p1_0 p1_1 p1_2 p1_3 p1_4 p1_5 s.1 s.2) (fun s g => [(0, .slice a_p0 p0.length c_p0), (3, .pointer (some ⟨b3, 0, none⟩)), (4, .pointer (some ⟨b4, 0, none⟩)), (5, .int .i64 0), (9, .slice g.1 g.2.1 g.2.2.1), (10, .func (.func 46) #[] #[.pointer (some ⟨b3, 0, none⟩)]), (49, .int .i64 p1_4), (50, .int .i64 s.2)]) (fun s g => St w0 m m [[⟨b3, 25, [.int .i64 p1_0, .int .i64 p1_1, .int .i64 p1_2, .int .i64 p1_3, .int .i64 p1_4, .slice a_p1_5 p1_5.length c_p1_5]⟩], [⟨b4, 25, [.int .i64 0, .int .i64 0, .int .i64 0, .int .i64 0, .int .i64 0, .slice none 0 0]⟩], g.2.2.2]) (fun s g => OwnE 3 1 (I1 .i64) (.slice g.1 g.2.1 g.2.2.1) s.1 g.2.2.2) FUEL (([] : List Int), 0) (none, 0, 0, []) x28 hx29 (OwnE.nil (T := 3) (k := 1) (E := (I1 .i64)) none) ⟨rfl, rfl, rfl, rfl, rfl, rfl, rfl, rfl, trivial⟩ (fun _ h => h) ?_
          rintro ⟨l_3, s_4⟩ ⟨a20, q21, c22, L19⟩ o32 fl33 hm31 hL19 hn34 hd35
          have hm31 : fiduciallaw48_surface_s2 p0 p1_0 p1_1 p1_2 p1_3 p1_4 p1_5 l_3 s_4 = some o32 := hm31
          unfold fiduciallaw48_surface_s2 at hm31
          have hqq : q21 = l_3.length := OwnE.qlen hL19
          subst hqq
          refine WK.sub (e' := [(0, .slice a_p0 p0.length c_p0), (3, .pointer (some ⟨b3, 0, none⟩)), (4, .pointer (some ⟨b4, 0, none⟩)), (5, .int .i64 0), (9, .slice a20 ((l_3).length) c22), (10, .func (.func 46) #[] #[.pointer (some ⟨b3, 0, none⟩)]), (49, .int .i64 p1_4), (50, .int .i64 s_4)]) ⟨rfl, rfl, rfl, rfl, rfl, rfl, rfl, rfl, trivial⟩ (WK.cls (C' := St w0 m m [[⟨b3, 25, [.int .i64 p1_0, .int .i64 p1_1, .int .i64 p1_2, .int .i64 p1_3, .int .i64 p1_4, .slice a_p1_5 p1_5.length c_p1_5]⟩], [⟨b4, 25, [.int .i64 0, .int .i64 0, .int .i64 0, .int .i64 0, .int .i64 0, .slice none 0 0]⟩], L19]) (fun _ h => h) ?_)
          refine WK_seq ?_
          refine WK_region ?_
          refine WO_pure tbok 1 [(0, .slice a_p0 p0.length c_p0), (3, .pointer (some ⟨b3, 0, none⟩)), (4, .pointer (some ⟨b4, 0, none⟩)), (5, .int .i64 0), (9, .slice a20 ((l_3).length) c22), (10, .func (.func 46) #[] #[.pointer (some ⟨b3, 0, none⟩)]), (49, .int .i64 p1_4), (50, .int .i64 s_4), (51, .bool (decide (s_4 < p1_4)))] rfl ⟨rfl, rfl, rfl, rfl, rfl, rfl, rfl, rfl, rfl, trivial⟩ ?_
          refine WO_end ?_
          refine WK_seq ?_
          refine WK_cond (b := decide (s_4 < p1_4)) rfl (fun hb49 => ?_) (fun hb49 => ?_)
          · have hm31 := ifT hb49 hm31
            refine WK_skip ?_
            refine WK_seq ?_
            refine WK_block ?_
            refine WK_seq ?_
            refine WK_region ?_
            refine WO_pure tbok 2 [(0, .slice a_p0 p0.length c_p0), (3, .pointer (some ⟨b3, 0, none⟩)), (4, .pointer (some ⟨b4, 0, none⟩)), (5, .int .i64 0), (9, .slice a20 ((l_3).length) c22), (10, .func (.func 46) #[] #[.pointer (some ⟨b3, 0, none⟩)]), (11, .int .i64 s_4), (49, .int .i64 p1_4), (50, .int .i64 s_4)] rfl ⟨rfl, rfl, rfl, rfl, rfl, rfl, rfl, rfl, rfl, trivial⟩ ?_
            refine WO_end ?_
            refine WK_seq ?_
            refine WK_region ?_
            refine WO_pure tbok 1 [(0, .slice a_p0 p0.length c_p0), (3, .pointer (some ⟨b3, 0, none⟩)), (4, .pointer (some ⟨b4, 0, none⟩)), (5, .int .i64 0), (9, .slice a20 ((l_3).length) c22), (10, .func (.func 46) #[] #[.pointer (some ⟨b3, 0, none⟩)]), (11, .int .i64 s_4), (49, .int .i64 p1_4), (50, .int .i64 s_4), (53, .pointer (some ⟨b3, 3, none⟩))] rfl ⟨rfl, rfl, rfl, rfl, rfl, rfl, rfl, rfl, rfl, rfl, trivial⟩ ?_
            refine WO_loadB tbok 0 rfl rfl rfl rfl (fun _ h => h) rfl rfl ?_
            refine WO_pure tbok 1 [(0, .slice a_p0 p0.length c_p0), (3, .pointer (some ⟨b3, 0, none⟩)), (4, .pointer (some ⟨b4, 0, none⟩)), (5, .int .i64 0), (9, .slice a20 ((l_3).length) c22), (10, .func (.func 46) #[] #[.pointer (some ⟨b3, 0, none⟩)]), (11, .int .i64 s_4), (49, .int .i64 p1_4), (50, .int .i64 s_4), (54, .int .i64 p1_3), (55, .int .i64 0)] rfl ⟨rfl, rfl, rfl, rfl, rfl, rfl, rfl, rfl, rfl, rfl, rfl, trivial⟩ ?_
            refine WO_end ?_
            obtain ⟨x60, hx61, hm31⟩ := bind_some hm31
            refine WK_join (β := (List Int) × (Option Addr × Nat × Nat × List Ent)) (fun p => p.1 = x60 ∧ OwnE 3 1 (I1 .i64) (.slice p.2.1 p.2.2.1 p.2.2.2.1) p.1 p.2.2.2.2) (fun p => [(0, .slice a_p0 p0.length c_p0), (3, .pointer (some ⟨b3, 0, none⟩)), (4, .pointer (some ⟨b4, 0, none⟩)), (5, .int .i64 0), (9, .slice p.2.1 p.2.2.1 p.2.2.2.1), (10, .func (.func 46) #[] #[.pointer (some ⟨b3, 0, none⟩)]), (49, .int .i64 p1_4), (50, .int .i64 s_4)]) (fun p => St w0 m m [[⟨b3, 25, [.int .i64 p1_0, .int .i64 p1_1, .int .i64 p1_2, .int .i64 p1_3, .int .i64 p1_4, .slice a_p1_5 p1_5.length c_p1_5]⟩], [⟨b4, 25, [.int .i64 0, .int .i64 0, .int .i64 0, .int .i64 0, .int .i64 0, .slice none 0 0]⟩], p.2.2.2.2]) ?_ (fun hk62 => ?_)
            · rintro ⟨l_14, ⟨a57, q58, c59, L56⟩⟩ ⟨hq68, hL56⟩
              subst hq68
              have hqq : q58 = l_14.length := OwnE.qlen hL56
              subst hqq
              refine WK.sub (e' := [(0, .slice a_p0 p0.length c_p0), (3, .pointer (some ⟨b3, 0, none⟩)), (4, .pointer (some ⟨b4, 0, none⟩)), (5, .int .i64 0), (9, .slice a57 ((l_14).length) c59), (10, .func (.func 46) #[] #[.pointer (some ⟨b3, 0, none⟩)]), (49, .int .i64 p1_4), (50, .int .i64 s_4)]) ⟨rfl, rfl, rfl, rfl, rfl, rfl, rfl, rfl, trivial⟩ (WK.cls (C' := St w0 m m [[⟨b3, 25, [.int .i64 p1_0, .int .i64 p1_1, .int .i64 p1_2, .int .i64 p1_3, .int .i64 p1_4, .slice a_p1_5 p1_5.length c_p1_5]⟩], [⟨b4, 25, [.int .i64 0, .int .i64 0, .int .i64 0, .int .i64 0, .int .i64 0, .slice none 0 0]⟩], L56]) (fun _ h => h) ?_)
              refine WK_blk ?_
              refine WK_region ?_
              refine WO_pure tbok 2 [(0, .slice a_p0 p0.length c_p0), (3, .pointer (some ⟨b3, 0, none⟩)), (4, .pointer (some ⟨b4, 0, none⟩)), (5, .int .i64 0), (9, .slice a57 ((l_14).length) c59), (10, .func (.func 46) #[] #[.pointer (some ⟨b3, 0, none⟩)]), (49, .int .i64 p1_4), (50, .int .i64 (w64 (s_4 + 1)))] rfl ⟨rfl, rfl, rfl, rfl, rfl, rfl, rfl, rfl, trivial⟩ ?_
              refine WO_end ?_
              cases hm31
              refine WK.sub ?_ (WK.cls (fun _ h => h) (hn34 _ (a57, _, c59, L56) rfl hL56))
              exact ⟨rfl, rfl, rfl, rfl, rfl, rfl, rfl, rfl, trivial⟩
            · refine WK_block ?_
              refine WK_loop (S := List Int × Int) (G := Option Addr × Nat × Nat × List Ent) (fun s => fiduciallaw48_surface_s3 p0 p1_0 p1_1 p1_2 p1_3 p1_4 p1_5 s_4 s.1 s.2) (fun s g => [(0, .slice a_p0 p0.length c_p0), (3, .pointer (some ⟨b3, 0, none⟩)), (4, .pointer (some ⟨b4, 0, none⟩)), (5, .int .i64 0), (9, .slice g.1 g.2.1 g.2.2.1), (10, .func (.func 46) #[] #[.pointer (some ⟨b3, 0, none⟩)]), (11, .int .i64 s_4), (49, .int .i64 p1_4), (50, .int .i64 s_4), (54, .int .i64 p1_3), (55, .int .i64 s.2)]) (fun s g => St w0 m m [[⟨b3, 25, [.int .i64 p1_0, .int .i64 p1_1, .int .i64 p1_2, .int .i64 p1_3, .int .i64 p1_4, .slice a_p1_5 p1_5.length c_p1_5]⟩], [⟨b4, 25, [.int .i64 0, .int .i64 0, .int .i64 0, .int .i64 0, .int .i64 0, .slice none 0 0]⟩], g.2.2.2]) (fun s g => OwnE 3 1 (I1 .i64) (.slice g.1 g.2.1 g.2.2.1) s.1 g.2.2.2) FUEL (l_3, 0) (a20, _, c22, L19) x60 hx61 hL19 ⟨rfl, rfl, rfl, rfl, rfl, rfl, rfl, rfl, rfl, rfl, rfl, trivial⟩ (fun _ h => h) ?_
              rintro ⟨l_12, s_13⟩ ⟨a52, q53, c54, L51⟩ o64 fl65 hm63 hL51 hn66 hd67
              have hm63 : fiduciallaw48_surface_s3 p0 p1_0 p1_1 p1_2 p1_3 p1_4 p1_5 s_4 l_12 s_13 = some o64 := hm63
              unfold fiduciallaw48_surface_s3 at hm63
              have hqq : q53 = l_12.length := OwnE.qlen hL51
              subst hqq
              refine WK.sub (e' := [(0, .slice a_p0 p0.length c_p0), (3, .pointer (some ⟨b3, 0, none⟩)), (4, .pointer (some ⟨b4, 0, none⟩)), (5, .int .i64 0), (9, .slice a52 ((l_12).length) c54), (10, .func (.func 46) #[] #[.pointer (some ⟨b3, 0, none⟩)]), (11, .int .i64 s_4), (49, .int .i64 p1_4), (50, .int .i64 s_4), (54, .int .i64 p1_3), (55, .int .i64 s_13)]) ⟨rfl, rfl, rfl, rfl, rfl, rfl, rfl, rfl, rfl, rfl, rfl, trivial⟩ (WK.cls (C' := St w0 m m [[⟨b3, 25, [.int .i64 p1_0, .int .i64 p1_1, .int .i64 p1_2, .int .i64 p1_3, .int .i64 p1_4, .slice a_p1_5 p1_5.length c_p1_5]⟩], [⟨b4, 25, [.int .i64 0, .int .i64 0, .int .i64 0, .int .i64 0, .int .i64 0, .slice none 0 0]⟩], L51]) (fun _ h => h) ?_)
              refine WK_seq ?_
              refine WK_region ?_
              refine WO_pure tbok 1 [(0, .slice a_p0 p0.length c_p0), (3, .pointer (some ⟨b3, 0, none⟩)), (4, .pointer (some ⟨b4, 0, none⟩)), (5, .int .i64 0), (9, .slice a52 ((l_12).length) c54), (10, .func (.func 46) #[] #[.pointer (some ⟨b3, 0, none⟩)]), (11, .int .i64 s_4), (49, .int .i64 p1_4), (50, .int .i64 s_4), (54, .int .i64 p1_3), (55, .int .i64 s_13), (56, .bool (decide (s_13 < p1_3)))] rfl ⟨rfl, rfl, rfl, rfl, rfl, rfl, rfl, rfl, rfl, rfl, rfl, rfl, trivial⟩ ?_
              refine WO_end ?_
              refine WK_seq ?_
              refine WK_cond (b := decide (s_13 < p1_3)) rfl (fun hb69 => ?_) (fun hb69 => ?_)
              · have hm63 := ifT hb69 hm63
                refine WK_skip ?_
                refine WK_seq ?_
                refine WK_block ?_
                refine WK_seq ?_
                refine WK_region ?_
                refine WO_pure tbok 2 [(0, .slice a_p0 p0.length c_p0), (3, .pointer (some ⟨b3, 0, none⟩)), (4, .pointer (some ⟨b4, 0, none⟩)), (5, .int .i64 0), (9, .slice a52 ((l_12).length) c54), (10, .func (.func 46) #[] #[.pointer (some ⟨b3, 0, none⟩)]), (11, .int .i64 s_4), (12, .int .i64 s_13), (49, .int .i64 p1_4), (50, .int .i64 s_4), (54, .int .i64 p1_3), (55, .int .i64 s_13)] rfl ⟨rfl, rfl, rfl, rfl, rfl, rfl, rfl, rfl, rfl, rfl, rfl, rfl, trivial⟩ ?_
                refine WO_end ?_
                refine WK_seq ?_
                refine WK_region ?_
                refine WO_pure tbok 1 [(0, .slice a_p0 p0.length c_p0), (3, .pointer (some ⟨b3, 0, none⟩)), (4, .pointer (some ⟨b4, 0, none⟩)), (5, .int .i64 0), (9, .slice a52 ((l_12).length) c54), (10, .func (.func 46) #[] #[.pointer (some ⟨b3, 0, none⟩)]), (11, .int .i64 s_4), (12, .int .i64 s_13), (13, .int .i64 (-2147483648)), (49, .int .i64 p1_4), (50, .int .i64 s_4), (54, .int .i64 p1_3), (55, .int .i64 s_13)] rfl ⟨rfl, rfl, rfl, rfl, rfl, rfl, rfl, rfl, rfl, rfl, rfl, rfl, rfl, trivial⟩ ?_
                refine WO_end ?_
                refine WK_seq ?_
                refine WK_seq ?_
                refine WK_region ?_
                refine WO_pure tbok 3 [(0, .slice a_p0 p0.length c_p0), (3, .pointer (some ⟨b3, 0, none⟩)), (4, .pointer (some ⟨b4, 0, none⟩)), (5, .int .i64 0), (9, .slice a52 ((l_12).length) c54), (10, .func (.func 46) #[] #[.pointer (some ⟨b3, 0, none⟩)]), (11, .int .i64 s_4), (12, .int .i64 s_13), (13, .int .i64 (-2147483648)), (49, .int .i64 p1_4), (50, .int .i64 s_4), (54, .int .i64 p1_3), (55, .int .i64 s_13), (58, .slice a_p0 p0.length c_p0), (59, .int .i64 (p0.length : Int)), (60, .int .i64 0)] rfl ⟨rfl, rfl, rfl, rfl, rfl, rfl, rfl, rfl, rfl, rfl, rfl, rfl, rfl, rfl, rfl, rfl, trivial⟩ ?_
                refine WO_end ?_
                obtain ⟨x70, hx71, hm63⟩ := bind_some hm63
                refine WK_join (β := Int × Unit) (fun p => p.1 = x70) (fun p => [(0, .slice a_p0 p0.length c_p0), (3, .pointer (some ⟨b3, 0, none⟩)), (4, .pointer (some ⟨b4, 0, none⟩)), (5, .int .i64 0), (9, .slice a52 ((l_12).length) c54), (10, .func (.func 46) #[] #[.pointer (some ⟨b3, 0, none⟩)]), (11, .int .i64 s_4), (13, .int .i64 p.1), (49, .int .i64 p1_4), (50, .int .i64 s_4), (54, .int .i64 p1_3), (55, .int .i64 s_13)]) (fun p => St w0 m m [[⟨b3, 25, [.int .i64 p1_0, .int .i64 p1_1, .int .i64 p1_2, .int .i64 p1_3, .int .i64 p1_4, .slice a_p1_5 p1_5.length c_p1_5]⟩], [⟨b4, 25, [.int .i64 0, .int .i64 0, .int .i64 0, .int .i64 0, .int .i64 0, .slice none 0 0]⟩], L51]) ?_ (fun hk72 => ?_)
                · rintro ⟨s_17, ⟨⟩⟩ hq78
                  subst hq78
                  refine WK.sub (e' := [(0, .slice a_p0 p0.length c_p0), (3, .pointer (some ⟨b3, 0, none⟩)), (4, .pointer (some ⟨b4, 0, none⟩)), (5, .int .i64 0), (9, .slice a52 ((l_12).length) c54), (10, .func (.func 46) #[] #[.pointer (some ⟨b3, 0, none⟩)]), (11, .int .i64 s_4), (13, .int .i64 s_17), (49, .int .i64 p1_4), (50, .int .i64 s_4), (54, .int .i64 p1_3), (55, .int .i64 s_13)]) ⟨rfl, rfl, rfl, rfl, rfl, rfl, rfl, rfl, rfl, rfl, rfl, rfl, trivial⟩ (WK.cls (C' := St w0 m m [[⟨b3, 25, [.int .i64 p1_0, .int .i64 p1_1, .int .i64 p1_2, .int .i64 p1_3, .int .i64 p1_4, .slice a_p1_5 p1_5.length c_p1_5]⟩], [⟨b4, 25, [.int .i64 0, .int .i64 0, .int .i64 0, .int .i64 0, .int .i64 0, .slice none 0 0]⟩], L51]) (fun _ h => h) ?_)
                  refine WK_region ?_
                  refine WO_pure tbok 2 [(0, .slice a_p0 p0.length c_p0), (3, .pointer (some ⟨b3, 0, none⟩)), (4, .pointer (some ⟨b4, 0, none⟩)), (5, .int .i64 0), (9, .slice a52 ((l_12).length) c54), (10, .func (.func 46) #[] #[.pointer (some ⟨b3, 0, none⟩)]), (11, .int .i64 s_4), (49, .int .i64 p1_4), (50, .int .i64 s_4), (54, .int .i64 p1_3), (55, .int .i64 s_13), (85, .slice a52 ((l_12).length) c54), (86, .int .i64 s_17)] rfl ⟨rfl, rfl, rfl, rfl, rfl, rfl, rfl, rfl, rfl, rfl, rfl, rfl, rfl, trivial⟩ ?_
                  refine WO_bslice (E := (I1 .i64)) tbok (fun _ => rfl) (by decide) [.int .i64 s_17] ([s_17] : List Int) rfl rfl trivial rfl rfl rfl rfl rfl rfl rfl rfl rfl rfl rfl rfl (fun b79 hb79 => ?_)
                  refine WO.cls (C' := St w0 m m [[⟨b3, 25, [.int .i64 p1_0, .int .i64 p1_1, .int .i64 p1_2, .int .i64 p1_3, .int .i64 p1_4, .slice a_p1_5 p1_5.length c_p1_5]⟩], [⟨b4, 25, [.int .i64 0, .int .i64 0, .int .i64 0, .int .i64 0, .int .i64 0, .slice none 0 0]⟩], L51, [⟨b79, 3, ([s_17] : List Int).flatMap (I1 .i64)⟩]]) (fun _ h => h) ?_
                  obtain ⟨hc81, hm63⟩ := chk_some hm63
                  refine WO_append (E := (I1 .i64)) tbok (fun _ => rfl) 2 ([s_17] : List Int) (fun _ _ => rfl) rfl rfl rfl rfl rfl rfl rfl rfl rfl rfl rfl rfl hL51 rfl (src_seg (j := 3) rfl) (ap_ok (by decide) hc81) (ap_max hc81) (fun a82 c83 L84 hL84 => ?_)
                  refine WO.cls (C' := St w0 m m [[⟨b3, 25, [.int .i64 p1_0, .int .i64 p1_1, .int .i64 p1_2, .int .i64 p1_3, .int .i64 p1_4, .slice a_p1_5 p1_5.length c_p1_5]⟩], [⟨b4, 25, [.int .i64 0, .int .i64 0, .int .i64 0, .int .i64 0, .int .i64 0, .slice none 0 0]⟩], L84, [⟨b79, 3, ([s_17] : List Int).flatMap (I1 .i64)⟩]]) (fun _ h => h) ?_
                  refine WO_pure tbok 1 [(0, .slice a_p0 p0.length c_p0), (3, .pointer (some ⟨b3, 0, none⟩)), (4, .pointer (some ⟨b4, 0, none⟩)), (5, .int .i64 0), (9, .slice a82 ((l_12 ++ ([s_17] : List Int)).length) c83), (10, .func (.func 46) #[] #[.pointer (some ⟨b3, 0, none⟩)]), (11, .int .i64 s_4), (49, .int .i64 p1_4), (50, .int .i64 s_4), (54, .int .i64 p1_3), (55, .int .i64 s_13)] rfl ⟨rfl, rfl, rfl, rfl, rfl, rfl, rfl, rfl, rfl, rfl, rfl, trivial⟩ ?_
                  refine WO_end ?_
                  refine WK_blk ?_
                  refine WK_region ?_
                  refine WO_pure tbok 2 [(0, .slice a_p0 p0.length c_p0), (3, .pointer (some ⟨b3, 0, none⟩)), (4, .pointer (some ⟨b4, 0, none⟩)), (5, .int .i64 0), (9, .slice a82 ((l_12 ++ ([s_17] : List Int)).length) c83), (10, .func (.func 46) #[] #[.pointer (some ⟨b3, 0, none⟩)]), (11, .int .i64 s_4), (49, .int .i64 p1_4), (50, .int .i64 s_4), (54, .int .i64 p1_3), (55, .int .i64 (w64 (s_13 + 1)))] rfl ⟨rfl, rfl, rfl, rfl, rfl, rfl, rfl, rfl, rfl, rfl, rfl, trivial⟩ ?_
                  refine WO_end ?_
                  cases hm63
                  refine WK.sub ?_ (WK.cls (fun _ h => St.take 3 h) (hn66 _ (a82, (l_12 ++ ([s_17] : List Int)).length, c83, L84) rfl hL84))
                  exact ⟨rfl, rfl, rfl, rfl, rfl, rfl, rfl, rfl, rfl, rfl, rfl, trivial⟩
                · refine WK_block ?_
                  refine WK_loop (S := Int × Int) (G := Unit) (fun s => fiduciallaw48_surface_s4 p0 p1_0 p1_1 p1_2 p1_3 p1_4 p1_5 s_4 s_13 s.1 s.2) (fun s g => [(0, .slice a_p0 p0.length c_p0), (3, .pointer (some ⟨b3, 0, none⟩)), (4, .pointer (some ⟨b4, 0, none⟩)), (5, .int .i64 0), (9, .slice a52 ((l_12).length) c54), (10, .func (.func 46) #[] #[.pointer (some ⟨b3, 0, none⟩)]), (11, .int .i64 s_4), (12, .int .i64 s_13), (13, .int .i64 s.1), (49, .int .i64 p1_4), (50, .int .i64 s_4), (54, .int .i64 p1_3), (55, .int .i64 s_13), (58, .slice a_p0 p0.length c_p0), (59, .int .i64 (p0.length : Int)), (60, .int .i64 s.2)]) (fun s g => St w0 m m [[⟨b3, 25, [.int .i64 p1_0, .int .i64 p1_1, .int .i64 p1_2, .int .i64 p1_3, .int .i64 p1_4, .slice a_p1_5 p1_5.length c_p1_5]⟩], [⟨b4, 25, [.int .i64 0, .int .i64 0, .int .i64 0, .int .i64 0, .int .i64 0, .slice none 0 0]⟩], L51]) (fun s g => True) FUEL ((-2147483648), 0) () x70 hx71 trivial ⟨rfl, rfl, rfl, rfl, rfl, rfl, rfl, rfl, rfl, rfl, rfl, rfl, rfl, rfl, rfl, rfl, trivial⟩ (fun _ h => h) ?_
                  rintro ⟨s_15, s_16⟩ ⟨⟩ o74 fl75 hm73 - hn76 hd77
                  have hm73 : fiduciallaw48_surface_s4 p0 p1_0 p1_1 p1_2 p1_3 p1_4 p1_5 s_4 s_13 s_15 s_16 = some o74 := hm73
                  unfold fiduciallaw48_surface_s4 at hm73
                  refine WK.sub (e' := [(0, .slice a_p0 p0.length c_p0), (3, .pointer (some ⟨b3, 0, none⟩)), (4, .pointer (some ⟨b4, 0, none⟩)), (5, .int .i64 0), (9, .slice a52 ((l_12).length) c54), (10, .func (.func 46) #[] #[.pointer (some ⟨b3, 0, none⟩)]), (11, .int .i64 s_4), (12, .int .i64 s_13), (13, .int .i64 s_15), (49, .int .i64 p1_4), (50, .int .i64 s_4), (54, .int .i64 p1_3), (55, .int .i64 s_13), (58, .slice a_p0 p0.length c_p0), (59, .int .i64 (p0.length : Int)), (60, .int .i64 s_16)]) ⟨rfl, rfl, rfl, rfl, rfl, rfl, rfl, rfl, rfl, rfl, rfl, rfl, rfl, rfl, rfl, rfl, trivial⟩ (WK.cls (C' := St w0 m m [[⟨b3, 25, [.int .i64 p1_0, .int .i64 p1_1, .int .i64 p1_2, .int .i64 p1_3, .int .i64 p1_4, .slice a_p1_5 p1_5.length c_p1_5]⟩], [⟨b4, 25, [.int .i64 0, .int .i64 0, .int .i64 0, .int .i64 0, .int .i64 0, .slice none 0 0]⟩], L51]) (fun _ h => h) ?_)
                  refine WK_seq ?_
                  refine WK_region ?_
                  refine WO_pure tbok 1 [(0, .slice a_p0 p0.length c_p0), (3, .pointer (some ⟨b3, 0, none⟩)), (4, .pointer (some ⟨b4, 0, none⟩)), (5, .int .i64 0), (9, .slice a52 ((l_12).length) c54), (10, .func (.func 46) #[] #[.pointer (some ⟨b3, 0, none⟩)]), (11, .int .i64 s_4), (12, .int .i64 s_13), (13, .int .i64 s_15), (49, .int .i64 p1_4), (50, .int .i64 s_4), (54, .int .i64 p1_3), (55, .int .i64 s_13), (58, .slice a_p0 p0.length c_p0), (59, .int .i64 (p0.length : Int)), (60, .int .i64 s_16), (61, .bool (decide (s_16 < (p0.length : Int))))] rfl ⟨rfl, rfl, rfl, rfl, rfl, rfl, rfl, rfl, rfl, rfl, rfl, rfl, rfl, rfl, rfl, rfl, rfl, trivial⟩ ?_
                  refine WO_end ?_
                  refine WK_seq ?_
                  refine WK_cond (b := decide (s_16 < (p0.length : Int))) rfl (fun hb86 => ?_) (fun hb86 => ?_)
                  · have hm73 := ifT hb86 hm73
                    refine WK_skip ?_
                    refine WK_seq ?_
                    refine WK_block ?_
                    refine WK_seq ?_
                    refine WK_region ?_
                    obtain ⟨v_18, hy87, hm73⟩ := bind_some hm73
                    obtain ⟨hc88, hy87⟩ := ix_some hy87
                    refine WO_index tbok rfl rfl rfl rfl rfl rfl rfl rfl (SlR.addr h_p0) hc88 ?_
                    refine WO_loadE tbok rfl rfl rfl rfl (fun _ h => St.sat h) h_p0 hy87 rfl ?_
                    refine WO_alloc tbok [.int .i64 0, .int .i64 0, .int .i64 0] rfl rfl trivial rfl rfl rfl rfl (fun b89 => ?_)
                    refine WO.cls (C' := St w0 m m [[⟨b3, 25, [.int .i64 p1_0, .int .i64 p1_1, .int .i64 p1_2, .int .i64 p1_3, .int .i64 p1_4, .slice a_p1_5 p1_5.length c_p1_5]⟩], [⟨b4, 25, [.int .i64 0, .int .i64 0, .int .i64 0, .int .i64 0, .int .i64 0, .slice none 0 0]⟩], L51, [⟨b89, 60, [.int .i64 0, .int .i64 0, .int .i64 0]⟩]]) (fun _ h => h) ?_
                    refine WO_storeB tbok 3 [.int .i64 v_18.1, .int .i64 v_18.2.1, .int .i64 v_18.2.2] rfl rfl rfl rfl rfl rfl rfl ?_
                    refine WO.cls (C' := St w0 m m [[⟨b3, 25, [.int .i64 p1_0, .int .i64 p1_1, .int .i64 p1_2, .int .i64 p1_3, .int .i64 p1_4, .slice a_p1_5 p1_5.length c_p1_5]⟩], [⟨b4, 25, [.int .i64 0, .int .i64 0, .int .i64 0, .int .i64 0, .int .i64 0, .slice none 0 0]⟩], L51, [⟨b89, 60, [.int .i64 v_18.1, .int .i64 v_18.2.1, .int .i64 v_18.2.2]⟩]]) (fun _ h => h) ?_
                    refine WO_end ?_
                    refine WK_seq ?_
                    obtain ⟨s_19, hx90, hm73⟩ := bind_some hm73
                    refine WK_meet [(0, .slice a_p0 p0.length c_p0), (3, .pointer (some ⟨b3, 0, none⟩)), (4, .pointer (some ⟨b4, 0, none⟩)), (5, .int .i64 0), (9, .slice a52 ((l_12).length) c54), (10, .func (.func 46) #[] #[.pointer (some ⟨b3, 0, none⟩)]), (11, .int .i64 s_4), (12, .int .i64 s_13), (13, .int .i64 s_15), (15, .pointer (some ⟨b89, 0, none⟩)), (49, .int .i64 p1_4), (50, .int .i64 s_4), (54, .int .i64 p1_3), (55, .int .i64 s_13), (58, .slice a_p0 p0.length c_p0), (59, .int .i64 (p0.length : Int)), (60, .int .i64 s_16), (79, .bool s_19)] (St w0 m m [[⟨b3, 25, [.int .i64 p1_0, .int .i64 p1_1, .int .i64 p1_2, .int .i64 p1_3, .int .i64 p1_4, .slice a_p1_5 p1_5.length c_p1_5]⟩], [⟨b4, 25, [.int .i64 0, .int .i64 0, .int .i64 0, .int .i64 0, .int .i64 0, .slice none 0 0]⟩], L51, [⟨b89, 60, [.int .i64 v_18.1, .int .i64 v_18.2.1, .int .i64 v_18.2.2]⟩]]) ?_ (fun hk91 => ?_)
                    · obtain ⟨s_20, hx92, hm73⟩ := bind_some hm73
                      refine WK_meet [(0, .slice a_p0 p0.length c_p0), (3, .pointer (some ⟨b3, 0, none⟩)), (4, .pointer (some ⟨b4, 0, none⟩)), (5, .int .i64 0), (9, .slice a52 ((l_12).length) c54), (10, .func (.func 46) #[] #[.pointer (some ⟨b3, 0, none⟩)]), (11, .int .i64 s_4), (12, .int .i64 s_13), (13, .int .i64 s_20), (49, .int .i64 p1_4), (50, .int .i64 s_4), (54, .int .i64 p1_3), (55, .int .i64 s_13), (58, .slice a_p0 p0.length c_p0), (59, .int .i64 (p0.length : Int)), (60, .int .i64 s_16)] (St w0 m m [[⟨b3, 25, [.int .i64 p1_0, .int .i64 p1_1, .int .i64 p1_2, .int .i64 p1_3, .int .i64 p1_4, .slice a_p1_5 p1_5.length c_p1_5]⟩], [⟨b4, 25, [.int .i64 0, .int .i64 0, .int .i64 0, .int .i64 0, .int .i64 0, .slice none 0 0]⟩], L51, [⟨b89, 60, [.int .i64 v_18.1, .int .i64 v_18.2.1, .int .i64 v_18.2.2]⟩]]) ?_ (fun hk93 => ?_)
                      · refine WK_blk ?_
                        refine WK_region ?_
                        refine WO_pure tbok 2 [(0, .slice a_p0 p0.length c_p0), (3, .pointer (some ⟨b3, 0, none⟩)), (4, .pointer (some ⟨b4, 0, none⟩)), (5, .int .i64 0), (9, .slice a52 ((l_12).length) c54), (10, .func (.func 46) #[] #[.pointer (some ⟨b3, 0, none⟩)]), (11, .int .i64 s_4), (12, .int .i64 s_13), (13, .int .i64 s_20), (49, .int .i64 p1_4), (50, .int .i64 s_4), (54, .int .i64 p1_3), (55, .int .i64 s_13), (58, .slice a_p0 p0.length c_p0), (59, .int .i64 (p0.length : Int)), (60, .int .i64 (w64 (s_16 + 1)))] rfl ⟨rfl, rfl, rfl, rfl, rfl, rfl, rfl, rfl, rfl, rfl, rfl, rfl, rfl, rfl, rfl, rfl, trivial⟩ ?_
                        refine WO_end ?_
                        cases hm73
                        refine WK.sub ?_ (WK.cls (fun _ h => St.take 3 h) (hn76 _ () rfl trivial))
                        exact ⟨rfl, rfl, rfl, rfl, rfl, rfl, rfl, rfl, rfl, rfl, rfl, rfl, rfl, rfl, rfl, rfl, trivial⟩
                      · refine WK_cond (b := s_19) rfl (fun hb94 => ?_) (fun hb94 => ?_)
                        · have hx92 := ifT hb94 hx92
                          refine WK_region ?_
                          refine WO_pure tbok 2 [(0, .slice a_p0 p0.length c_p0), (3, .pointer (some ⟨b3, 0, none⟩)), (4, .pointer (some ⟨b4, 0, none⟩)), (5, .int .i64 0), (9, .slice a52 ((l_12).length) c54), (10, .func (.func 46) #[] #[.pointer (some ⟨b3, 0, none⟩)]), (11, .int .i64 s_4), (12, .int .i64 s_13), (13, .int .i64 s_15), (49, .int .i64 p1_4), (50, .int .i64 s_4), (54, .int .i64 p1_3), (55, .int .i64 s_13), (58, .slice a_p0 p0.length c_p0), (59, .int .i64 (p0.length : Int)), (60, .int .i64 s_16), (80, .int .i64 s_15), (81, .pointer (some ⟨b89, 2, none⟩))] rfl ⟨rfl, rfl, rfl, rfl, rfl, rfl, rfl, rfl, rfl, rfl, rfl, rfl, rfl, rfl, rfl, rfl, rfl, rfl, trivial⟩ ?_
                          refine WO_loadB tbok 3 rfl rfl rfl rfl (fun _ h => h) rfl rfl ?_
                          refine WO_pure tbok 2 [(0, .slice a_p0 p0.length c_p0), (3, .pointer (some ⟨b3, 0, none⟩)), (4, .pointer (some ⟨b4, 0, none⟩)), (5, .int .i64 0), (9, .slice a52 ((l_12).length) c54), (10, .func (.func 46) #[] #[.pointer (some ⟨b3, 0, none⟩)]), (11, .int .i64 s_4), (12, .int .i64 s_13), (13, .int .i64 (if s_15 < v_18.2.2 then v_18.2.2 else s_15)), (49, .int .i64 p1_4), (50, .int .i64 s_4), (54, .int .i64 p1_3), (55, .int .i64 s_13), (58, .slice a_p0 p0.length c_p0), (59, .int .i64 (p0.length : Int)), (60, .int .i64 s_16)] rfl ⟨rfl, rfl, rfl, rfl, rfl, rfl, rfl, rfl, rfl, rfl, rfl, rfl, rfl, rfl, rfl, rfl, trivial⟩ ?_
                          refine WO_end ?_
                          cases hx92
                          refine WK.sub ?_ (WK.cls (fun _ h => h) hk93)
                          exact ⟨rfl, rfl, rfl, rfl, rfl, rfl, rfl, rfl, rfl, rfl, rfl, rfl, rfl, rfl, rfl, rfl, trivial⟩
                        · have hx92 := ifF hb94 hx92
                          refine WK_skip ?_
                          cases hx92
                          refine WK.sub ?_ (WK.cls (fun _ h => h) hk93)
                          exact ⟨rfl, rfl, rfl, rfl, rfl, rfl, rfl, rfl, rfl, rfl, rfl, rfl, rfl, rfl, rfl, rfl, trivial⟩
                    · refine WK_region ?_
                      refine WO_pure tbok 2 [(0, .slice a_p0 p0.length c_p0), (3, .pointer (some ⟨b3, 0, none⟩)), (4, .pointer (some ⟨b4, 0, none⟩)), (5, .int .i64 0), (9, .slice a52 ((l_12).length) c54), (10, .func (.func 46) #[] #[.pointer (some ⟨b3, 0, none⟩)]), (11, .int .i64 s_4), (12, .int .i64 s_13), (13, .int .i64 s_15), (15, .pointer (some ⟨b89, 0, none⟩)), (49, .int .i64 p1_4), (50, .int .i64 s_4), (54, .int .i64 p1_3), (55, .int .i64 s_13), (58, .slice a_p0 p0.length c_p0), (59, .int .i64 (p0.length : Int)), (60, .int .i64 s_16), (64, .func (.func 46) #[] #[.pointer (some ⟨b3, 0, none⟩)]), (65, .pointer (some ⟨b89, 0, none⟩))] rfl ⟨rfl, rfl, rfl, rfl, rfl, rfl, rfl, rfl, rfl, rfl, rfl, rfl, rfl, rfl, rfl, rfl, rfl, rfl, rfl, trivial⟩ ?_
                      refine WO_loadB tbok 3 rfl rfl rfl rfl (fun _ h => h) rfl rfl ?_
                      refine WO_pure tbok 1 [(0, .slice a_p0 p0.length c_p0), (3, .pointer (some ⟨b3, 0, none⟩)), (4, .pointer (some ⟨b4, 0, none⟩)), (5, .int .i64 0), (9, .slice a52 ((l_12).length) c54), (10, .func (.func 46) #[] #[.pointer (some ⟨b3, 0, none⟩)]), (11, .int .i64 s_4), (12, .int .i64 s_13), (13, .int .i64 s_15), (15, .pointer (some ⟨b89, 0, none⟩)), (49, .int .i64 p1_4), (50, .int .i64 s_4), (54, .int .i64 p1_3), (55, .int .i64 s_13), (58, .slice a_p0 p0.length c_p0), (59, .int .i64 (p0.length : Int)), (60, .int .i64 s_16), (64, .func (.func 46) #[] #[.pointer (some ⟨b3, 0, none⟩)]), (66, .int .i64 v_18.1), (67, .pointer (some ⟨b3, 0, none⟩))] rfl ⟨rfl, rfl, rfl, rfl, rfl, rfl, rfl, rfl, rfl, rfl, rfl, rfl, rfl, rfl, rfl, rfl, rfl, rfl, rfl, rfl, trivial⟩ ?_
                      refine WO_loadB tbok 0 rfl rfl rfl rfl (fun _ h => h) rfl rfl ?_
                      refine WO_pure tbok 1 [(0, .slice a_p0 p0.length c_p0), (3, .pointer (some ⟨b3, 0, none⟩)), (4, .pointer (some ⟨b4, 0, none⟩)), (5, .int .i64 0), (9, .slice a52 ((l_12).length) c54), (10, .func (.func 46) #[] #[.pointer (some ⟨b3, 0, none⟩)]), (11, .int .i64 s_4), (12, .int .i64 s_13), (13, .int .i64 s_15), (15, .pointer (some ⟨b89, 0, none⟩)), (49, .int .i64 p1_4), (50, .int .i64 s_4), (54, .int .i64 p1_3), (55, .int .i64 s_13), (58, .slice a_p0 p0.length c_p0), (59, .int .i64 (p0.length : Int)), (60, .int .i64 s_16), (64, .func (.func 46) #[] #[.pointer (some ⟨b3, 0, none⟩)]), (66, .int .i64 v_18.1), (68, .int .i64 p1_0), (69, .int .i64 s_13)] rfl ⟨rfl, rfl, rfl, rfl, rfl, rfl, rfl, rfl, rfl, rfl, rfl, rfl, rfl, rfl, rfl, rfl, rfl, rfl, rfl, rfl, rfl, trivial⟩ ?_
                      obtain ⟨y_21, hc95, hx90⟩ := bind_some hx90
                      refine WO_call0 (.bool y_21) rfl rfl trivial rfl rfl rfl rfl St_closed ⟨46, #[], #[.pointer (some ⟨b3, 0, none⟩)], rfl, callable_46, fun w hw => ⟨_, hw.satV, fiduciallaw48_surface_c1_walk (hw.memV (i := 0) rfl (List.mem_singleton.2 rfl)) (h_p1_5.mono (mono_FE _) hw.leV) hc95⟩⟩ ?_
                      refine WO_pure tbok 1 [(0, .slice a_p0 p0.length c_p0), (3, .pointer (some ⟨b3, 0, none⟩)), (4, .pointer (some ⟨b4, 0, none⟩)), (5, .int .i64 0), (9, .slice a52 ((l_12).length) c54), (10, .func (.func 46) #[] #[.pointer (some ⟨b3, 0, none⟩)]), (11, .int .i64 s_4), (12, .int .i64 s_13), (13, .int .i64 s_15), (15, .pointer (some ⟨b89, 0, none⟩)), (49, .int .i64 p1_4), (50, .int .i64 s_4), (54, .int .i64 p1_3), (55, .int .i64 s_13), (58, .slice a_p0 p0.length c_p0), (59, .int .i64 (p0.length : Int)), (60, .int .i64 s_16), (71, .bool y_21)] rfl ⟨rfl, rfl, rfl, rfl, rfl, rfl, rfl, rfl, rfl, rfl, rfl, rfl, rfl, rfl, rfl, rfl, rfl, rfl, trivial⟩ ?_
                      refine WO_split (d := 71) (b := y_21) rfl (fun hb96 => ?_) (fun hb96 => ?_)
                      · have hx90 := ifT hb96 hx90
                        refine WO_pure tbok 2 [(0, .slice a_p0 p0.length c_p0), (3, .pointer (some ⟨b3, 0, none⟩)), (4, .pointer (some ⟨b4, 0, none⟩)), (5, .int .i64 0), (9, .slice a52 ((l_12).length) c54), (10, .func (.func 46) #[] #[.pointer (some ⟨b3, 0, none⟩)]), (11, .int .i64 s_4), (12, .int .i64 s_13), (13, .int .i64 s_15), (15, .pointer (some ⟨b89, 0, none⟩)), (49, .int .i64 p1_4), (50, .int .i64 s_4), (54, .int .i64 p1_3), (55, .int .i64 s_13), (58, .slice a_p0 p0.length c_p0), (59, .int .i64 (p0.length : Int)), (60, .int .i64 s_16), (71, .bool true), (72, .func (.func 46) #[] #[.pointer (some ⟨b3, 0, none⟩)]), (73, .pointer (some ⟨b89, 1, none⟩))] rfl ⟨rfl, rfl, rfl, rfl, rfl, rfl, rfl, rfl, rfl, rfl, rfl, rfl, rfl, rfl, rfl, rfl, rfl, rfl, rfl, rfl, trivial⟩ ?_
                        refine WO_loadB tbok 3 rfl rfl rfl rfl (fun _ h => h) rfl rfl ?_
                        refine WO_pure tbok 1 [(0, .slice a_p0 p0.length c_p0), (3, .pointer (some ⟨b3, 0, none⟩)), (4, .pointer (some ⟨b4, 0, none⟩)), (5, .int .i64 0), (9, .slice a52 ((l_12).length) c54), (10, .func (.func 46) #[] #[.pointer (some ⟨b3, 0, none⟩)]), (11, .int .i64 s_4), (12, .int .i64 s_13), (13, .int .i64 s_15), (15, .pointer (some ⟨b89, 0, none⟩)), (49, .int .i64 p1_4), (50, .int .i64 s_4), (54, .int .i64 p1_3), (55, .int .i64 s_13), (58, .slice a_p0 p0.length c_p0), (59, .int .i64 (p0.length : Int)), (60, .int .i64 s_16), (71, .bool true), (72, .func (.func 46) #[] #[.pointer (some ⟨b3, 0, none⟩)]), (74, .int .i64 v_18.2.1), (75, .pointer (some ⟨b3, 1, none⟩))] rfl ⟨rfl, rfl, rfl, rfl, rfl, rfl, rfl, rfl, rfl, rfl, rfl, rfl, rfl, rfl, rfl, rfl, rfl, rfl, rfl, rfl, rfl, trivial⟩ ?_
                        refine WO_loadB tbok 0 rfl rfl rfl rfl (fun _ h => h) rfl rfl ?_
                        refine WO_pure tbok 1 [(0, .slice a_p0 p0.length c_p0), (3, .pointer (some ⟨b3, 0, none⟩)), (4, .pointer (some ⟨b4, 0, none⟩)), (5, .int .i64 0), (9, .slice a52 ((l_12).length) c54), (10, .func (.func 46) #[] #[.pointer (some ⟨b3, 0, none⟩)]), (11, .int .i64 s_4), (12, .int .i64 s_13), (13, .int .i64 s_15), (15, .pointer (some ⟨b89, 0, none⟩)), (49, .int .i64 p1_4), (50, .int .i64 s_4), (54, .int .i64 p1_3), (55, .int .i64 s_13), (58, .slice a_p0 p0.length c_p0), (59, .int .i64 (p0.length : Int)), (60, .int .i64 s_16), (71, .bool true), (72, .func (.func 46) #[] #[.pointer (some ⟨b3, 0, none⟩)]), (74, .int .i64 v_18.2.1), (76, .int .i64 p1_1), (77, .int .i64 s_4)] rfl ⟨rfl, rfl, rfl, rfl, rfl, rfl, rfl, rfl, rfl, rfl, rfl, rfl, rfl, rfl, rfl, rfl, rfl, rfl, rfl, rfl, rfl, rfl, trivial⟩ ?_
                        obtain ⟨y_22, hc97, hx90⟩ := bind_some hx90
                        refine WO_call0 (.bool y_22) rfl rfl trivial rfl rfl rfl rfl St_closed ⟨46, #[], #[.pointer (some ⟨b3, 0, none⟩)], rfl, callable_46, fun w hw => ⟨_, hw.satV, fiduciallaw48_surface_c1_walk (hw.memV (i := 0) rfl (List.mem_singleton.2 rfl)) (h_p1_5.mono (mono_FE _) hw.leV) hc97⟩⟩ ?_
                        refine WO_pure tbok 1 [(0, .slice a_p0 p0.length c_p0), (3, .pointer (some ⟨b3, 0, none⟩)), (4, .pointer (some ⟨b4, 0, none⟩)), (5, .int .i64 0), (9, .slice a52 ((l_12).length) c54), (10, .func (.func 46) #[] #[.pointer (some ⟨b3, 0, none⟩)]), (11, .int .i64 s_4), (12, .int .i64 s_13), (13, .int .i64 s_15), (15, .pointer (some ⟨b89, 0, none⟩)), (49, .int .i64 p1_4), (50, .int .i64 s_4), (54, .int .i64 p1_3), (55, .int .i64 s_13), (58, .slice a_p0 p0.length c_p0), (59, .int .i64 (p0.length : Int)), (60, .int .i64 s_16), (79, .bool y_22)] rfl ⟨rfl, rfl, rfl, rfl, rfl, rfl, rfl, rfl, rfl, rfl, rfl, rfl, rfl, rfl, rfl, rfl, rfl, rfl, trivial⟩ ?_
                        refine WO_end ?_
                        cases hx90
                        refine WK.sub ?_ (WK.cls (fun _ h => h) hk91)
                        exact ⟨rfl, rfl, rfl, rfl, rfl, rfl, rfl, rfl, rfl, rfl, rfl, rfl, rfl, rfl, rfl, rfl, rfl, rfl, trivial⟩
                      · have hx90 := ifF hb96 hx90
                        refine WO_pure tbok 6 [(0, .slice a_p0 p0.length c_p0), (3, .pointer (some ⟨b3, 0, none⟩)), (4, .pointer (some ⟨b4, 0, none⟩)), (5, .int .i64 0), (9, .slice a52 ((l_12).length) c54), (10, .func (.func 46) #[] #[.pointer (some ⟨b3, 0, none⟩)]), (11, .int .i64 s_4), (12, .int .i64 s_13), (13, .int .i64 s_15), (15, .pointer (some ⟨b89, 0, none⟩)), (49, .int .i64 p1_4), (50, .int .i64 s_4), (54, .int .i64 p1_3), (55, .int .i64 s_13), (58, .slice a_p0 p0.length c_p0), (59, .int .i64 (p0.length : Int)), (60, .int .i64 s_16), (71, .bool false)] rfl ⟨rfl, rfl, rfl, rfl, rfl, rfl, rfl, rfl, rfl, rfl, rfl, rfl, rfl, rfl, rfl, rfl, rfl, rfl, trivial⟩ ?_
                        refine WO_skip rfl rfl ?_
                        refine WO_pure tbok 1 [(0, .slice a_p0 p0.length c_p0), (3, .pointer (some ⟨b3, 0, none⟩)), (4, .pointer (some ⟨b4, 0, none⟩)), (5, .int .i64 0), (9, .slice a52 ((l_12).length) c54), (10, .func (.func 46) #[] #[.pointer (some ⟨b3, 0, none⟩)]), (11, .int .i64 s_4), (12, .int .i64 s_13), (13, .int .i64 s_15), (15, .pointer (some ⟨b89, 0, none⟩)), (49, .int .i64 p1_4), (50, .int .i64 s_4), (54, .int .i64 p1_3), (55, .int .i64 s_13), (58, .slice a_p0 p0.length c_p0), (59, .int .i64 (p0.length : Int)), (60, .int .i64 s_16), (79, .bool false)] rfl ⟨rfl, rfl, rfl, rfl, rfl, rfl, rfl, rfl, rfl, rfl, rfl, rfl, rfl, rfl, rfl, rfl, rfl, rfl, trivial⟩ ?_
                        refine WO_end ?_
                        cases hx90
                        refine WK.sub ?_ (WK.cls (fun _ h => h) hk91)
                        exact ⟨rfl, rfl, rfl, rfl, rfl, rfl, rfl, rfl, rfl, rfl, rfl, rfl, rfl, rfl, rfl, rfl, rfl, rfl, trivial⟩
                  · have hm73 := ifF hb86 hm73
                    refine WK_exit rfl ?_
                    cases hm73
                    refine WK.sub ?_ (WK.cls (fun _ h => h) (hk72 (s_15, ()) (hd77 _ rfl)))
                    exact ⟨rfl, rfl, rfl, rfl, rfl, rfl, rfl, rfl, rfl, rfl, rfl, rfl, trivial⟩
              · have hm63 := ifF hb69 hm63
                refine WK_exit rfl ?_
                cases hm63
                refine WK.sub ?_ (WK.cls (fun _ h => h) (hk62 (l_12, (a52, _, c54, L51)) ⟨(hd67 _ rfl), hL51⟩))
                exact ⟨rfl, rfl, rfl, rfl, rfl, rfl, rfl, rfl, trivial⟩
          · have hm31 := ifF hb49 hm31
            refine WK_exit rfl ?_
            cases hm31
            refine WK.sub ?_ (WK.cls (fun _ h => h) (hk30 (l_3, (a20, _, c22, L19)) ⟨(hd35 _ rfl), hL19⟩))
            exact ⟨rfl, rfl, rfl, rfl, trivial⟩
      · refine WK_block ?_
        refine WK_loop (S := Int) (G := Unit) (fun s => fiduciallaw48_surface_s1 p0 s) (fun s g => [(0, .slice a_p0 p0.length c_p0), (3, .pointer (some ⟨b3, 0, none⟩)), (4, .pointer (some ⟨b4, 0, none⟩)), (5, .int .i64 0), (26, .slice a_p0 p0.length c_p0), (27, .int .i64 (p0.length : Int)), (28, .int .i64 s)]) (fun s g => St w0 m m [[⟨b3, 25, [.int .i64 p1_0, .int .i64 p1_1, .int .i64 p1_2, .int .i64 p1_3, .int .i64 p1_4, .slice a_p1_5 p1_5.length c_p1_5]⟩], [⟨b4, 25, [.int .i64 0, .int .i64 0, .int .i64 0, .int .i64 0, .int .i64 0, .slice none 0 0]⟩]]) (fun s g => True) FUEL 0 () x8 hx9 trivial ⟨rfl, rfl, rfl, rfl, rfl, rfl, rfl, trivial⟩ (fun _ h => h) ?_
        rintro s_2 ⟨⟩ o12 fl13 hm11 - hn14 hd15
        have hm11 : fiduciallaw48_surface_s1 p0 s_2 = some o12 := hm11
        unfold fiduciallaw48_surface_s1 at hm11
        refine WK.sub (e' := [(0, .slice a_p0 p0.length c_p0), (3, .pointer (some ⟨b3, 0, none⟩)), (4, .pointer (some ⟨b4, 0, none⟩)), (5, .int .i64 0), (26, .slice a_p0 p0.length c_p0), (27, .int .i64 (p0.length : Int)), (28, .int .i64 s_2)]) ⟨rfl, rfl, rfl, rfl, rfl, rfl, rfl, trivial⟩ (WK.cls (C' := St w0 m m [[⟨b3, 25, [.int .i64 p1_0, .int .i64 p1_1, .int .i64 p1_2, .int .i64 p1_3, .int .i64 p1_4, .slice a_p1_5 p1_5.length c_p1_5]⟩], [⟨b4, 25, [.int .i64 0, .int .i64 0, .int .i64 0, .int .i64 0, .int .i64 0, .slice none 0 0]⟩]]) (fun _ h => h) ?_)
        refine WK_seq ?_
        refine WK_region ?_
        refine WO_pure tbok 1 [(0, .slice a_p0 p0.length c_p0), (3, .pointer (some ⟨b3, 0, none⟩)), (4, .pointer (some ⟨b4, 0, none⟩)), (5, .int .i64 0), (26, .slice a_p0 p0.length c_p0), (27, .int .i64 (p0.length : Int)), (28, .int .i64 s_2), (29, .bool (decide (s_2 < (p0.length : Int))))] rfl ⟨rfl, rfl, rfl, rfl, rfl, rfl, rfl, rfl, trivial⟩ ?_
        refine WO_end ?_
        refine WK_seq ?_
        refine WK_cond (b := decide (s_2 < (p0.length : Int))) rfl (fun hb98 => ?_) (fun hb98 => ?_)
        · have hm11 := ifT hb98 hm11
          refine WK_skip ?_
          refine WK_seq ?_
          refine WK_block ?_
          refine WK_seq ?_
          refine WK_region ?_
          obtain ⟨v_23, hy99, hm11⟩ := bind_some hm11
          obtain ⟨hc100, hy99⟩ := ix_some hy99
          refine WO_index tbok rfl rfl rfl rfl rfl rfl rfl rfl (SlR.addr h_p0) hc100 ?_
          refine WO_loadE tbok rfl rfl rfl rfl (fun _ h => St.sat h) h_p0 hy99 rfl ?_
          refine WO_alloc tbok [.int .i64 0, .int .i64 0, .int .i64 0] rfl rfl trivial rfl rfl rfl rfl (fun b101 => ?_)
          refine WO.cls (C' := St w0 m m [[⟨b3, 25, [.int .i64 p1_0, .int .i64 p1_1, .int .i64 p1_2, .int .i64 p1_3, .int .i64 p1_4, .slice a_p1_5 p1_5.length c_p1_5]⟩], [⟨b4, 25, [.int .i64 0, .int .i64 0, .int .i64 0, .int .i64 0, .int .i64 0, .slice none 0 0]⟩], [⟨b101, 60, [.int .i64 0, .int .i64 0, .int .i64 0]⟩]]) (fun _ h => h) ?_
          refine WO_storeB tbok 2 [.int .i64 v_23.1, .int .i64 v_23.2.1, .int .i64 v_23.2.2] rfl rfl rfl rfl rfl rfl rfl ?_
          refine WO.cls (C' := St w0 m m [[⟨b3, 25, [.int .i64 p1_0, .int .i64 p1_1, .int .i64 p1_2, .int .i64 p1_3, .int .i64 p1_4, .slice a_p1_5 p1_5.length c_p1_5]⟩], [⟨b4, 25, [.int .i64 0, .int .i64 0, .int .i64 0, .int .i64 0, .int .i64 0, .slice none 0 0]⟩], [⟨b101, 60, [.int .i64 v_23.1, .int .i64 v_23.2.1, .int .i64 v_23.2.2]⟩]]) (fun _ h => h) ?_
          refine WO_end ?_
          refine WK_seq ?_
          obtain ⟨s_24, hx102, hm11⟩ := bind_some hm11
          refine WK_meet [(0, .slice a_p0 p0.length c_p0), (3, .pointer (some ⟨b3, 0, none⟩)), (4, .pointer (some ⟨b4, 0, none⟩)), (5, .int .i64 0), (26, .slice a_p0 p0.length c_p0), (27, .int .i64 (p0.length : Int)), (28, .int .i64 s_2), (44, .bool s_24)] (St w0 m m [[⟨b3, 25, [.int .i64 p1_0, .int .i64 p1_1, .int .i64 p1_2, .int .i64 p1_3, .int .i64 p1_4, .slice a_p1_5 p1_5.length c_p1_5]⟩], [⟨b4, 25, [.int .i64 0, .int .i64 0, .int .i64 0, .int .i64 0, .int .i64 0, .slice none 0 0]⟩], [⟨b101, 60, [.int .i64 v_23.1, .int .i64 v_23.2.1, .int .i64 v_23.2.2]⟩]]) ?_ (fun hk103 => ?_)
          · refine WK_cond (b := s_24) rfl (fun hb104 => ?_) (fun hb104 => ?_)
            · have hm11 := ifT hb104 hm11
              refine WK_seq ?_
              refine WK_region ?_
              refine WO_pure tbok 1 [(0, .slice a_p0 p0.length c_p0), (3, .pointer (some ⟨b3, 0, none⟩)), (4, .pointer (some ⟨b4, 0, none⟩)), (5, .int .i64 0), (26, .slice a_p0 p0.length c_p0), (27, .int .i64 (p0.length : Int)), (28, .int .i64 s_2), (45, .agg #[.int .i64 0, .int .i64 0, .int .i64 0, .int .i64 0, .int .i64 0, .slice none 0 0])] rfl ⟨rfl, rfl, rfl, rfl, rfl, rfl, rfl, rfl, trivial⟩ ?_
              refine WO_storeB tbok 1 [.int .i64 0, .int .i64 0, .int .i64 0, .int .i64 0, .int .i64 0, .slice none 0 0] rfl rfl rfl rfl rfl rfl rfl ?_
              refine WO.cls (C' := St w0 m m [[⟨b3, 25, [.int .i64 p1_0, .int .i64 p1_1, .int .i64 p1_2, .int .i64 p1_3, .int .i64 p1_4, .slice a_p1_5 p1_5.length c_p1_5]⟩], [⟨b4, 25, [.int .i64 0, .int .i64 0, .int .i64 0, .int .i64 0, .int .i64 0, .slice none 0 0]⟩], [⟨b101, 60, [.int .i64 v_23.1, .int .i64 v_23.2.1, .int .i64 v_23.2.2]⟩]]) (fun _ h => h) ?_
              refine WO_pure tbok 1 [(0, .slice a_p0 p0.length c_p0), (3, .pointer (some ⟨b3, 0, none⟩)), (4, .pointer (some ⟨b4, 0, none⟩)), (5, .int .i64 2), (26, .slice a_p0 p0.length c_p0), (27, .int .i64 (p0.length : Int)), (28, .int .i64 s_2)] rfl ⟨rfl, rfl, rfl, rfl, rfl, rfl, rfl, trivial⟩ ?_
              refine WO_end ?_
              cases hm11
              have hq := hd15 _ rfl
              subst hq
              have hm : some _ = some _ := hm
              cases hm
              exact WK_ret (ret_out (L := []) (RLc_cell tbok 1 rfl rfl rfl (RLc_tmp rfl RLc_nil)) (List.nil_sublist _) ⟨none, 0, 0, rfl, SlR_nil⟩)
            · have hm11 := ifF hb104 hm11
              refine WK_skip ?_
              refine WK_blk ?_
              refine WK_region ?_
              refine WO_pure tbok 2 [(0, .slice a_p0 p0.length c_p0), (3, .pointer (some ⟨b3, 0, none⟩)), (4, .pointer (some ⟨b4, 0, none⟩)), (5, .int .i64 0), (26, .slice a_p0 p0.length c_p0), (27, .int .i64 (p0.length : Int)), (28, .int .i64 (w64 (s_2 + 1)))] rfl ⟨rfl, rfl, rfl, rfl, rfl, rfl, rfl, trivial⟩ ?_
              refine WO_end ?_
              cases hm11
              refine WK.sub ?_ (WK.cls (fun _ h => St.take 2 h) (hn14 _ () rfl trivial))
              exact ⟨rfl, rfl, rfl, rfl, rfl, rfl, rfl, trivial⟩
          · refine WK_region ?_
            refine WO_pure tbok 1 [(0, .slice a_p0 p0.length c_p0), (3, .pointer (some ⟨b3, 0, none⟩)), (4, .pointer (some ⟨b4, 0, none⟩)), (5, .int .i64 0), (8, .pointer (some ⟨b101, 0, none⟩)), (26, .slice a_p0 p0.length c_p0), (27, .int .i64 (p0.length : Int)), (28, .int .i64 s_2), (32, .pointer (some ⟨b101, 0, none⟩))] rfl ⟨rfl, rfl, rfl, rfl, rfl, rfl, rfl, rfl, rfl, trivial⟩ ?_
            refine WO_loadB tbok 2 rfl rfl rfl rfl (fun _ h => h) rfl rfl ?_
            obtain ⟨y_25, hc105, hx102⟩ := bind_some hx102
            refine WO_call0 (.bool y_25) rfl rfl trivial rfl rfl rfl rfl St_closed ⟨45, #[], #[], rfl, callable_45, fun w hw => ⟨_, hw.sat, fiduciallaw48_far_walk hc105⟩⟩ ?_
            refine WO_pure tbok 1 [(0, .slice a_p0 p0.length c_p0), (3, .pointer (some ⟨b3, 0, none⟩)), (4, .pointer (some ⟨b4, 0, none⟩)), (5, .int .i64 0), (8, .pointer (some ⟨b101, 0, none⟩)), (26, .slice a_p0 p0.length c_p0), (27, .int .i64 (p0.length : Int)), (28, .int .i64 s_2), (35, .bool y_25)] rfl ⟨rfl, rfl, rfl, rfl, rfl, rfl, rfl, rfl, rfl, trivial⟩ ?_
            refine WO_split (d := 35) (b := y_25) rfl (fun hb106 => ?_) (fun hb106 => ?_)
            · have hx102 := ifT hb106 hx102
              refine WO_pure tbok 2 [(0, .slice a_p0 p0.length c_p0), (3, .pointer (some ⟨b3, 0, none⟩)), (4, .pointer (some ⟨b4, 0, none⟩)), (5, .int .i64 0), (8, .pointer (some ⟨b101, 0, none⟩)), (26, .slice a_p0 p0.length c_p0), (27, .int .i64 (p0.length : Int)), (28, .int .i64 s_2), (35, .bool true)] rfl ⟨rfl, rfl, rfl, rfl, rfl, rfl, rfl, rfl, rfl, trivial⟩ ?_
              refine WO_skip rfl rfl ?_
              refine WO_pure tbok 4 [(0, .slice a_p0 p0.length c_p0), (3, .pointer (some ⟨b3, 0, none⟩)), (4, .pointer (some ⟨b4, 0, none⟩)), (5, .int .i64 0), (26, .slice a_p0 p0.length c_p0), (27, .int .i64 (p0.length : Int)), (28, .int .i64 s_2), (40, .bool true)] rfl ⟨rfl, rfl, rfl, rfl, rfl, rfl, rfl, rfl, trivial⟩ ?_
              refine WO_skip rfl rfl ?_
              refine WO_pure tbok 1 [(0, .slice a_p0 p0.length c_p0), (3, .pointer (some ⟨b3, 0, none⟩)), (4, .pointer (some ⟨b4, 0, none⟩)), (5, .int .i64 0), (26, .slice a_p0 p0.length c_p0), (27, .int .i64 (p0.length : Int)), (28, .int .i64 s_2), (44, .bool true)] rfl ⟨rfl, rfl, rfl, rfl, rfl, rfl, rfl, rfl, trivial⟩ ?_
              refine WO_end ?_
              cases hx102
              refine WK.sub ?_ (WK.cls (fun _ h => h) hk103)
              exact ⟨rfl, rfl, rfl, rfl, rfl, rfl, rfl, rfl, trivial⟩
            · have hx102 := ifF hb106 hx102
              refine WO_pure tbok 1 [(0, .slice a_p0 p0.length c_p0), (3, .pointer (some ⟨b3, 0, none⟩)), (4, .pointer (some ⟨b4, 0, none⟩)), (5, .int .i64 0), (8, .pointer (some ⟨b101, 0, none⟩)), (26, .slice a_p0 p0.length c_p0), (27, .int .i64 (p0.length : Int)), (28, .int .i64 s_2), (35, .bool false), (36, .pointer (some ⟨b101, 1, none⟩))] rfl ⟨rfl, rfl, rfl, rfl, rfl, rfl, rfl, rfl, rfl, rfl, trivial⟩ ?_
              refine WO_loadB tbok 2 rfl rfl rfl rfl (fun _ h => h) rfl rfl ?_
              obtain ⟨y_26, hc107, hx102⟩ := bind_some hx102
              refine WO_call0 (.bool y_26) rfl rfl trivial rfl rfl rfl rfl St_closed ⟨45, #[], #[], rfl, callable_45, fun w hw => ⟨_, hw.sat, fiduciallaw48_far_walk hc107⟩⟩ ?_
              refine WO_pure tbok 2 [(0, .slice a_p0 p0.length c_p0), (3, .pointer (some ⟨b3, 0, none⟩)), (4, .pointer (some ⟨b4, 0, none⟩)), (5, .int .i64 0), (8, .pointer (some ⟨b101, 0, none⟩)), (26, .slice a_p0 p0.length c_p0), (27, .int .i64 (p0.length : Int)), (28, .int .i64 s_2), (40, .bool y_26)] rfl ⟨rfl, rfl, rfl, rfl, rfl, rfl, rfl, rfl, rfl, trivial⟩ ?_
              refine WO_split (d := 40) (b := y_26) rfl (fun hb108 => ?_) (fun hb108 => ?_)
              · have hx102 := ifT hb108 hx102
                refine WO_pure tbok 2 [(0, .slice a_p0 p0.length c_p0), (3, .pointer (some ⟨b3, 0, none⟩)), (4, .pointer (some ⟨b4, 0, none⟩)), (5, .int .i64 0), (26, .slice a_p0 p0.length c_p0), (27, .int .i64 (p0.length : Int)), (28, .int .i64 s_2), (40, .bool true)] rfl ⟨rfl, rfl, rfl, rfl, rfl, rfl, rfl, rfl, trivial⟩ ?_
                refine WO_skip rfl rfl ?_
                refine WO_pure tbok 1 [(0, .slice a_p0 p0.length c_p0), (3, .pointer (some ⟨b3, 0, none⟩)), (4, .pointer (some ⟨b4, 0, none⟩)), (5, .int .i64 0), (26, .slice a_p0 p0.length c_p0), (27, .int .i64 (p0.length : Int)), (28, .int .i64 s_2), (44, .bool true)] rfl ⟨rfl, rfl, rfl, rfl, rfl, rfl, rfl, rfl, trivial⟩ ?_
                refine WO_end ?_
                cases hx102
                refine WK.sub ?_ (WK.cls (fun _ h => h) hk103)
                exact ⟨rfl, rfl, rfl, rfl, rfl, rfl, rfl, rfl, trivial⟩
              · have hx102 := ifF hb108 hx102
                refine WO_pure tbok 1 [(0, .slice a_p0 p0.length c_p0), (3, .pointer (some ⟨b3, 0, none⟩)), (4, .pointer (some ⟨b4, 0, none⟩)), (5, .int .i64 0), (26, .slice a_p0 p0.length c_p0), (27, .int .i64 (p0.length : Int)), (28, .int .i64 s_2), (40, .bool false), (41, .pointer (some ⟨b101, 2, none⟩))] rfl ⟨rfl, rfl, rfl, rfl, rfl, rfl, rfl, rfl, rfl, trivial⟩ ?_
                refine WO_loadB tbok 2 rfl rfl rfl rfl (fun _ h => h) rfl rfl ?_
                obtain ⟨y_27, hc109, hx102⟩ := bind_some hx102
                refine WO_call0 (.bool y_27) rfl rfl trivial rfl rfl rfl rfl St_closed ⟨45, #[], #[], rfl, callable_45, fun w hw => ⟨_, hw.sat, fiduciallaw48_far_walk hc109⟩⟩ ?_
                refine WO_pure tbok 1 [(0, .slice a_p0 p0.length c_p0), (3, .pointer (some ⟨b3, 0, none⟩)), (4, .pointer (some ⟨b4, 0, none⟩)), (5, .int .i64 0), (26, .slice a_p0 p0.length c_p0), (27, .int .i64 (p0.length : Int)), (28, .int .i64 s_2), (44, .bool y_27)] rfl ⟨rfl, rfl, rfl, rfl, rfl, rfl, rfl, rfl, trivial⟩ ?_
                refine WO_end ?_
                cases hx102
                refine WK.sub ?_ (WK.cls (fun _ h => h) hk103)
                exact ⟨rfl, rfl, rfl, rfl, rfl, rfl, rfl, rfl, trivial⟩
        · have hm11 := ifF hb98 hm11
          refine WK_exit rfl ?_
          cases hm11
          refine WK.sub ?_ (WK.cls (fun _ h => h) (hk10 ((), ()) (hd15 _ rfl)))
          exact ⟨rfl, rfl, rfl, rfl, trivial⟩
theorem fiduciallaw48_same_walk {m : Mu} {p0_0 : Int} {p0_1 : Int} {p0_2 : Int} {p0_3 : Int} {p0_4 : Int} {p0_5 : List Int} {p1_0 : Int} {p1_1 : Int} {p1_2 : Int} {p1_3 : Int} {p1_4 : Int} {p1_5 : List Int} {a_p0_5 : Option Addr} {q_p0_5 c_p0_5 : Nat} {a_p1_5 : Option Addr} {q_p1_5 c_p1_5 : Nat} (h_p0_5 : SlR (FE (I1 .i64)) 1 m (.slice a_p0_5 q_p0_5 c_p0_5) p0_5) (h_p1_5 : SlR (FE (I1 .i64)) 1 m (.slice a_p1_5 q_p1_5 c_p1_5) p1_5) {r : Bool} (hm : fiduciallaw48_same p0_0 p0_1 p0_2 p0_3 p0_4 p0_5 p1_0 p1_1 p1_2 p1_3 p1_4 p1_5 = some r) :
    Go.E.Spec Try.prog 15 [.agg #[.int .i64 p0_0, .int .i64 p0_1, .int .i64 p0_2, .int .i64 p0_3, .int .i64 p0_4, .slice a_p0_5 q_p0_5 c_p0_5], .agg #[.int .i64 p1_0, .int .i64 p1_1, .int .i64 p1_2, .int .i64 p1_3, .int .i64 p1_4, .slice a_p1_5 q_p1_5 c_p1_5]] m (fun v _ _ => v = .bool r) := by
  refine Spec_enter Try.func15 rfl rfl rfl (fun w0 => ?_)
  refine WK.sub (e' := [(0, .agg #[.int .i64 p0_0, .int .i64 p0_1, .int .i64 p0_2, .int .i64 p0_3, .int .i64 p0_4, .slice a_p0_5 q_p0_5 c_p0_5]), (1, .agg #[.int .i64 p1_0, .int .i64 p1_1, .int .i64 p1_2, .int .i64 p1_3, .int .i64 p1_4, .slice a_p1_5 q_p1_5 c_p1_5])]) ⟨rfl, rfl, trivial⟩ ?_
  obtain rfl := SlR.qlen h_p0_5
  obtain rfl := SlR.qlen h_p1_5
  refine WK.sub (e' := [(0, .agg #[.int .i64 p0_0, .int .i64 p0_1, .int .i64 p0_2, .int .i64 p0_3, .int .i64 p0_4, .slice a_p0_5 p0_5.length c_p0_5]), (1, .agg #[.int .i64 p1_0, .int .i64 p1_1, .int .i64 p1_2, .int .i64 p1_3, .int .i64 p1_4, .slice a_p1_5 p1_5.length c_p1_5])]) ⟨rfl, rfl, trivial⟩ ?_
  unfold fiduciallaw48_same at hm
  refine WK_seq ?_
  refine WK_region ?_
  refine WO_box [.int .i64 p0_0, .int .i64 p0_1, .int .i64 p0_2, .int .i64 p0_3, .int .i64 p0_4, .slice a_p0_5 p0_5.length c_p0_5] rfl rfl trivial rfl rfl rfl (fun b3 => ?_)
  refine WO.cls (C' := St w0 m m [[⟨b3, 25, [.int .i64 p0_0, .int .i64 p0_1, .int .i64 p0_2, .int .i64 p0_3, .int .i64 p0_4, .slice a_p0_5 p0_5.length c_p0_5]⟩]]) (fun _ h => h) ?_
  refine WO_box [.int .i64 p1_0, .int .i64 p1_1, .int .i64 p1_2, .int .i64 p1_3, .int .i64 p1_4, .slice a_p1_5 p1_5.length c_p1_5] rfl rfl trivial rfl rfl rfl (fun b4 => ?_)
  refine WO.cls (C' := St w0 m m [[⟨b3, 25, [.int .i64 p0_0, .int .i64 p0_1, .int .i64 p0_2, .int .i64 p0_3, .int .i64 p0_4, .slice a_p0_5 p0_5.length c_p0_5]⟩], [⟨b4, 25, [.int .i64 p1_0, .int .i64 p1_1, .int .i64 p1_2, .int .i64 p1_3, .int .i64 p1_4, .slice a_p1_5 p1_5.length c_p1_5]⟩]]) (fun _ h => h) ?_
  refine WO_pure tbok 1 [(2, .pointer (some ⟨b3, 0, none⟩)), (3, .pointer (some ⟨b4, 0, none⟩)), (4, .bool false)] rfl ⟨rfl, rfl, rfl, trivial⟩ ?_
  refine WO_end ?_
  refine WK_seq ?_
  refine WK_region ?_
  refine WO_pure tbok 1 [(2, .pointer (some ⟨b3, 0, none⟩)), (3, .pointer (some ⟨b4, 0, none⟩)), (4, .bool false), (5, .pointer (some ⟨b3, 0, none⟩))] rfl ⟨rfl, rfl, rfl, rfl, trivial⟩ ?_
  refine WO_loadB tbok 0 rfl rfl rfl rfl (fun _ h => h) rfl rfl ?_
  refine WO_pure tbok 1 [(2, .pointer (some ⟨b3, 0, none⟩)), (3, .pointer (some ⟨b4, 0, none⟩)), (4, .bool false), (6, .int .i64 p0_0), (7, .pointer (some ⟨b4, 0, none⟩))] rfl ⟨rfl, rfl, rfl, rfl, rfl, trivial⟩ ?_
  refine WO_loadB tbok 1 rfl rfl rfl rfl (fun _ h => h) rfl rfl ?_
  refine WO_pure tbok 2 [(2, .pointer (some ⟨b3, 0, none⟩)), (3, .pointer (some ⟨b4, 0, none⟩)), (4, .bool false), (10, .bool (p0_0 == p1_0))] rfl ⟨rfl, rfl, rfl, rfl, trivial⟩ ?_
  refine WO_split (d := 10) (b := p0_0 == p1_0) rfl (fun hb5 => ?_) (fun hb5 => ?_)
  · have hm := ifT hb5 hm
    refine WO_pure tbok 1 [(2, .pointer (some ⟨b3, 0, none⟩)), (3, .pointer (some ⟨b4, 0, none⟩)), (4, .bool false), (10, .bool true), (11, .pointer (some ⟨b3, 1, none⟩))] rfl ⟨rfl, rfl, rfl, rfl, rfl, trivial⟩ ?_
    refine WO_loadB tbok 0 rfl rfl rfl rfl (fun _ h => h) rfl rfl ?_
    refine WO_pure tbok 1 [(2, .pointer (some ⟨b3, 0, none⟩)), (3, .pointer (some ⟨b4, 0, none⟩)), (4, .bool false), (10, .bool true), (12, .int .i64 p0_1), (13, .pointer (some ⟨b4, 1, none⟩))] rfl ⟨rfl, rfl, rfl, rfl, rfl, rfl, trivial⟩ ?_
    refine WO_loadB tbok 1 rfl rfl rfl rfl (fun _ h => h) rfl rfl ?_
    refine WO_pure tbok 3 [(2, .pointer (some ⟨b3, 0, none⟩)), (3, .pointer (some ⟨b4, 0, none⟩)), (4, .bool false), (17, .bool (p0_1 == p1_1))] rfl ⟨rfl, rfl, rfl, rfl, trivial⟩ ?_
    refine WO_split (d := 17) (b := p0_1 == p1_1) rfl (fun hb6 => ?_) (fun hb6 => ?_)
    · have hm := ifT hb6 hm
      refine WO_pure tbok 1 [(2, .pointer (some ⟨b3, 0, none⟩)), (3, .pointer (some ⟨b4, 0, none⟩)), (4, .bool false), (17, .bool true), (18, .pointer (some ⟨b3, 2, none⟩))] rfl ⟨rfl, rfl, rfl, rfl, rfl, trivial⟩ ?_
      refine WO_loadB tbok 0 rfl rfl rfl rfl (fun _ h => h) rfl rfl ?_
      refine WO_pure tbok 1 [(2, .pointer (some ⟨b3, 0, none⟩)), (3, .pointer (some ⟨b4, 0, none⟩)), (4, .bool false), (17, .bool true), (19, .int .i64 p0_2), (20, .pointer (some ⟨b4, 2, none⟩))] rfl ⟨rfl, rfl, rfl, rfl, rfl, rfl, trivial⟩ ?_
      refine WO_loadB tbok 1 rfl rfl rfl rfl (fun _ h => h) rfl rfl ?_
      refine WO_pure tbok 3 [(2, .pointer (some ⟨b3, 0, none⟩)), (3, .pointer (some ⟨b4, 0, none⟩)), (4, .bool false), (24, .bool (p0_2 == p1_2))] rfl ⟨rfl, rfl, rfl, rfl, trivial⟩ ?_
      refine WO_split (d := 24) (b := p0_2 == p1_2) rfl (fun hb7 => ?_) (fun hb7 => ?_)
      · have hm := ifT hb7 hm
        refine WO_pure tbok 1 [(2, .pointer (some ⟨b3, 0, none⟩)), (3, .pointer (some ⟨b4, 0, none⟩)), (4, .bool false), (24, .bool true), (25, .pointer (some ⟨b3, 3, none⟩))] rfl ⟨rfl, rfl, rfl, rfl, rfl, trivial⟩ ?_
        refine WO_loadB tbok 0 rfl rfl rfl rfl (fun _ h => h) rfl rfl ?_
        refine WO_pure tbok 1 [(2, .pointer (some ⟨b3, 0, none⟩)), (3, .pointer (some ⟨b4, 0, none⟩)), (4, .bool false), (24, .bool true), (26, .int .i64 p0_3), (27, .pointer (some ⟨b4, 3, none⟩))] rfl ⟨rfl, rfl, rfl, rfl, rfl, rfl, trivial⟩ ?_
        refine WO_loadB tbok 1 rfl rfl rfl rfl (fun _ h => h) rfl rfl ?_
        refine WO_pure tbok 3 [(2, .pointer (some ⟨b3, 0, none⟩)), (3, .pointer (some ⟨b4, 0, none⟩)), (4, .bool false), (31, .bool (p0_3 == p1_3))] rfl ⟨rfl, rfl, rfl, rfl, trivial⟩ ?_
        refine WO_split (d := 31) (b := p0_3 == p1_3) rfl (fun hb8 => ?_) (fun hb8 => ?_)
        · have hm := ifT hb8 hm
          refine WO_pure tbok 1 [(2, .pointer (some ⟨b3, 0, none⟩)), (3, .pointer (some ⟨b4, 0, none⟩)), (4, .bool false), (31, .bool true), (32, .pointer (some ⟨b3, 4, none⟩))] rfl ⟨rfl, rfl, rfl, rfl, rfl, trivial⟩ ?_
          refine WO_loadB tbok 0 rfl rfl rfl rfl (fun _ h => h) rfl rfl ?_
          refine WO_pure tbok 1 [(2, .pointer (some ⟨b3, 0, none⟩)), (3, .pointer (some ⟨b4, 0, none⟩)), (4, .bool false), (31, .bool true), (33, .int .i64 p0_4), (34, .pointer (some ⟨b4, 4, none⟩))] rfl ⟨rfl, rfl, rfl, rfl, rfl, rfl, trivial⟩ ?_
          refine WO_loadB tbok 1 rfl rfl rfl rfl (fun _ h => h) rfl rfl ?_
          refine WO_pure tbok 3 [(2, .pointer (some ⟨b3, 0, none⟩)), (3, .pointer (some ⟨b4, 0, none⟩)), (4, .bool false), (38, .bool (p0_4 == p1_4))] rfl ⟨rfl, rfl, rfl, rfl, trivial⟩ ?_
          refine WO_split (d := 38) (b := p0_4 == p1_4) rfl (fun hb9 => ?_) (fun hb9 => ?_)
          · have hm := ifT hb9 hm
            refine WO_pure tbok 1 [(3, .pointer (some ⟨b4, 0, none⟩)), (4, .bool false), (38, .bool true), (39, .pointer (some ⟨b3, 5, none⟩))] rfl ⟨rfl, rfl, rfl, rfl, trivial⟩ ?_
            refine WO_loadB tbok 0 rfl rfl rfl rfl (fun _ h => h) rfl rfl ?_
            refine WO_pure tbok 1 [(4, .bool false), (38, .bool true), (40, .slice a_p0_5 p0_5.length c_p0_5), (41, .pointer (some ⟨b4, 5, none⟩))] rfl ⟨rfl, rfl, rfl, rfl, trivial⟩ ?_
            refine WO_loadB tbok 1 rfl rfl rfl rfl (fun _ h => h) rfl rfl ?_
            obtain ⟨y_1, hc10, hm⟩ := bind_some hm
            refine WO_call0 (.bool y_1) rfl rfl trivial rfl rfl rfl rfl St_closed ⟨38, #[], #[], rfl, callable_38, fun w hw => ⟨_, hw.sat, slices_Equal_sint_walk h_p0_5 h_p1_5 hc10⟩⟩ ?_
            refine WO_pure tbok 2 [(4, .bool y_1)] rfl ⟨rfl, trivial⟩ ?_
            refine WO_end ?_
            cases hm
            exact WK_ret (ret_out (L := []) (RLc_tmp rfl RLc_nil) (List.nil_sublist _) rfl)
          · have hm := ifF hb9 hm
            refine WO_pure tbok 4 [(4, .bool false), (38, .bool false)] rfl ⟨rfl, rfl, trivial⟩ ?_
            refine WO_skip rfl rfl ?_
            refine WO_pure tbok 2 [(4, .bool false)] rfl ⟨rfl, trivial⟩ ?_
            refine WO_end ?_
            cases hm
            exact WK_ret (ret_out (L := []) (RLc_tmp rfl RLc_nil) (List.nil_sublist _) rfl)
        · have hm := ifF hb8 hm
          refine WO_pure tbok 11 [(4, .bool false), (38, .bool false)] rfl ⟨rfl, rfl, trivial⟩ ?_
          refine WO_skip rfl rfl ?_
          refine WO_pure tbok 2 [(4, .bool false)] rfl ⟨rfl, trivial⟩ ?_
          refine WO_end ?_
          cases hm
          exact WK_ret (ret_out (L := []) (RLc_tmp rfl RLc_nil) (List.nil_sublist _) rfl)
      · have hm := ifF hb7 hm
        refine WO_pure tbok 18 [(4, .bool false), (38, .bool false)] rfl ⟨rfl, rfl, trivial⟩ ?_
        refine WO_skip rfl rfl ?_
        refine WO_pure tbok 2 [(4, .bool false)] rfl ⟨rfl, trivial⟩ ?_
        refine WO_end ?_
        cases hm
        exact WK_ret (ret_out (L := []) (RLc_tmp rfl RLc_nil) (List.nil_sublist _) rfl)
    · have hm := ifF hb6 hm
      refine WO_pure tbok 25 [(4, .bool false), (38, .bool false)] rfl ⟨rfl, rfl, trivial⟩ ?_
      refine WO_skip rfl rfl ?_
      refine WO_pure tbok 2 [(4, .bool false)] rfl ⟨rfl, trivial⟩ ?_
      refine WO_end ?_
      cases hm
      exact WK_ret (ret_out (L := []) (RLc_tmp rfl RLc_nil) (List.nil_sublist _) rfl)
  · have hm := ifF hb5 hm
    refine WO_pure tbok 32 [(4, .bool false), (38, .bool false)] rfl ⟨rfl, rfl, trivial⟩ ?_
    refine WO_skip rfl rfl ?_
    refine WO_pure tbok 2 [(4, .bool false)] rfl ⟨rfl, trivial⟩ ?_
    refine WO_end ?_
    cases hm
    exact WK_ret (ret_out (L := []) (RLc_tmp rfl RLc_nil) (List.nil_sublist _) rfl)
theorem fiduciallaw48_TerrainSurface_walk {m : Mu} {p0 : List (Int × Int × Int)} {p1_0 : Int} {p1_1 : Int} {p1_2 : Int} {p1_3 : Int} {p1_4 : Int} {p1_5 : List Int} {a_p0 : Option Addr} {q_p0 c_p0 : Nat} {a_p1_5 : Option Addr} {q_p1_5 c_p1_5 : Nat} (h_p0 : SlR (FE T3) 3 m (.slice a_p0 q_p0 c_p0) p0) (h_p1_5 : SlR (FE (I1 .i64)) 1 m (.slice a_p1_5 q_p1_5 c_p1_5) p1_5) {r : Bool} (hm : fiduciallaw48_TerrainSurface p0 p1_0 p1_1 p1_2 p1_3 p1_4 p1_5 = some r) :
    Go.E.Spec Try.prog 3 [.slice a_p0 q_p0 c_p0, .agg #[.int .i64 p1_0, .int .i64 p1_1, .int .i64 p1_2, .int .i64 p1_3, .int .i64 p1_4, .slice a_p1_5 q_p1_5 c_p1_5]] m (fun v _ _ => v = .bool r) := by
  refine Spec_enter Try.func3 rfl rfl rfl (fun w0 => ?_)
  refine WK.sub (e' := [(0, .slice a_p0 q_p0 c_p0), (1, .agg #[.int .i64 p1_0, .int .i64 p1_1, .int .i64 p1_2, .int .i64 p1_3, .int .i64 p1_4, .slice a_p1_5 q_p1_5 c_p1_5])]) ⟨rfl, rfl, trivial⟩ ?_
  obtain rfl := SlR.qlen h_p0
  obtain rfl := SlR.qlen h_p1_5
  refine WK.sub (e' := [(0, .slice a_p0 p0.length c_p0), (1, .agg #[.int .i64 p1_0, .int .i64 p1_1, .int .i64 p1_2, .int .i64 p1_3, .int .i64 p1_4, .slice a_p1_5 p1_5.length c_p1_5])]) ⟨rfl, rfl, trivial⟩ ?_
  unfold fiduciallaw48_TerrainSurface at hm
  refine WK_seq ?_
  refine WK_region ?_
  refine WO_box [.int .i64 p1_0, .int .i64 p1_1, .int .i64 p1_2, .int .i64 p1_3, .int .i64 p1_4, .slice a_p1_5 p1_5.length c_p1_5] rfl rfl trivial rfl rfl rfl (fun b3 => ?_)
  refine WO.cls (C' := St w0 m m [[⟨b3, 25, [.int .i64 p1_0, .int .i64 p1_1, .int .i64 p1_2, .int .i64 p1_3, .int .i64 p1_4, .slice a_p1_5 p1_5.length c_p1_5]⟩]]) (fun _ h => h) ?_
  refine WO_pure tbok 1 [(0, .slice a_p0 p0.length c_p0), (3, .pointer (some ⟨b3, 0, none⟩)), (4, .bool false)] rfl ⟨rfl, rfl, rfl, trivial⟩ ?_
  refine WO_end ?_
  refine WK_seq ?_
  refine WK_seq ?_
  refine WK_region ?_
  obtain ⟨y_1, hc4, hm⟩ := bind_some hm
  refine WO_call0 (.bool y_1) rfl rfl trivial rfl rfl rfl rfl St_closed ⟨11, #[], #[], rfl, callable_11, fun w hw => ⟨_, hw.sat, fiduciallaw48_known_walk hc4⟩⟩ ?_
  refine WO_pure tbok 1 [(0, .slice a_p0 p0.length c_p0), (3, .pointer (some ⟨b3, 0, none⟩)), (4, .bool false), (10, .bool (!y_1))] rfl ⟨rfl, rfl, rfl, rfl, trivial⟩ ?_
  refine WO_end ?_
  refine WK_cond (b := !y_1) rfl (fun hb5 => ?_) (fun hb5 => ?_)
  · have hm := ifT hb5 hm
    refine WK_seq ?_
    refine WK_region ?_
    refine WO_pure tbok 1 [(0, .slice a_p0 p0.length c_p0), (3, .pointer (some ⟨b3, 0, none⟩)), (4, .bool false)] rfl ⟨rfl, rfl, rfl, trivial⟩ ?_
    refine WO_end ?_
    cases hm
    exact WK_ret (ret_out (L := []) (RLc_tmp rfl RLc_nil) (List.nil_sublist _) rfl)
  · have hm := ifF hb5 hm
    refine WK_skip ?_
    refine WK_seq ?_
    refine WK_seq ?_
    obtain ⟨s_2, hx6, hm⟩ := bind_some hm
    refine WK_meet [(0, .slice a_p0 p0.length c_p0), (3, .pointer (some ⟨b3, 0, none⟩)), (4, .bool false), (18, .bool s_2)] (St w0 m m [[⟨b3, 25, [.int .i64 p1_0, .int .i64 p1_1, .int .i64 p1_2, .int .i64 p1_3, .int .i64 p1_4, .slice a_p1_5 p1_5.length c_p1_5]⟩]]) ?_ (fun hk7 => ?_)
    · refine WK_cond (b := s_2) rfl (fun hb8 => ?_) (fun hb8 => ?_)
      · have hm := ifT hb8 hm
        refine WK_seq ?_
        refine WK_region ?_
        refine WO_pure tbok 1 [(0, .slice a_p0 p0.length c_p0), (3, .pointer (some ⟨b3, 0, none⟩)), (4, .bool true)] rfl ⟨rfl, rfl, rfl, trivial⟩ ?_
        refine WO_end ?_
        cases hm
        exact WK_ret (ret_out (L := []) (RLc_tmp rfl RLc_nil) (List.nil_sublist _) rfl)
      · have hm := ifF hb8 hm
        refine WK_skip ?_
        refine WK_seq ?_
        refine WK_region ?_
        refine WO_pure tbok 1 [(0, .slice a_p0 p0.length c_p0), (3, .pointer (some ⟨b3, 0, none⟩)), (4, .bool false), (20, .slice a_p0 p0.length c_p0)] rfl ⟨rfl, rfl, rfl, rfl, trivial⟩ ?_
        refine WO_loadB tbok 0 rfl rfl rfl rfl (fun _ h => h) rfl rfl ?_
        obtain ⟨⟨y_3, y_4, y_5, y_6, y_7, y_8, y_9⟩, hc9, hm⟩ := bind_some hm
        refine WO_call2 (terrain_Surface_Q (y_3, y_4, y_5, y_6, y_7, y_8, y_9)) rfl rfl trivial rfl rfl rfl rfl ⟨13, #[], #[], rfl, callable_13, terrain_Surface_walk h_p0 h_p1_5 hc9⟩ (fun v14 m15 L13 hle16 hq => ?_)
        obtain ⟨a10, qa10, c11, rfl, h17⟩ := hq
        obtain rfl := SlR.qlen h17
        refine WO.cls (C' := St w0 m m15 [[⟨b3, 25, [.int .i64 p1_0, .int .i64 p1_1, .int .i64 p1_2, .int .i64 p1_3, .int .i64 p1_4, .slice a_p1_5 p1_5.length c_p1_5]⟩], L13]) (fun _ h => h.sub (by simp)) ?_
        refine WO_pure tbok 3 [(0, .slice a_p0 p0.length c_p0), (3, .pointer (some ⟨b3, 0, none⟩)), (4, .bool false), (23, .agg #[.int .i64 y_3, .int .i64 y_4, .int .i64 y_5, .int .i64 y_6, .int .i64 y_7, .slice a10 ((y_8).length) c11]), (24, .int .i64 y_9)] rfl ⟨rfl, rfl, rfl, rfl, rfl, trivial⟩ ?_
        refine WO_alloc tbok [.int .i64 0, .int .i64 0, .int .i64 0, .int .i64 0, .int .i64 0, .slice none 0 0] rfl rfl trivial rfl rfl rfl rfl (fun b18 => ?_)
        refine WO.cls (C' := St w0 m m15 [[⟨b3, 25, [.int .i64 p1_0, .int .i64 p1_1, .int .i64 p1_2, .int .i64 p1_3, .int .i64 p1_4, .slice a_p1_5 p1_5.length c_p1_5]⟩], L13, [⟨b18, 25, [.int .i64 0, .int .i64 0, .int .i64 0, .int .i64 0, .int .i64 0, .slice none 0 0]⟩]]) (fun _ h => h) ?_
        refine WO_storeB tbok 2 [.int .i64 y_3, .int .i64 y_4, .int .i64 y_5, .int .i64 y_6, .int .i64 y_7, .slice a10 ((y_8).length) c11] rfl rfl rfl rfl rfl rfl rfl ?_
        refine WO.cls (C' := St w0 m m15 [[⟨b3, 25, [.int .i64 p1_0, .int .i64 p1_1, .int .i64 p1_2, .int .i64 p1_3, .int .i64 p1_4, .slice a_p1_5 p1_5.length c_p1_5]⟩], L13, [⟨b18, 25, [.int .i64 y_3, .int .i64 y_4, .int .i64 y_5, .int .i64 y_6, .int .i64 y_7, .slice a10 ((y_8).length) c11]⟩]]) (fun _ h => h) ?_
        refine WO_pure tbok 1 [(0, .slice a_p0 p0.length c_p0), (3, .pointer (some ⟨b3, 0, none⟩)), (4, .bool false), (5, .pointer (some ⟨b18, 0, none⟩)), (6, .int .i64 y_9)] rfl ⟨rfl, rfl, rfl, rfl, rfl, trivial⟩ ?_
        refine WO_end ?_
        refine WK_seq ?_
        refine WK_region ?_
        refine WO_pure tbok 1 [(3, .pointer (some ⟨b3, 0, none⟩)), (4, .bool false), (5, .pointer (some ⟨b18, 0, none⟩)), (6, .int .i64 y_9), (26, .slice a_p0 p0.length c_p0)] rfl ⟨rfl, rfl, rfl, rfl, rfl, trivial⟩ ?_
        refine WO_loadB tbok 0 rfl rfl rfl rfl (fun _ h => h) rfl rfl ?_
        obtain ⟨⟨y_10, y_11, y_12, y_13, y_14, y_15, y_16⟩, hc19, hm⟩ := bind_some hm
        refine WO_call2 (fiduciallaw48_surface_Q (y_10, y_11, y_12, y_13, y_14, y_15, y_16)) rfl rfl trivial rfl rfl rfl rfl ⟨14, #[], #[], rfl, callable_14, fiduciallaw48_surface_walk (h_p0.mono (mono_FE _) hle16) (h_p1_5.mono (mono_FE _) hle16) hc19⟩ (fun v24 m25 L23 hle26 hq => ?_)
        obtain ⟨a20, qa20, c21, rfl, h27⟩ := hq
        obtain rfl := SlR.qlen h27
        refine WO.cls (C' := St w0 m m25 [[⟨b3, 25, [.int .i64 p1_0, .int .i64 p1_1, .int .i64 p1_2, .int .i64 p1_3, .int .i64 p1_4, .slice a_p1_5 p1_5.length c_p1_5]⟩], L13, [⟨b18, 25, [.int .i64 y_3, .int .i64 y_4, .int .i64 y_5, .int .i64 y_6, .int .i64 y_7, .slice a10 ((y_8).length) c11]⟩], L23]) (fun _ h => h.sub (by simp)) ?_
        refine WO_pure tbok 3 [(3, .pointer (some ⟨b3, 0, none⟩)), (4, .bool false), (5, .pointer (some ⟨b18, 0, none⟩)), (6, .int .i64 y_9), (29, .agg #[.int .i64 y_10, .int .i64 y_11, .int .i64 y_12, .int .i64 y_13, .int .i64 y_14, .slice a20 ((y_15).length) c21]), (30, .int .i64 y_16)] rfl ⟨rfl, rfl, rfl, rfl, rfl, rfl, trivial⟩ ?_
        refine WO_alloc tbok [.int .i64 0, .int .i64 0, .int .i64 0, .int .i64 0, .int .i64 0, .slice none 0 0] rfl rfl trivial rfl rfl rfl rfl (fun b28 => ?_)
        refine WO.cls (C' := St w0 m m25 [[⟨b3, 25, [.int .i64 p1_0, .int .i64 p1_1, .int .i64 p1_2, .int .i64 p1_3, .int .i64 p1_4, .slice a_p1_5 p1_5.length c_p1_5]⟩], L13, [⟨b18, 25, [.int .i64 y_3, .int .i64 y_4, .int .i64 y_5, .int .i64 y_6, .int .i64 y_7, .slice a10 ((y_8).length) c11]⟩], L23, [⟨b28, 25, [.int .i64 0, .int .i64 0, .int .i64 0, .int .i64 0, .int .i64 0, .slice none 0 0]⟩]]) (fun _ h => h) ?_
        refine WO_storeB tbok 4 [.int .i64 y_10, .int .i64 y_11, .int .i64 y_12, .int .i64 y_13, .int .i64 y_14, .slice a20 ((y_15).length) c21] rfl rfl rfl rfl rfl rfl rfl ?_
        refine WO.cls (C' := St w0 m m25 [[⟨b3, 25, [.int .i64 p1_0, .int .i64 p1_1, .int .i64 p1_2, .int .i64 p1_3, .int .i64 p1_4, .slice a_p1_5 p1_5.length c_p1_5]⟩], L13, [⟨b18, 25, [.int .i64 y_3, .int .i64 y_4, .int .i64 y_5, .int .i64 y_6, .int .i64 y_7, .slice a10 ((y_8).length) c11]⟩], L23, [⟨b28, 25, [.int .i64 y_10, .int .i64 y_11, .int .i64 y_12, .int .i64 y_13, .int .i64 y_14, .slice a20 ((y_15).length) c21]⟩]]) (fun _ h => h) ?_
        refine WO_pure tbok 1 [(3, .pointer (some ⟨b3, 0, none⟩)), (4, .bool false), (5, .pointer (some ⟨b18, 0, none⟩)), (6, .int .i64 y_9), (7, .pointer (some ⟨b28, 0, none⟩)), (8, .int .i64 y_16)] rfl ⟨rfl, rfl, rfl, rfl, rfl, rfl, trivial⟩ ?_
        refine WO_end ?_
        refine WK_seq ?_
        refine WK_draw 16 [0, 1, 2, 3, 4, 5, 6, 7, 8, 9, 11, 10, 12, 13, 14, 15] follows_ok (by kernel_rfl) St_closed ?_
        refine WO_pure tbok 4 [(3, .pointer (some ⟨b3, 0, none⟩)), (4, .bool false), (5, .pointer (some ⟨b18, 0, none⟩)), (7, .pointer (some ⟨b28, 0, none⟩)), (34, .bool (y_9 == y_16))] rfl ⟨rfl, rfl, rfl, rfl, rfl, trivial⟩ ?_
        refine WO_split (d := 34) (b := y_9 == y_16) rfl (fun hb29 => ?_) (fun hb29 => ?_)
        · have hm := ifT hb29 hm
          refine WO_loadB tbok 2 rfl rfl rfl rfl (fun _ h => h) rfl rfl ?_
          refine WO_loadB tbok 4 rfl rfl rfl rfl (fun _ h => h) rfl rfl ?_
          obtain ⟨y_17, hc30, hm⟩ := bind_some hm
          refine WO_call0 (.bool y_17) rfl rfl St_closed rfl rfl rfl rfl St_closed ⟨15, #[], #[], rfl, callable_15, fun w hw => ⟨_, hw.sat, fiduciallaw48_same_walk (h17.mono (mono_FE _) hle26) h27 hc30⟩⟩ ?_
          refine WO_pure tbok 2 [(3, .pointer (some ⟨b3, 0, none⟩)), (4, .bool false), (39, .bool y_17)] rfl ⟨rfl, rfl, rfl, trivial⟩ ?_
          refine WO_split (d := 39) (b := y_17) rfl (fun hb31 => ?_) (fun hb31 => ?_)
          · have hm := ifT hb31 hm
            refine WO_loadB tbok 0 rfl rfl rfl rfl (fun _ h => h) rfl rfl ?_
            refine WO_loadB tbok 0 rfl rfl rfl rfl (fun _ h => h) rfl rfl ?_
            obtain ⟨y_18, hc32, hm⟩ := bind_some hm
            refine WO_call0 (.int .i64 y_18) rfl rfl St_closed rfl rfl rfl rfl St_closed ⟨16, #[], #[], rfl, callable_16, fun w hw => ⟨_, hw.sat, terrain_Check_walk ((h_p1_5.mono (mono_FE _) hle16).mono (mono_FE _) hle26) hc32⟩⟩ ?_
            obtain ⟨y_19, hc33, hm⟩ := bind_some hm
            refine WO_call0 (.int .i64 y_19) rfl rfl St_closed rfl rfl rfl rfl St_closed ⟨17, #[], #[], rfl, callable_17, fun w hw => ⟨_, hw.sat, fiduciallaw48_checked_walk ((h_p1_5.mono (mono_FE _) hle16).mono (mono_FE _) hle26) hc33⟩⟩ ?_
            refine WO_pure tbok 3 [(4, .bool (y_18 == y_19))] rfl ⟨rfl, trivial⟩ ?_
            refine WO_tail ?_
            refine WO_end ?_
            cases hm
            exact WK_ret (ret_out (L := []) (RLc_tmp rfl RLc_nil) (List.nil_sublist _) rfl)
          · have hm := ifF hb31 hm
            refine WO_pure tbok 2 [(4, .bool false), (39, .bool false)] rfl ⟨rfl, rfl, trivial⟩ ?_
            refine WO_skip rfl rfl ?_
            refine WO_skip rfl rfl ?_
            refine WO_pure tbok 3 [(4, .bool false)] rfl ⟨rfl, trivial⟩ ?_
            refine WO_tail ?_
            refine WO_end ?_
            cases hm
            exact WK_ret (ret_out (L := []) (RLc_tmp rfl RLc_nil) (List.nil_sublist _) rfl)
        · have hm := ifF hb29 hm
          refine WO_pure tbok 2 [(3, .pointer (some ⟨b3, 0, none⟩)), (4, .bool false), (34, .bool false)] rfl ⟨rfl, rfl, rfl, trivial⟩ ?_
          refine WO_skip rfl rfl ?_
          refine WO_pure tbok 4 [(4, .bool false), (39, .bool false)] rfl ⟨rfl, rfl, trivial⟩ ?_
          refine WO_skip rfl rfl ?_
          refine WO_skip rfl rfl ?_
          refine WO_pure tbok 3 [(4, .bool false)] rfl ⟨rfl, trivial⟩ ?_
          refine WO_tail ?_
          refine WO_end ?_
          cases hm
          exact WK_ret (ret_out (L := []) (RLc_tmp rfl RLc_nil) (List.nil_sublist _) rfl)
    · refine WK_region ?_
      refine WO_pure tbok 4 [(0, .slice a_p0 p0.length c_p0), (3, .pointer (some ⟨b3, 0, none⟩)), (4, .bool false), (14, .bool (decide (40 < (p0.length : Int))))] rfl ⟨rfl, rfl, rfl, rfl, trivial⟩ ?_
      refine WO_split (d := 14) (b := decide (40 < (p0.length : Int))) rfl (fun hb34 => ?_) (fun hb34 => ?_)
      · have hx6 := ifT hb34 hx6
        refine WO_pure tbok 1 [(0, .slice a_p0 p0.length c_p0), (3, .pointer (some ⟨b3, 0, none⟩)), (4, .bool false), (14, .bool true)] rfl ⟨rfl, rfl, rfl, rfl, trivial⟩ ?_
        refine WO_skip rfl rfl ?_
        refine WO_pure tbok 2 [(0, .slice a_p0 p0.length c_p0), (3, .pointer (some ⟨b3, 0, none⟩)), (4, .bool false), (18, .bool true)] rfl ⟨rfl, rfl, rfl, rfl, trivial⟩ ?_
        refine WO_end ?_
        cases hx6
        refine WK.sub ?_ (WK.cls (fun _ h => h) hk7)
        exact ⟨rfl, rfl, rfl, rfl, trivial⟩
      · have hx6 := ifF hb34 hx6
        refine WO_loadB tbok 0 rfl rfl rfl rfl (fun _ h => h) rfl rfl ?_
        obtain ⟨y_20, hc35, hx6⟩ := bind_some hx6
        refine WO_call0 (.bool y_20) rfl rfl trivial rfl rfl rfl rfl St_closed ⟨12, #[], #[], rfl, callable_12, fun w hw => ⟨_, hw.sat, fiduciallaw48_few_walk h_p1_5 hc35⟩⟩ ?_
        refine WO_pure tbok 2 [(0, .slice a_p0 p0.length c_p0), (3, .pointer (some ⟨b3, 0, none⟩)), (4, .bool false), (18, .bool (!y_20))] rfl ⟨rfl, rfl, rfl, rfl, trivial⟩ ?_
        refine WO_end ?_
        cases hx6
        refine WK.sub ?_ (WK.cls (fun _ h => h) hk7)
        exact ⟨rfl, rfl, rfl, rfl, trivial⟩
end Go.Proofs.Ytcaeieofjchpjaa
