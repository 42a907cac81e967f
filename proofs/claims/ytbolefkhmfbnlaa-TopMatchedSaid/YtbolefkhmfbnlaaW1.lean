import Derived.Test.YtbolefkhmfbnlaaTab
import Derived.Test.YtbolefkhmfbnlaaM
import Derived.Test.YtbolefkhmfbnlaaIt
set_option linter.unusedVariables false
set_option maxRecDepth 100000
set_option maxHeartbeats 4000000
namespace Go.Proofs.Ytbolefkhmfbnlaa
open Go.E Go.RowKit
attribute [local irreducible] Go.E.WO Go.E.WK
theorem cmp_isNaN_uint64_walk {m : Mu} {p0 : Int}   {r : Bool} (hm : cmp_isNaN_uint64 p0 = some r) :
    Go.E.Spec Try.prog 104 [.int .u64 p0] m (fun v _ _ => v = .bool r) := by
  refine Spec_enter Try.func104 rfl rfl rfl (fun w0 => ?_)
  refine WK.sub (e' := [(0, .int .u64 p0)]) ⟨rfl, trivial⟩ ?_
  refine WK.sub (e' := [(0, .int .u64 p0)]) ⟨rfl, trivial⟩ ?_
  unfold cmp_isNaN_uint64 at hm
  refine WK_seq ?_
  refine WK_region ?_
  refine WO_pure tbok 1 [(0, .int .u64 p0), (2, .bool false)] rfl ⟨rfl, rfl, trivial⟩ ?_
  refine WO_end ?_
  refine WK_seq ?_
  refine WK_region ?_
  refine WO_pure tbok 4 [(2, .bool (p0 != p0))] rfl ⟨rfl, trivial⟩ ?_
  refine WO_end ?_
  cases hm
  exact WK_ret (ret_out (L := []) (RLc_tmp rfl RLc_nil) (List.nil_sublist _) rfl)
theorem cmp_Less_uint64_walk {m : Mu} {p0 : Int} {p1 : Int}   {r : Bool} (hm : cmp_Less_uint64 p0 p1 = some r) :
    Go.E.Spec Try.prog 93 [.int .u64 p0, .int .u64 p1] m (fun v _ _ => v = .bool r) := by
  refine Spec_enter Try.func93 rfl rfl rfl (fun w0 => ?_)
  refine WK.sub (e' := [(0, .int .u64 p0), (1, .int .u64 p1)]) ⟨rfl, rfl, trivial⟩ ?_
  refine WK.sub (e' := [(0, .int .u64 p0), (1, .int .u64 p1)]) ⟨rfl, rfl, trivial⟩ ?_
  unfold cmp_Less_uint64 at hm
  refine WK_seq ?_
  refine WK_region ?_
  refine WO_pure tbok 1 [(0, .int .u64 p0), (1, .int .u64 p1), (4, .bool false)] rfl ⟨rfl, rfl, rfl, trivial⟩ ?_
  refine WO_end ?_
  refine WK_seq ?_
  refine WK_region ?_
  refine WO_pure tbok 1 [(0, .int .u64 p0), (1, .int .u64 p1), (4, .bool false), (5, .int .u64 p0)] rfl ⟨rfl, rfl, rfl, rfl, trivial⟩ ?_
  obtain ⟨y_1, hc1, hm⟩ := bind_some hm
  refine WO_call0 (.bool y_1) rfl rfl trivial rfl rfl rfl rfl St_closed ⟨104, #[], #[], rfl, callable_104, fun w hw => ⟨_, hw.sat, cmp_isNaN_uint64_walk hc1⟩⟩ ?_
  refine WO_pure tbok 1 [(0, .int .u64 p0), (1, .int .u64 p1), (4, .bool false), (7, .bool y_1)] rfl ⟨rfl, rfl, rfl, rfl, trivial⟩ ?_
  refine WO_split (d := 7) (b := y_1) rfl (fun hb2 => ?_) (fun hb2 => ?_)
  · have hm := ifT hb2 hm
    refine WO_pure tbok 1 [(0, .int .u64 p0), (1, .int .u64 p1), (4, .bool false), (7, .bool true), (8, .int .u64 p1)] rfl ⟨rfl, rfl, rfl, rfl, rfl, trivial⟩ ?_
    obtain ⟨y_2, hc3, hm⟩ := bind_some hm
    refine WO_call0 (.bool y_2) rfl rfl trivial rfl rfl rfl rfl St_closed ⟨104, #[], #[], rfl, callable_104, fun w hw => ⟨_, hw.sat, cmp_isNaN_uint64_walk hc3⟩⟩ ?_
    refine WO_pure tbok 3 [(0, .int .u64 p0), (1, .int .u64 p1), (4, .bool false), (12, .bool (!y_2))] rfl ⟨rfl, rfl, rfl, rfl, trivial⟩ ?_
    refine WO_split (d := 12) (b := !y_2) rfl (fun hb4 => ?_) (fun hb4 => ?_)
    · have hm := ifT hb4 hm
      refine WO_pure tbok 5 [(4, .bool true)] rfl ⟨rfl, trivial⟩ ?_
      refine WO_end ?_
      cases hm
      exact WK_ret (ret_out (L := []) (RLc_tmp rfl RLc_nil) (List.nil_sublist _) rfl)
    · have hm := ifF hb4 hm
      refine WO_pure tbok 5 [(4, .bool (decide (p0 < p1)))] rfl ⟨rfl, trivial⟩ ?_
      refine WO_end ?_
      cases hm
      exact WK_ret (ret_out (L := []) (RLc_tmp rfl RLc_nil) (List.nil_sublist _) rfl)
  · have hm := ifF hb2 hm
    refine WO_pure tbok 1 [(0, .int .u64 p0), (1, .int .u64 p1), (4, .bool false), (7, .bool false)] rfl ⟨rfl, rfl, rfl, rfl, trivial⟩ ?_
    refine WO_skip rfl rfl ?_
    refine WO_pure tbok 8 [(4, .bool (decide (p0 < p1)))] rfl ⟨rfl, trivial⟩ ?_
    refine WO_end ?_
    cases hm
    exact WK_ret (ret_out (L := []) (RLc_tmp rfl RLc_nil) (List.nil_sublist _) rfl)
theorem slices_order2Ordered_uint64_walk {w0 : World} {m mc : Mu} {LR : List Ent} {z0 : List Int} {a_z0 : Option Addr} {n_z0 c_z0 : Nat} {L_z0 : List Ent} {p1 : Int} {p2 : Int} {b_3 : Nat} {q3 : Int} {r : Int × Int × List Int × Int} (hle0 : Le m mc) (h_z0 : OwnE 95 1 (I1 .u64) (.slice a_z0 n_z0 c_z0) z0 L_z0) (hm : slices_order2Ordered_uint64 z0 p1 p2 q3 = some r) :
    SpecS Try.prog 105 [.slice a_z0 n_z0 c_z0, .int .i64 p1, .int .i64 p2, .pointer (some ⟨b_3, 0, none⟩)] (St w0 m mc [L_z0, [⟨b_3, 3, [.int .i64 q3]⟩], LR]) (fun v w => ∃ g : List Ent, v = .tuple #[.int .i64 r.1, .int .i64 r.2.1] ∧ (OwnE 95 1 (I1 .u64) (.slice a_z0 n_z0 c_z0) r.2.2.1 g) ∧ St w0 m mc [g, [⟨b_3, 3, [.int .i64 r.2.2.2]⟩], LR] w) := by
  refine SpecS_enter Try.func105 rfl rfl rfl ?_
  refine WK.sub (e' := [(0, .slice a_z0 n_z0 c_z0), (1, .int .i64 p1), (2, .int .i64 p2), (3, .pointer (some ⟨b_3, 0, none⟩))]) ⟨rfl, rfl, rfl, rfl, trivial⟩ ?_
  obtain rfl := OwnE.qlen h_z0
  refine WK.sub (e' := [(0, .slice a_z0 z0.length c_z0), (1, .int .i64 p1), (2, .int .i64 p2), (3, .pointer (some ⟨b_3, 0, none⟩))]) ⟨rfl, rfl, rfl, rfl, trivial⟩ (WK.cls (C' := St w0 m mc [L_z0, [⟨b_3, 3, [.int .i64 q3]⟩], LR]) (fun _ h => h) ?_)
  unfold slices_order2Ordered_uint64 at hm
  refine WK_seq ?_
  refine WK_region ?_
  refine WO_pure tbok 2 [(0, .slice a_z0 z0.length c_z0), (1, .int .i64 p1), (2, .int .i64 p2), (3, .pointer (some ⟨b_3, 0, none⟩)), (8, .int .i64 0), (9, .int .i64 0)] rfl ⟨rfl, rfl, rfl, rfl, rfl, rfl, trivial⟩ ?_
  refine WO_end ?_
  refine WK_seq ?_
  refine WK_seq ?_
  refine WK_draw 9 [0, 1, 2, 3, 4, 5, 6, 7, 8] follows_ok (by kernel_rfl) St_closed ?_
  refine WO_pure tbok 2 [(0, .slice a_z0 z0.length c_z0), (1, .int .i64 p1), (2, .int .i64 p2), (3, .pointer (some ⟨b_3, 0, none⟩)), (8, .int .i64 0), (9, .int .i64 0), (10, .slice a_z0 z0.length c_z0), (11, .int .i64 p2)] rfl ⟨rfl, rfl, rfl, rfl, rfl, rfl, rfl, rfl, trivial⟩ ?_
  obtain ⟨v_1, hy1, hm⟩ := bind_some hm
  obtain ⟨hc2, hy1⟩ := ix_some hy1
  refine WO_index tbok rfl rfl rfl rfl rfl rfl rfl rfl (OwnE.addr h_z0) (by simpa using hc2) ?_
  refine WO_loadO (E := (I1 .u64)) tbok (fun _ => rfl) 0 rfl rfl rfl rfl (fun _ h => h) h_z0 rfl hy1 rfl ?_
  refine WO_pure tbok 2 [(1, .int .i64 p1), (2, .int .i64 p2), (3, .pointer (some ⟨b_3, 0, none⟩)), (8, .int .i64 0), (9, .int .i64 0), (13, .int .u64 v_1), (14, .slice a_z0 z0.length c_z0), (15, .int .i64 p1)] rfl ⟨rfl, rfl, rfl, rfl, rfl, rfl, rfl, rfl, trivial⟩ ?_
  obtain ⟨v_2, hy3, hm⟩ := bind_some hm
  obtain ⟨hc4, hy3⟩ := ix_some hy3
  refine WO_index tbok rfl rfl rfl rfl rfl rfl rfl rfl (OwnE.addr h_z0) (by simpa using hc4) ?_
  refine WO_loadO (E := (I1 .u64)) tbok (fun _ => rfl) 0 rfl rfl rfl rfl (fun _ h => h) h_z0 rfl hy3 rfl ?_
  obtain ⟨y_3, hc5, hm⟩ := bind_some hm
  refine WO_call0 (.bool y_3) rfl rfl St_closed rfl rfl rfl rfl St_closed ⟨93, #[], #[], rfl, callable_93, fun w hw => ⟨_, hw.sat, cmp_Less_uint64_walk hc5⟩⟩ ?_
  refine WO_tail ?_
  refine WO_end ?_
  refine WK_cond (b := y_3) rfl (fun hb6 => ?_) (fun hb6 => ?_)
  · have hm := ifT hb6 hm
    refine WK_seq ?_
    refine WK_region ?_
    refine WO_pure tbok 2 [(1, .int .i64 p1), (2, .int .i64 p2), (8, .int .i64 0), (9, .int .i64 0), (19, .pointer (some ⟨b_3, 0, none⟩)), (20, .pointer (some ⟨b_3, 0, none⟩))] rfl ⟨rfl, rfl, rfl, rfl, rfl, rfl, trivial⟩ ?_
    refine WO_loadB tbok 1 rfl rfl rfl rfl (fun _ h => h) rfl rfl ?_
    refine WO_pure tbok 2 [(1, .int .i64 p1), (2, .int .i64 p2), (8, .int .i64 0), (9, .int .i64 0), (22, .int .i64 (w64 (q3 + 1))), (23, .pointer (some ⟨b_3, 0, none⟩))] rfl ⟨rfl, rfl, rfl, rfl, rfl, rfl, trivial⟩ ?_
    refine WO_storeB tbok 1 [.int .i64 (w64 (q3 + 1))] rfl rfl rfl rfl rfl rfl rfl ?_
    refine WO.cls (C' := St w0 m mc [L_z0, [⟨b_3, 3, [.int .i64 (w64 (q3 + 1))]⟩], LR]) (fun _ h => h) ?_
    refine WO_end ?_
    refine WK_seq ?_
    refine WK_region ?_
    refine WO_pure tbok 4 [(1, .int .i64 p1), (2, .int .i64 p2), (8, .int .i64 p2), (9, .int .i64 p1)] rfl ⟨rfl, rfl, rfl, rfl, trivial⟩ ?_
    refine WO_end ?_
    cases hm
    exact WK_retS (RLc_tmp rfl (RLc_tmp rfl RLc_nil)) (fun _ h => ⟨L_z0, rfl, h_z0, h⟩)
  · have hm := ifF hb6 hm
    refine WK_skip ?_
    refine WK_seq ?_
    refine WK_region ?_
    refine WO_pure tbok 4 [(8, .int .i64 p1), (9, .int .i64 p2)] rfl ⟨rfl, rfl, trivial⟩ ?_
    refine WO_end ?_
    cases hm
    exact WK_retS (RLc_tmp rfl (RLc_tmp rfl RLc_nil)) (fun _ h => ⟨L_z0, rfl, h_z0, h⟩)
theorem slices_medianOrdered_uint64_walk {w0 : World} {m mc : Mu} {LR : List Ent} {z0 : List Int} {a_z0 : Option Addr} {n_z0 c_z0 : Nat} {L_z0 : List Ent} {p1 : Int} {p2 : Int} {p3 : Int} {b_4 : Nat} {q4 : Int} {r : Int × List Int × Int} (hle0 : Le m mc) (h_z0 : OwnE 95 1 (I1 .u64) (.slice a_z0 n_z0 c_z0) z0 L_z0) (hm : slices_medianOrdered_uint64 z0 p1 p2 p3 q4 = some r) :
    SpecS Try.prog 103 [.slice a_z0 n_z0 c_z0, .int .i64 p1, .int .i64 p2, .int .i64 p3, .pointer (some ⟨b_4, 0, none⟩)] (St w0 m mc [L_z0, [⟨b_4, 3, [.int .i64 q4]⟩], LR]) (fun v w => ∃ g : List Ent, v = .int .i64 r.1 ∧ (OwnE 95 1 (I1 .u64) (.slice a_z0 n_z0 c_z0) r.2.1 g) ∧ St w0 m mc [g, [⟨b_4, 3, [.int .i64 r.2.2]⟩], LR] w) := by
  refine SpecS_enter Try.func103 rfl rfl rfl ?_
  refine WK.sub (e' := [(0, .slice a_z0 n_z0 c_z0), (1, .int .i64 p1), (2, .int .i64 p2), (3, .int .i64 p3), (4, .pointer (some ⟨b_4, 0, none⟩))]) ⟨rfl, rfl, rfl, rfl, rfl, trivial⟩ ?_
  obtain rfl := OwnE.qlen h_z0
  refine WK.sub (e' := [(0, .slice a_z0 z0.length c_z0), (1, .int .i64 p1), (2, .int .i64 p2), (3, .int .i64 p3), (4, .pointer (some ⟨b_4, 0, none⟩))]) ⟨rfl, rfl, rfl, rfl, rfl, trivial⟩ (WK.cls (C' := St w0 m mc [L_z0, [⟨b_4, 3, [.int .i64 q4]⟩], LR]) (fun _ h => h) ?_)
  unfold slices_medianOrdered_uint64 at hm
  refine WK_seq ?_
  refine WK_region ?_
  refine WO_pure tbok 1 [(0, .slice a_z0 z0.length c_z0), (1, .int .i64 p1), (2, .int .i64 p2), (3, .int .i64 p3), (4, .pointer (some ⟨b_4, 0, none⟩)), (10, .int .i64 0)] rfl ⟨rfl, rfl, rfl, rfl, rfl, rfl, trivial⟩ ?_
  refine WO_end ?_
  refine WK_seq ?_
  refine WK_region ?_
  refine WO_pure tbok 4 [(0, .slice a_z0 z0.length c_z0), (1, .int .i64 p1), (2, .int .i64 p2), (3, .int .i64 p3), (4, .pointer (some ⟨b_4, 0, none⟩)), (10, .int .i64 0), (12, .slice a_z0 z0.length c_z0), (13, .int .i64 p1), (14, .int .i64 p2), (15, .pointer (some ⟨b_4, 0, none⟩))] rfl ⟨rfl, rfl, rfl, rfl, rfl, rfl, rfl, rfl, rfl, rfl, trivial⟩ ?_
  obtain ⟨⟨y_1, y_2, y_3, y_4⟩, hc1, hm⟩ := bind_some hm
  refine WO_callS (G := List Ent) (fun g => .tuple #[.int .i64 y_1, .int .i64 y_2]) (fun g => OwnE 95 1 (I1 .u64) (.slice a_z0 z0.length c_z0) y_3 g) (fun g => St w0 m mc [g, [⟨b_4, 3, [.int .i64 y_4]⟩], LR]) rfl rfl rfl rfl rfl rfl callable_105 (slices_order2Ordered_uint64_walk hle0 h_z0 hc1) ?_
  rintro L2 hL2
  refine WO.cls (C' := St w0 m mc [L2, [⟨b_4, 3, [.int .i64 y_4]⟩], LR]) (fun _ h => h) ?_
  refine WO_pure tbok 5 [(0, .slice a_z0 z0.length c_z0), (1, .int .i64 y_1), (2, .int .i64 y_2), (3, .int .i64 p3), (4, .pointer (some ⟨b_4, 0, none⟩)), (10, .int .i64 0)] rfl ⟨rfl, rfl, rfl, rfl, rfl, rfl, trivial⟩ ?_
  refine WO_end ?_
  refine WK_seq ?_
  refine WK_region ?_
  refine WO_pure tbok 4 [(0, .slice a_z0 z0.length c_z0), (1, .int .i64 y_1), (2, .int .i64 y_2), (4, .pointer (some ⟨b_4, 0, none⟩)), (10, .int .i64 0), (20, .slice a_z0 z0.length c_z0), (21, .int .i64 y_2), (22, .int .i64 p3), (23, .pointer (some ⟨b_4, 0, none⟩))] rfl ⟨rfl, rfl, rfl, rfl, rfl, rfl, rfl, rfl, rfl, trivial⟩ ?_
  obtain ⟨⟨y_5, y_6, y_7, y_8⟩, hc3, hm⟩ := bind_some hm
  refine WO_callS (G := List Ent) (fun g => .tuple #[.int .i64 y_5, .int .i64 y_6]) (fun g => OwnE 95 1 (I1 .u64) (.slice a_z0 z0.length c_z0) y_7 g) (fun g => St w0 m mc [g, [⟨b_4, 3, [.int .i64 y_8]⟩], LR]) rfl rfl rfl rfl rfl rfl callable_105 (slices_order2Ordered_uint64_walk hle0 hL2 hc3) ?_
  rintro L4 hL4
  refine WO.cls (C' := St w0 m mc [L4, [⟨b_4, 3, [.int .i64 y_8]⟩], LR]) (fun _ h => h) ?_
  refine WO_pure tbok 5 [(0, .slice a_z0 z0.length c_z0), (1, .int .i64 y_1), (2, .int .i64 y_5), (4, .pointer (some ⟨b_4, 0, none⟩)), (10, .int .i64 0)] rfl ⟨rfl, rfl, rfl, rfl, rfl, trivial⟩ ?_
  refine WO_end ?_
  refine WK_seq ?_
  refine WK_region ?_
  refine WO_pure tbok 4 [(2, .int .i64 y_5), (10, .int .i64 0), (28, .slice a_z0 z0.length c_z0), (29, .int .i64 y_1), (30, .int .i64 y_5), (31, .pointer (some ⟨b_4, 0, none⟩))] rfl ⟨rfl, rfl, rfl, rfl, rfl, rfl, trivial⟩ ?_
  obtain ⟨⟨y_9, y_10, y_11, y_12⟩, hc5, hm⟩ := bind_some hm
  refine WO_callS (G := List Ent) (fun g => .tuple #[.int .i64 y_9, .int .i64 y_10]) (fun g => OwnE 95 1 (I1 .u64) (.slice a_z0 z0.length c_z0) y_11 g) (fun g => St w0 m mc [g, [⟨b_4, 3, [.int .i64 y_12]⟩], LR]) rfl rfl rfl rfl rfl rfl callable_105 (slices_order2Ordered_uint64_walk hle0 hL4 hc5) ?_
  rintro L6 hL6
  refine WO.cls (C' := St w0 m mc [L6, [⟨b_4, 3, [.int .i64 y_12]⟩], LR]) (fun _ h => h) ?_
  refine WO_pure tbok 5 [(2, .int .i64 y_10), (10, .int .i64 0)] rfl ⟨rfl, rfl, trivial⟩ ?_
  refine WO_end ?_
  refine WK_seq ?_
  refine WK_region ?_
  refine WO_pure tbok 2 [(10, .int .i64 y_10)] rfl ⟨rfl, trivial⟩ ?_
  refine WO_end ?_
  cases hm
  exact WK_retS (RLc_tmp rfl RLc_nil) (fun _ h => ⟨L6, rfl, hL6, h⟩)
theorem slices_medianAdjacentOrdered_uint64_walk {w0 : World} {m mc : Mu} {LR : List Ent} {z0 : List Int} {a_z0 : Option Addr} {n_z0 c_z0 : Nat} {L_z0 : List Ent} {p1 : Int} {b_2 : Nat} {q2 : Int} {r : Int × List Int × Int} (hle0 : Le m mc) (h_z0 : OwnE 95 1 (I1 .u64) (.slice a_z0 n_z0 c_z0) z0 L_z0) (hm : slices_medianAdjacentOrdered_uint64 z0 p1 q2 = some r) :
    SpecS Try.prog 102 [.slice a_z0 n_z0 c_z0, .int .i64 p1, .pointer (some ⟨b_2, 0, none⟩)] (St w0 m mc [L_z0, [⟨b_2, 3, [.int .i64 q2]⟩], LR]) (fun v w => ∃ g : List Ent, v = .int .i64 r.1 ∧ (OwnE 95 1 (I1 .u64) (.slice a_z0 n_z0 c_z0) r.2.1 g) ∧ St w0 m mc [g, [⟨b_2, 3, [.int .i64 r.2.2]⟩], LR] w) := by
  refine SpecS_enter Try.func102 rfl rfl rfl ?_
  refine WK.sub (e' := [(0, .slice a_z0 n_z0 c_z0), (1, .int .i64 p1), (2, .pointer (some ⟨b_2, 0, none⟩))]) ⟨rfl, rfl, rfl, trivial⟩ ?_
  obtain rfl := OwnE.qlen h_z0
  refine WK.sub (e' := [(0, .slice a_z0 z0.length c_z0), (1, .int .i64 p1), (2, .pointer (some ⟨b_2, 0, none⟩))]) ⟨rfl, rfl, rfl, trivial⟩ (WK.cls (C' := St w0 m mc [L_z0, [⟨b_2, 3, [.int .i64 q2]⟩], LR]) (fun _ h => h) ?_)
  unfold slices_medianAdjacentOrdered_uint64 at hm
  refine WK_seq ?_
  refine WK_region ?_
  refine WO_pure tbok 1 [(0, .slice a_z0 z0.length c_z0), (1, .int .i64 p1), (2, .pointer (some ⟨b_2, 0, none⟩)), (6, .int .i64 0)] rfl ⟨rfl, rfl, rfl, rfl, trivial⟩ ?_
  refine WO_end ?_
  refine WK_seq ?_
  refine WK_region ?_
  refine WO_pure tbok 7 [(6, .int .i64 0), (7, .slice a_z0 z0.length c_z0), (9, .int .i64 (w64 (p1 - 1))), (10, .int .i64 p1), (12, .int .i64 (w64 (p1 + 1))), (13, .pointer (some ⟨b_2, 0, none⟩))] rfl ⟨rfl, rfl, rfl, rfl, rfl, rfl, trivial⟩ ?_
  obtain ⟨⟨y_1, y_2, y_3⟩, hc1, hm⟩ := bind_some hm
  refine WO_callS (G := List Ent) (fun g => .int .i64 y_1) (fun g => OwnE 95 1 (I1 .u64) (.slice a_z0 z0.length c_z0) y_2 g) (fun g => St w0 m mc [g, [⟨b_2, 3, [.int .i64 y_3]⟩], LR]) rfl rfl rfl rfl rfl rfl callable_103 (slices_medianOrdered_uint64_walk hle0 h_z0 hc1) ?_
  rintro L2 hL2
  refine WO.cls (C' := St w0 m mc [L2, [⟨b_2, 3, [.int .i64 y_3]⟩], LR]) (fun _ h => h) ?_
  refine WO_pure tbok 1 [(6, .int .i64 y_1)] rfl ⟨rfl, trivial⟩ ?_
  refine WO_end ?_
  cases hm
  exact WK_retS (RLc_tmp rfl RLc_nil) (fun _ h => ⟨L2, rfl, hL2, h⟩)
theorem slices_choosePivotOrdered_uint64_walk {w0 : World} {m mc : Mu} {LR : List Ent} {z0 : List Int} {a_z0 : Option Addr} {n_z0 c_z0 : Nat} {L_z0 : List Ent} {p1 : Int} {p2 : Int} {r : Int × Int × List Int} (hle0 : Le m mc) (h_z0 : OwnE 95 1 (I1 .u64) (.slice a_z0 n_z0 c_z0) z0 L_z0) (hm : slices_choosePivotOrdered_uint64 z0 p1 p2 = some r) :
    SpecS Try.prog 90 [.slice a_z0 n_z0 c_z0, .int .i64 p1, .int .i64 p2] (St w0 m mc [L_z0, LR]) (fun v w => ∃ g : List Ent, v = .tuple #[.int .i64 r.1, .int .i64 r.2.1] ∧ (OwnE 95 1 (I1 .u64) (.slice a_z0 n_z0 c_z0) r.2.2 g) ∧ St w0 m mc [g, LR] w) := by
  refine SpecS_enter Try.func90 rfl rfl rfl ?_
  refine WK.sub (e' := [(0, .slice a_z0 n_z0 c_z0), (1, .int .i64 p1), (2, .int .i64 p2)]) ⟨rfl, rfl, rfl, trivial⟩ ?_
  obtain rfl := OwnE.qlen h_z0
  refine WK.sub (e' := [(0, .slice a_z0 z0.length c_z0), (1, .int .i64 p1), (2, .int .i64 p2)]) ⟨rfl, rfl, rfl, trivial⟩ (WK.cls (C' := St w0 m mc [L_z0, LR]) (fun _ h => h) ?_)
  unfold slices_choosePivotOrdered_uint64 at hm
  refine WK_seq ?_
  refine WK_region ?_
  refine WO_pure tbok 2 [(0, .slice a_z0 z0.length c_z0), (1, .int .i64 p1), (2, .int .i64 p2), (6, .int .i64 0), (7, .int .i64 0)] rfl ⟨rfl, rfl, rfl, rfl, rfl, trivial⟩ ?_
  refine WO_end ?_
  refine WK_seq ?_
  refine WK_region ?_
  refine WO_pure tbok 4 [(0, .slice a_z0 z0.length c_z0), (1, .int .i64 p1), (6, .int .i64 0), (7, .int .i64 0), (8, .int .i64 (w64 (p2 - p1)))] rfl ⟨rfl, rfl, rfl, rfl, rfl, trivial⟩ ?_
  refine WO_end ?_
  refine WK_seq ?_
  refine WK_region ?_
  refine WO_alloc tbok [.int .i64 0] rfl rfl trivial rfl rfl rfl rfl (fun b1 => ?_)
  refine WO.cls (C' := St w0 m mc [L_z0, LR, [⟨b1, 3, [.int .i64 0]⟩]]) (fun _ h => h) ?_
  refine WO_end ?_
  refine WK_seq ?_
  refine WK_region ?_
  refine WO_pure tbok 6 [(0, .slice a_z0 z0.length c_z0), (1, .int .i64 p1), (6, .int .i64 0), (7, .int .i64 0), (8, .int .i64 (w64 (p2 - p1))), (9, .pointer (some ⟨b1, 0, none⟩)), (10, .int .i64 (w64 (p1 + (w64 ((w64 (Int.tdiv (w64 (p2 - p1)) 4)) * 1)))))] rfl ⟨rfl, rfl, rfl, rfl, rfl, rfl, rfl, trivial⟩ ?_
  refine WO_end ?_
  refine WK_seq ?_
  refine WK_region ?_
  refine WO_pure tbok 6 [(0, .slice a_z0 z0.length c_z0), (1, .int .i64 p1), (6, .int .i64 0), (7, .int .i64 0), (8, .int .i64 (w64 (p2 - p1))), (9, .pointer (some ⟨b1, 0, none⟩)), (10, .int .i64 (w64 (p1 + (w64 ((w64 (Int.tdiv (w64 (p2 - p1)) 4)) * 1))))), (11, .int .i64 (w64 (p1 + (w64 ((w64 (Int.tdiv (w64 (p2 - p1)) 4)) * 2)))))] rfl ⟨rfl, rfl, rfl, rfl, rfl, rfl, rfl, rfl, trivial⟩ ?_
  refine WO_end ?_
  refine WK_seq ?_
  refine WK_region ?_
  refine WO_pure tbok 6 [(0, .slice a_z0 z0.length c_z0), (6, .int .i64 0), (7, .int .i64 0), (8, .int .i64 (w64 (p2 - p1))), (9, .pointer (some ⟨b1, 0, none⟩)), (10, .int .i64 (w64 (p1 + (w64 ((w64 (Int.tdiv (w64 (p2 - p1)) 4)) * 1))))), (11, .int .i64 (w64 (p1 + (w64 ((w64 (Int.tdiv (w64 (p2 - p1)) 4)) * 2))))), (12, .int .i64 (w64 (p1 + (w64 ((w64 (Int.tdiv (w64 (p2 - p1)) 4)) * 3)))))] rfl ⟨rfl, rfl, rfl, rfl, rfl, rfl, rfl, rfl, trivial⟩ ?_
  refine WO_end ?_
  refine WK_seq ?_
  refine WK_seq ?_
  refine WK_region ?_
  refine WO_pure tbok 2 [(0, .slice a_z0 z0.length c_z0), (6, .int .i64 0), (7, .int .i64 0), (8, .int .i64 (w64 (p2 - p1))), (9, .pointer (some ⟨b1, 0, none⟩)), (10, .int .i64 (w64 (p1 + (w64 ((w64 (Int.tdiv (w64 (p2 - p1)) 4)) * 1))))), (11, .int .i64 (w64 (p1 + (w64 ((w64 (Int.tdiv (w64 (p2 - p1)) 4)) * 2))))), (12, .int .i64 (w64 (p1 + (w64 ((w64 (Int.tdiv (w64 (p2 - p1)) 4)) * 3))))), (32, .bool (decide (8 ≤ (w64 (p2 - p1)))))] rfl ⟨rfl, rfl, rfl, rfl, rfl, rfl, rfl, rfl, rfl, trivial⟩ ?_
  refine WO_end ?_
  obtain ⟨⟨l_1, s_2, s_3⟩, hx3, hm⟩ := bind_some hm
  refine WK_join (β := List Ent) (fun p => OwnE 95 1 (I1 .u64) (.slice a_z0 z0.length c_z0) l_1 p) (fun p => [(6, .int .i64 0), (7, .int .i64 0), (9, .pointer (some ⟨b1, 0, none⟩)), (11, .int .i64 s_2)]) (fun p => St w0 m mc [p, LR, [⟨b1, 3, [.int .i64 s_3]⟩]]) ?_ (fun hk4 => ?_)
  · rintro L2 hL2
    refine WK.sub (e' := [(6, .int .i64 0), (7, .int .i64 0), (9, .pointer (some ⟨b1, 0, none⟩)), (11, .int .i64 s_2)]) ⟨rfl, rfl, rfl, rfl, trivial⟩ (WK.cls (C' := St w0 m mc [L2, LR, [⟨b1, 3, [.int .i64 s_3]⟩]]) (fun _ h => h) ?_)
    refine WK_seq ?_
    refine WK_region ?_
    refine WO_loadB tbok 2 rfl rfl rfl rfl (fun _ h => h) rfl rfl ?_
    refine WO_end ?_
    refine WK_block ?_
    refine WK_seq ?_
    refine WK_region ?_
    refine WO_pure tbok 2 [(6, .int .i64 0), (7, .int .i64 0), (11, .int .i64 s_2), (49, .int .i64 s_3), (51, .bool (s_3 == 0))] rfl ⟨rfl, rfl, rfl, rfl, rfl, trivial⟩ ?_
    refine WO_end ?_
    refine WK_cond (b := s_3 == 0) rfl (fun hb5 => ?_) (fun hb5 => ?_)
    · have hm := ifT hb5 hm
      refine WK_seq ?_
      refine WK_region ?_
      refine WO_pure tbok 3 [(6, .int .i64 s_2), (7, .int .i64 1)] rfl ⟨rfl, rfl, trivial⟩ ?_
      refine WO_end ?_
      cases hm
      exact WK_retS (RLc_tmp rfl (RLc_tmp rfl RLc_nil)) (fun _ h => ⟨L2, rfl, hL2, St.take 2 h⟩)
    · have hm := ifF hb5 hm
      refine WK_seq ?_
      refine WK_region ?_
      refine WO_pure tbok 2 [(6, .int .i64 0), (7, .int .i64 0), (11, .int .i64 s_2), (54, .bool (s_3 == 12))] rfl ⟨rfl, rfl, rfl, rfl, trivial⟩ ?_
      refine WO_end ?_
      refine WK_cond (b := s_3 == 12) rfl (fun hb6 => ?_) (fun hb6 => ?_)
      · have hm := ifT hb6 hm
        refine WK_seq ?_
        refine WK_region ?_
        refine WO_pure tbok 3 [(6, .int .i64 s_2), (7, .int .i64 2)] rfl ⟨rfl, rfl, trivial⟩ ?_
        refine WO_end ?_
        cases hm
        exact WK_retS (RLc_tmp rfl (RLc_tmp rfl RLc_nil)) (fun _ h => ⟨L2, rfl, hL2, St.take 2 h⟩)
      · have hm := ifF hb6 hm
        refine WK_seq ?_
        refine WK_region ?_
        refine WO_pure tbok 3 [(6, .int .i64 s_2), (7, .int .i64 0)] rfl ⟨rfl, rfl, trivial⟩ ?_
        refine WO_end ?_
        cases hm
        exact WK_retS (RLc_tmp rfl (RLc_tmp rfl RLc_nil)) (fun _ h => ⟨L2, rfl, hL2, St.take 2 h⟩)
  · refine WK_cond (b := decide (8 ≤ (w64 (p2 - p1)))) rfl (fun hb7 => ?_) (fun hb7 => ?_)
    · have hx3 := ifT hb7 hx3
      refine WK_seq ?_
      refine WK_seq ?_
      refine WK_region ?_
      refine WO_pure tbok 2 [(0, .slice a_z0 z0.length c_z0), (6, .int .i64 0), (7, .int .i64 0), (9, .pointer (some ⟨b1, 0, none⟩)), (10, .int .i64 (w64 (p1 + (w64 ((w64 (Int.tdiv (w64 (p2 - p1)) 4)) * 1))))), (11, .int .i64 (w64 (p1 + (w64 ((w64 (Int.tdiv (w64 (p2 - p1)) 4)) * 2))))), (12, .int .i64 (w64 (p1 + (w64 ((w64 (Int.tdiv (w64 (p2 - p1)) 4)) * 3))))), (34, .bool (decide (50 ≤ (w64 (p2 - p1)))))] rfl ⟨rfl, rfl, rfl, rfl, rfl, rfl, rfl, rfl, trivial⟩ ?_
      refine WO_end ?_
      obtain ⟨⟨l_4, s_5, s_6, s_7, s_8⟩, hx9, hx3⟩ := bind_some hx3
      refine WK_join (β := List Ent) (fun p => OwnE 95 1 (I1 .u64) (.slice a_z0 z0.length c_z0) l_4 p) (fun p => [(0, .slice a_z0 z0.length c_z0), (6, .int .i64 0), (7, .int .i64 0), (9, .pointer (some ⟨b1, 0, none⟩)), (10, .int .i64 s_5), (11, .int .i64 s_6), (12, .int .i64 s_7)]) (fun p => St w0 m mc [p, LR, [⟨b1, 3, [.int .i64 s_8]⟩]]) ?_ (fun hk10 => ?_)
      · rintro L8 hL8
        refine WK.sub (e' := [(0, .slice a_z0 z0.length c_z0), (6, .int .i64 0), (7, .int .i64 0), (9, .pointer (some ⟨b1, 0, none⟩)), (10, .int .i64 s_5), (11, .int .i64 s_6), (12, .int .i64 s_7)]) ⟨rfl, rfl, rfl, rfl, rfl, rfl, rfl, trivial⟩ (WK.cls (C' := St w0 m mc [L8, LR, [⟨b1, 3, [.int .i64 s_8]⟩]]) (fun _ h => h) ?_)
        refine WK_region ?_
        refine WO_pure tbok 4 [(6, .int .i64 0), (7, .int .i64 0), (9, .pointer (some ⟨b1, 0, none⟩)), (11, .int .i64 s_6), (44, .slice a_z0 z0.length c_z0), (45, .int .i64 s_5), (46, .int .i64 s_6), (47, .int .i64 s_7)] rfl ⟨rfl, rfl, rfl, rfl, rfl, rfl, rfl, rfl, trivial⟩ ?_
        refine WO.cls (C' := St w0 m mc [L8, [⟨b1, 3, [.int .i64 s_8]⟩], LR]) (fun _ h => h.perm (List.Perm.flatten (List.Perm.cons _ (List.Perm.swap _ _ _)))) ?_
        obtain ⟨⟨y_9, y_10, y_11⟩, hc11, hx3⟩ := bind_some hx3
        refine WO_callS (G := List Ent) (fun g => .int .i64 y_9) (fun g => OwnE 95 1 (I1 .u64) (.slice a_z0 z0.length c_z0) y_10 g) (fun g => St w0 m mc [g, [⟨b1, 3, [.int .i64 y_11]⟩], LR]) rfl rfl rfl rfl rfl rfl callable_103 (slices_medianOrdered_uint64_walk hle0 hL8 hc11) ?_
        rintro L12 hL12
        refine WO.cls (C' := St w0 m mc [L12, LR, [⟨b1, 3, [.int .i64 y_11]⟩]]) (fun _ h => h.perm (List.Perm.flatten ((List.Perm.cons _ (List.Perm.swap _ _ _))).symm)) ?_
        refine WO.cls (C' := St w0 m mc [L12, LR, [⟨b1, 3, [.int .i64 y_11]⟩]]) (fun _ h => h) ?_
        refine WO_pure tbok 1 [(6, .int .i64 0), (7, .int .i64 0), (9, .pointer (some ⟨b1, 0, none⟩)), (11, .int .i64 y_9)] rfl ⟨rfl, rfl, rfl, rfl, trivial⟩ ?_
        refine WO_end ?_
        cases hx3
        refine WK.sub ?_ (WK.cls (fun _ h => h) (hk4 L12 hL12))
        exact ⟨rfl, rfl, rfl, rfl, trivial⟩
      · refine WK_cond (b := decide (50 ≤ (w64 (p2 - p1)))) rfl (fun hb13 => ?_) (fun hb13 => ?_)
        · have hx9 := ifT hb13 hx9
          refine WK_seq ?_
          refine WK_region ?_
          refine WO_pure tbok 2 [(0, .slice a_z0 z0.length c_z0), (6, .int .i64 0), (7, .int .i64 0), (9, .pointer (some ⟨b1, 0, none⟩)), (10, .int .i64 (w64 (p1 + (w64 ((w64 (Int.tdiv (w64 (p2 - p1)) 4)) * 1))))), (11, .int .i64 (w64 (p1 + (w64 ((w64 (Int.tdiv (w64 (p2 - p1)) 4)) * 2))))), (12, .int .i64 (w64 (p1 + (w64 ((w64 (Int.tdiv (w64 (p2 - p1)) 4)) * 3))))), (35, .slice a_z0 z0.length c_z0), (36, .int .i64 (w64 (p1 + (w64 ((w64 (Int.tdiv (w64 (p2 - p1)) 4)) * 1)))))] rfl ⟨rfl, rfl, rfl, rfl, rfl, rfl, rfl, rfl, rfl, trivial⟩ ?_
          refine WO.cls (C' := St w0 m mc [L_z0, [⟨b1, 3, [.int .i64 0]⟩], LR]) (fun _ h => h.perm (List.Perm.flatten (List.Perm.cons _ (List.Perm.swap _ _ _)))) ?_
          obtain ⟨⟨y_12, y_13, y_14⟩, hc14, hx9⟩ := bind_some hx9
          refine WO_callS (G := List Ent) (fun g => .int .i64 y_12) (fun g => OwnE 95 1 (I1 .u64) (.slice a_z0 z0.length c_z0) y_13 g) (fun g => St w0 m mc [g, [⟨b1, 3, [.int .i64 y_14]⟩], LR]) rfl rfl rfl rfl rfl rfl callable_102 (slices_medianAdjacentOrdered_uint64_walk hle0 h_z0 hc14) ?_
          rintro L15 hL15
          refine WO.cls (C' := St w0 m mc [L15, LR, [⟨b1, 3, [.int .i64 y_14]⟩]]) (fun _ h => h.perm (List.Perm.flatten ((List.Perm.cons _ (List.Perm.swap _ _ _))).symm)) ?_
          refine WO.cls (C' := St w0 m mc [L15, LR, [⟨b1, 3, [.int .i64 y_14]⟩]]) (fun _ h => h) ?_
          refine WO_pure tbok 1 [(0, .slice a_z0 z0.length c_z0), (6, .int .i64 0), (7, .int .i64 0), (9, .pointer (some ⟨b1, 0, none⟩)), (10, .int .i64 y_12), (11, .int .i64 (w64 (p1 + (w64 ((w64 (Int.tdiv (w64 (p2 - p1)) 4)) * 2))))), (12, .int .i64 (w64 (p1 + (w64 ((w64 (Int.tdiv (w64 (p2 - p1)) 4)) * 3)))))] rfl ⟨rfl, rfl, rfl, rfl, rfl, rfl, rfl, trivial⟩ ?_
          refine WO_end ?_
          refine WK_seq ?_
          refine WK_region ?_
          refine WO_pure tbok 2 [(0, .slice a_z0 z0.length c_z0), (6, .int .i64 0), (7, .int .i64 0), (9, .pointer (some ⟨b1, 0, none⟩)), (10, .int .i64 y_12), (11, .int .i64 (w64 (p1 + (w64 ((w64 (Int.tdiv (w64 (p2 - p1)) 4)) * 2))))), (12, .int .i64 (w64 (p1 + (w64 ((w64 (Int.tdiv (w64 (p2 - p1)) 4)) * 3))))), (38, .slice a_z0 z0.length c_z0), (39, .int .i64 (w64 (p1 + (w64 ((w64 (Int.tdiv (w64 (p2 - p1)) 4)) * 2)))))] rfl ⟨rfl, rfl, rfl, rfl, rfl, rfl, rfl, rfl, rfl, trivial⟩ ?_
          refine WO.cls (C' := St w0 m mc [L15, [⟨b1, 3, [.int .i64 y_14]⟩], LR]) (fun _ h => h.perm (List.Perm.flatten (List.Perm.cons _ (List.Perm.swap _ _ _)))) ?_
          obtain ⟨⟨y_15, y_16, y_17⟩, hc16, hx9⟩ := bind_some hx9
          refine WO_callS (G := List Ent) (fun g => .int .i64 y_15) (fun g => OwnE 95 1 (I1 .u64) (.slice a_z0 z0.length c_z0) y_16 g) (fun g => St w0 m mc [g, [⟨b1, 3, [.int .i64 y_17]⟩], LR]) rfl rfl rfl rfl rfl rfl callable_102 (slices_medianAdjacentOrdered_uint64_walk hle0 hL15 hc16) ?_
          rintro L17 hL17
          refine WO.cls (C' := St w0 m mc [L17, LR, [⟨b1, 3, [.int .i64 y_17]⟩]]) (fun _ h => h.perm (List.Perm.flatten ((List.Perm.cons _ (List.Perm.swap _ _ _))).symm)) ?_
          refine WO.cls (C' := St w0 m mc [L17, LR, [⟨b1, 3, [.int .i64 y_17]⟩]]) (fun _ h => h) ?_
          refine WO_pure tbok 1 [(0, .slice a_z0 z0.length c_z0), (6, .int .i64 0), (7, .int .i64 0), (9, .pointer (some ⟨b1, 0, none⟩)), (10, .int .i64 y_12), (11, .int .i64 y_15), (12, .int .i64 (w64 (p1 + (w64 ((w64 (Int.tdiv (w64 (p2 - p1)) 4)) * 3)))))] rfl ⟨rfl, rfl, rfl, rfl, rfl, rfl, rfl, trivial⟩ ?_
          refine WO_end ?_
          refine WK_region ?_
          refine WO_pure tbok 2 [(0, .slice a_z0 z0.length c_z0), (6, .int .i64 0), (7, .int .i64 0), (9, .pointer (some ⟨b1, 0, none⟩)), (10, .int .i64 y_12), (11, .int .i64 y_15), (12, .int .i64 (w64 (p1 + (w64 ((w64 (Int.tdiv (w64 (p2 - p1)) 4)) * 3))))), (41, .slice a_z0 z0.length c_z0), (42, .int .i64 (w64 (p1 + (w64 ((w64 (Int.tdiv (w64 (p2 - p1)) 4)) * 3)))))] rfl ⟨rfl, rfl, rfl, rfl, rfl, rfl, rfl, rfl, rfl, trivial⟩ ?_
          refine WO.cls (C' := St w0 m mc [L17, [⟨b1, 3, [.int .i64 y_17]⟩], LR]) (fun _ h => h.perm (List.Perm.flatten (List.Perm.cons _ (List.Perm.swap _ _ _)))) ?_
          obtain ⟨⟨y_18, y_19, y_20⟩, hc18, hx9⟩ := bind_some hx9
          refine WO_callS (G := List Ent) (fun g => .int .i64 y_18) (fun g => OwnE 95 1 (I1 .u64) (.slice a_z0 z0.length c_z0) y_19 g) (fun g => St w0 m mc [g, [⟨b1, 3, [.int .i64 y_20]⟩], LR]) rfl rfl rfl rfl rfl rfl callable_102 (slices_medianAdjacentOrdered_uint64_walk hle0 hL17 hc18) ?_
          rintro L19 hL19
          refine WO.cls (C' := St w0 m mc [L19, LR, [⟨b1, 3, [.int .i64 y_20]⟩]]) (fun _ h => h.perm (List.Perm.flatten ((List.Perm.cons _ (List.Perm.swap _ _ _))).symm)) ?_
          refine WO.cls (C' := St w0 m mc [L19, LR, [⟨b1, 3, [.int .i64 y_20]⟩]]) (fun _ h => h) ?_
          refine WO_pure tbok 1 [(0, .slice a_z0 z0.length c_z0), (6, .int .i64 0), (7, .int .i64 0), (9, .pointer (some ⟨b1, 0, none⟩)), (10, .int .i64 y_12), (11, .int .i64 y_15), (12, .int .i64 y_18)] rfl ⟨rfl, rfl, rfl, rfl, rfl, rfl, rfl, trivial⟩ ?_
          refine WO_end ?_
          cases hx9
          refine WK.sub ?_ (WK.cls (fun _ h => h) (hk10 L19 hL19))
          exact ⟨rfl, rfl, rfl, rfl, rfl, rfl, rfl, trivial⟩
        · have hx9 := ifF hb13 hx9
          refine WK_skip ?_
          cases hx9
          refine WK.sub ?_ (WK.cls (fun _ h => h) (hk10 L_z0 h_z0))
          exact ⟨rfl, rfl, rfl, rfl, rfl, rfl, rfl, trivial⟩
    · have hx3 := ifF hb7 hx3
      refine WK_skip ?_
      cases hx3
      refine WK.sub ?_ (WK.cls (fun _ h => h) (hk4 L_z0 h_z0))
      exact ⟨rfl, rfl, rfl, rfl, trivial⟩
theorem slices_insertionSortOrdered_uint64_walk {w0 : World} {m mc : Mu} {LR : List Ent} {z0 : List Int} {a_z0 : Option Addr} {n_z0 c_z0 : Nat} {L_z0 : List Ent} {p1 : Int} {p2 : Int} {r : List Int} (hle0 : Le m mc) (h_z0 : OwnE 95 1 (I1 .u64) (.slice a_z0 n_z0 c_z0) z0 L_z0) (hm : slices_insertionSortOrdered_uint64 z0 p1 p2 = some r) :
    SpecS Try.prog 87 [.slice a_z0 n_z0 c_z0, .int .i64 p1, .int .i64 p2] (St w0 m mc [L_z0, LR]) (fun v w => ∃ g : List Ent, v = .tuple #[] ∧ (OwnE 95 1 (I1 .u64) (.slice a_z0 n_z0 c_z0) r g) ∧ St w0 m mc [g, LR] w) := by
  refine SpecS_enter Try.func87 rfl rfl rfl ?_
  refine WK.sub (e' := [(0, .slice a_z0 n_z0 c_z0), (1, .int .i64 p1), (2, .int .i64 p2)]) ⟨rfl, rfl, rfl, trivial⟩ ?_
  obtain rfl := OwnE.qlen h_z0
  refine WK.sub (e' := [(0, .slice a_z0 z0.length c_z0), (1, .int .i64 p1), (2, .int .i64 p2)]) ⟨rfl, rfl, rfl, trivial⟩ (WK.cls (C' := St w0 m mc [L_z0, LR]) (fun _ h => h) ?_)
  unfold slices_insertionSortOrdered_uint64 at hm
  refine WK_seq ?_
  refine WK_region ?_
  refine WO_pure tbok 3 [(0, .slice a_z0 z0.length c_z0), (1, .int .i64 p1), (2, .int .i64 p2), (6, .int .i64 (w64 (p1 + 1)))] rfl ⟨rfl, rfl, rfl, rfl, trivial⟩ ?_
  refine WO_end ?_
  obtain ⟨x3, hx4, hm⟩ := bind_some hm
  refine WK_join (β := (List Int) × (List Ent)) (fun p => p.1 = x3 ∧ OwnE 95 1 (I1 .u64) (.slice a_z0 z0.length c_z0) p.1 p.2) (fun p => []) (fun p => St w0 m mc [p.2, LR]) ?_ (fun hk5 => ?_)
  · rintro ⟨l_3, L2⟩ ⟨hq11, hL2⟩
    subst hq11
    refine WK.sub (e' := []) trivial (WK.cls (C' := St w0 m mc [L2, LR]) (fun _ h => h) ?_)
    cases hm
    exact WK_nilS RLc_nil (fun _ h => ⟨L2, rfl, hL2, h⟩)
  · refine WK_block ?_
    refine WK_loop (S := List Int × Int) (G := List Ent) (fun s => slices_insertionSortOrdered_uint64_s1 p1 p2 s.1 s.2) (fun s g => [(0, .slice a_z0 z0.length c_z0), (1, .int .i64 p1), (2, .int .i64 p2), (6, .int .i64 s.2)]) (fun s g => St w0 m mc [g, LR]) (fun s g => OwnE 95 1 (I1 .u64) (.slice a_z0 z0.length c_z0) s.1 g) FUEL (z0, w64 (p1 + 1)) L_z0 x3 hx4 h_z0 ⟨rfl, rfl, rfl, rfl, trivial⟩ (fun _ h => h) ?_
    rintro ⟨l_1, s_2⟩ L1 o7 fl8 hm6 hL1 hn9 hd10
    have hm6 : slices_insertionSortOrdered_uint64_s1 p1 p2 l_1 s_2 = some o7 := hm6
    unfold slices_insertionSortOrdered_uint64_s1 at hm6
    refine WK.sub (e' := [(0, .slice a_z0 z0.length c_z0), (1, .int .i64 p1), (2, .int .i64 p2), (6, .int .i64 s_2)]) ⟨rfl, rfl, rfl, rfl, trivial⟩ (WK.cls (C' := St w0 m mc [L1, LR]) (fun _ h => h) ?_)
    refine WK_seq ?_
    refine WK_seq ?_
    refine WK_region ?_
    refine WO_pure tbok 3 [(0, .slice a_z0 z0.length c_z0), (1, .int .i64 p1), (2, .int .i64 p2), (6, .int .i64 s_2), (12, .bool (decide (s_2 < p2)))] rfl ⟨rfl, rfl, rfl, rfl, rfl, trivial⟩ ?_
    refine WO_end ?_
    refine WK_cond (b := decide (s_2 < p2)) rfl (fun hb12 => ?_) (fun hb12 => ?_)
    · have hm6 := ifT hb12 hm6
      refine WK_skip ?_
      refine WK_seq ?_
      refine WK_block ?_
      refine WK_seq ?_
      refine WK_region ?_
      refine WO_pure tbok 2 [(0, .slice a_z0 z0.length c_z0), (1, .int .i64 p1), (2, .int .i64 p2), (6, .int .i64 s_2), (7, .int .i64 s_2)] rfl ⟨rfl, rfl, rfl, rfl, rfl, trivial⟩ ?_
      refine WO_end ?_
      obtain ⟨x15, hx16, hm6⟩ := bind_some hm6
      refine WK_join (β := (List Int) × (List Ent)) (fun p => p.1 = x15 ∧ OwnE 95 1 (I1 .u64) (.slice a_z0 z0.length c_z0) p.1 p.2) (fun p => [(0, .slice a_z0 z0.length c_z0), (1, .int .i64 p1), (2, .int .i64 p2), (6, .int .i64 s_2)]) (fun p => St w0 m mc [p.2, LR]) ?_ (fun hk17 => ?_)
      · rintro ⟨l_6, L14⟩ ⟨hq23, hL14⟩
        subst hq23
        refine WK.sub (e' := [(0, .slice a_z0 z0.length c_z0), (1, .int .i64 p1), (2, .int .i64 p2), (6, .int .i64 s_2)]) ⟨rfl, rfl, rfl, rfl, trivial⟩ (WK.cls (C' := St w0 m mc [L14, LR]) (fun _ h => h) ?_)
        refine WK_blk ?_
        refine WK_region ?_
        refine WO_pure tbok 3 [(0, .slice a_z0 z0.length c_z0), (1, .int .i64 p1), (2, .int .i64 p2), (6, .int .i64 (w64 (s_2 + 1)))] rfl ⟨rfl, rfl, rfl, rfl, trivial⟩ ?_
        refine WO_end ?_
        cases hm6
        refine WK.sub ?_ (WK.cls (fun _ h => h) (hn9 _ L14 rfl hL14))
        exact ⟨rfl, rfl, rfl, rfl, trivial⟩
      · refine WK_block ?_
        refine WK_loop (S := List Int × Int) (G := List Ent) (fun s => slices_insertionSortOrdered_uint64_s2 p1 s.1 s.2) (fun s g => [(0, .slice a_z0 z0.length c_z0), (1, .int .i64 p1), (2, .int .i64 p2), (6, .int .i64 s_2), (7, .int .i64 s.2)]) (fun s g => St w0 m mc [g, LR]) (fun s g => OwnE 95 1 (I1 .u64) (.slice a_z0 z0.length c_z0) s.1 g) FUEL (l_1, s_2) L1 x15 hx16 hL1 ⟨rfl, rfl, rfl, rfl, rfl, trivial⟩ (fun _ h => h) ?_
        rintro ⟨l_4, s_5⟩ L13 o19 fl20 hm18 hL13 hn21 hd22
        have hm18 : slices_insertionSortOrdered_uint64_s2 p1 l_4 s_5 = some o19 := hm18
        unfold slices_insertionSortOrdered_uint64_s2 at hm18
        refine WK.sub (e' := [(0, .slice a_z0 z0.length c_z0), (1, .int .i64 p1), (2, .int .i64 p2), (6, .int .i64 s_2), (7, .int .i64 s_5)]) ⟨rfl, rfl, rfl, rfl, rfl, trivial⟩ (WK.cls (C' := St w0 m mc [L13, LR]) (fun _ h => h) ?_)
        refine WK_seq ?_
        refine WK_seq ?_
        obtain ⟨s_7, hx24, hm18⟩ := bind_some hm18
        refine WK_meet [(0, .slice a_z0 z0.length c_z0), (1, .int .i64 p1), (2, .int .i64 p2), (6, .int .i64 s_2), (7, .int .i64 s_5), (30, .bool s_7)] (St w0 m mc [L13, LR]) ?_ (fun hk25 => ?_)
        · refine WK_cond (b := s_7) rfl (fun hb26 => ?_) (fun hb26 => ?_)
          · have hm18 := ifT hb26 hm18
            refine WK_skip ?_
            refine WK_seq ?_
            refine WK_block ?_
            refine WK_plan 15 [0, 1, 2, 3, 4, 5, 6, 7, 8, 10, 11, 12] (.run [9, 13, 14] .fin) follows_ok (by kernel_rfl) St_closed ?_
            refine WO_pure tbok 8 [(0, .slice a_z0 z0.length c_z0), (1, .int .i64 p1), (2, .int .i64 p2), (6, .int .i64 s_2), (7, .int .i64 s_5), (33, .slice a_z0 z0.length c_z0), (34, .int .i64 s_5), (35, .slice a_z0 z0.length c_z0), (37, .int .i64 (w64 (s_5 - 1))), (38, .slice a_z0 z0.length c_z0), (40, .int .i64 (w64 (s_5 - 1)))] rfl ⟨rfl, rfl, rfl, rfl, rfl, rfl, rfl, rfl, rfl, rfl, rfl, trivial⟩ ?_
            obtain ⟨v_8, hy27, hm18⟩ := bind_some hm18
            obtain ⟨hc28, hy27⟩ := ix_some hy27
            refine WO_index tbok rfl rfl rfl rfl rfl rfl rfl rfl (OwnE.addr hL13) (by simpa using hc28) ?_
            refine WO_pure tbok 2 [(0, .slice a_z0 z0.length c_z0), (1, .int .i64 p1), (2, .int .i64 p2), (6, .int .i64 s_2), (7, .int .i64 s_5), (33, .slice a_z0 z0.length c_z0), (34, .int .i64 s_5), (35, .slice a_z0 z0.length c_z0), (37, .int .i64 (w64 (s_5 - 1))), (41, .pointer (some (eAddr (.slice a_z0 z0.length c_z0) 1 (w64 (s_5 - 1)).toNat))), (43, .slice a_z0 z0.length c_z0), (44, .int .i64 s_5)] rfl ⟨rfl, rfl, rfl, rfl, rfl, rfl, rfl, rfl, rfl, rfl, rfl, rfl, trivial⟩ ?_
            obtain ⟨v_9, hy29, hm18⟩ := bind_some hm18
            obtain ⟨hc30, hy29⟩ := ix_some hy29
            refine WO_index tbok rfl rfl rfl rfl rfl rfl rfl rfl (OwnE.addr hL13) (by simpa using hc30) ?_
            refine WO_plan ?_
            refine WT_run ?_
            refine WO_loadO (E := (I1 .u64)) tbok (fun _ => rfl) 0 rfl rfl rfl rfl (fun _ h => h) hL13 rfl hy27 rfl ?_
            refine WO_loadO (E := (I1 .u64)) tbok (fun _ => rfl) 0 rfl rfl rfl rfl (fun _ h => h) hL13 rfl hy29 rfl ?_
            obtain ⟨hc31, hm18⟩ := chk_some hm18
            refine WO_index tbok rfl rfl rfl rfl rfl rfl rfl rfl (OwnE.addr hL13) (by simpa using hc31) ?_
            refine WO_tree rfl ?_
            refine WT_fin ?_
            refine WO_storeO (E := (I1 .u64)) tbok (fun _ => rfl) 0 v_8 rfl rfl rfl rfl rfl hL13 rfl (by simpa using idx_lt hc31) rfl rfl rfl rfl (fun L32 hL32 => ?_)
            refine WO.cls (C' := St w0 m mc [L32, LR]) (fun _ h => h) ?_
            obtain ⟨hc33, hm18⟩ := chk_some hm18
            refine WO_index tbok rfl rfl rfl rfl rfl rfl rfl rfl (OwnE.addr hL32) (by simpa using hc33) ?_
            refine WO_storeO (E := (I1 .u64)) tbok (fun _ => rfl) 0 v_9 rfl rfl rfl rfl rfl hL32 rfl (by simpa using idx_lt hc33) rfl rfl rfl rfl (fun L34 hL34 => ?_)
            refine WO.cls (C' := St w0 m mc [L34, LR]) (fun _ h => h) ?_
            refine WO_end ?_
            refine WK_blk ?_
            refine WK_region ?_
            refine WO_pure tbok 3 [(0, .slice a_z0 z0.length c_z0), (1, .int .i64 p1), (2, .int .i64 p2), (6, .int .i64 s_2), (7, .int .i64 (w64 (s_5 - 1)))] rfl ⟨rfl, rfl, rfl, rfl, rfl, trivial⟩ ?_
            refine WO_end ?_
            cases hm18
            refine WK.sub ?_ (WK.cls (fun _ h => h) (hn21 _ L34 rfl hL34))
            exact ⟨rfl, rfl, rfl, rfl, rfl, trivial⟩
          · have hm18 := ifF hb26 hm18
            refine WK_exit rfl ?_
            cases hm18
            refine WK.sub ?_ (WK.cls (fun _ h => h) (hk17 (l_4, L13) ⟨(hd22 _ rfl), hL13⟩))
            exact ⟨rfl, rfl, rfl, rfl, trivial⟩
        · refine WK_draw 15 [0, 1, 2, 3, 4, 5, 6, 7, 8, 9, 10, 11, 12, 13, 14] follows_ok (by kernel_rfl) St_closed ?_
          refine WO_pure tbok 4 [(0, .slice a_z0 z0.length c_z0), (1, .int .i64 p1), (2, .int .i64 p2), (6, .int .i64 s_2), (7, .int .i64 s_5), (19, .bool (decide (p1 < s_5)))] rfl ⟨rfl, rfl, rfl, rfl, rfl, rfl, trivial⟩ ?_
          refine WO_split (d := 19) (b := decide (p1 < s_5)) rfl (fun hb35 => ?_) (fun hb35 => ?_)
          · have hx24 := ifT hb35 hx24
            refine WO_pure tbok 2 [(0, .slice a_z0 z0.length c_z0), (1, .int .i64 p1), (2, .int .i64 p2), (6, .int .i64 s_2), (7, .int .i64 s_5), (19, .bool true), (20, .slice a_z0 z0.length c_z0), (21, .int .i64 s_5)] rfl ⟨rfl, rfl, rfl, rfl, rfl, rfl, rfl, rfl, trivial⟩ ?_
            obtain ⟨v_10, hy36, hx24⟩ := bind_some hx24
            obtain ⟨hc37, hy36⟩ := ix_some hy36
            refine WO_index tbok rfl rfl rfl rfl rfl rfl rfl rfl (OwnE.addr hL13) (by simpa using hc37) ?_
            refine WO_loadO (E := (I1 .u64)) tbok (fun _ => rfl) 0 rfl rfl rfl rfl (fun _ h => h) hL13 rfl hy36 rfl ?_
            refine WO_pure tbok 3 [(0, .slice a_z0 z0.length c_z0), (1, .int .i64 p1), (2, .int .i64 p2), (6, .int .i64 s_2), (7, .int .i64 s_5), (19, .bool true), (23, .int .u64 v_10), (24, .slice a_z0 z0.length c_z0), (26, .int .i64 (w64 (s_5 - 1)))] rfl ⟨rfl, rfl, rfl, rfl, rfl, rfl, rfl, rfl, rfl, trivial⟩ ?_
            obtain ⟨v_11, hy38, hx24⟩ := bind_some hx24
            obtain ⟨hc39, hy38⟩ := ix_some hy38
            refine WO_index tbok rfl rfl rfl rfl rfl rfl rfl rfl (OwnE.addr hL13) (by simpa using hc39) ?_
            refine WO_loadO (E := (I1 .u64)) tbok (fun _ => rfl) 0 rfl rfl rfl rfl (fun _ h => h) hL13 rfl hy38 rfl ?_
            obtain ⟨y_12, hc40, hx24⟩ := bind_some hx24
            refine WO_call0 (.bool y_12) rfl rfl St_closed rfl rfl rfl rfl St_closed ⟨93, #[], #[], rfl, callable_93, fun w hw => ⟨_, hw.sat, cmp_Less_uint64_walk hc40⟩⟩ ?_
            refine WO_pure tbok 1 [(0, .slice a_z0 z0.length c_z0), (1, .int .i64 p1), (2, .int .i64 p2), (6, .int .i64 s_2), (7, .int .i64 s_5), (30, .bool y_12)] rfl ⟨rfl, rfl, rfl, rfl, rfl, rfl, trivial⟩ ?_
            refine WO_tail ?_
            refine WO_end ?_
            cases hx24
            refine WK.sub ?_ (WK.cls (fun _ h => h) hk25)
            exact ⟨rfl, rfl, rfl, rfl, rfl, rfl, trivial⟩
          · have hx24 := ifF hb35 hx24
            refine WO_pure tbok 9 [(0, .slice a_z0 z0.length c_z0), (1, .int .i64 p1), (2, .int .i64 p2), (6, .int .i64 s_2), (7, .int .i64 s_5), (19, .bool false)] rfl ⟨rfl, rfl, rfl, rfl, rfl, rfl, trivial⟩ ?_
            refine WO_skip rfl rfl ?_
            refine WO_pure tbok 1 [(0, .slice a_z0 z0.length c_z0), (1, .int .i64 p1), (2, .int .i64 p2), (6, .int .i64 s_2), (7, .int .i64 s_5), (30, .bool false)] rfl ⟨rfl, rfl, rfl, rfl, rfl, rfl, trivial⟩ ?_
            refine WO_tail ?_
            refine WO_end ?_
            cases hx24
            refine WK.sub ?_ (WK.cls (fun _ h => h) hk25)
            exact ⟨rfl, rfl, rfl, rfl, rfl, rfl, trivial⟩
    · have hm6 := ifF hb12 hm6
      refine WK_exit rfl ?_
      cases hm6
      refine WK.sub ?_ (WK.cls (fun _ h => h) (hk5 (l_1, L1) ⟨(hd10 _ rfl), hL1⟩))
      exact trivial
theorem slices_siftDownOrdered_uint64_walk {w0 : World} {m mc : Mu} {LR : List Ent} {z0 : List Int} {a_z0 : Option Addr} {n_z0 c_z0 : Nat} {L_z0 : List Ent} {p1 : Int} {p2 : Int} {p3 : Int} {r : List Int} (hle0 : Le m mc) (h_z0 : OwnE 95 1 (I1 .u64) (.slice a_z0 n_z0 c_z0) z0 L_z0) (hm : slices_siftDownOrdered_uint64 z0 p1 p2 p3 = some r) :
    SpecS Try.prog 99 [.slice a_z0 n_z0 c_z0, .int .i64 p1, .int .i64 p2, .int .i64 p3] (St w0 m mc [L_z0, LR]) (fun v w => ∃ g : List Ent, v = .tuple #[] ∧ (OwnE 95 1 (I1 .u64) (.slice a_z0 n_z0 c_z0) r g) ∧ St w0 m mc [g, LR] w) := by
  refine SpecS_enter Try.func99 rfl rfl rfl ?_
  refine WK.sub (e' := [(0, .slice a_z0 n_z0 c_z0), (1, .int .i64 p1), (2, .int .i64 p2), (3, .int .i64 p3)]) ⟨rfl, rfl, rfl, rfl, trivial⟩ ?_
  obtain rfl := OwnE.qlen h_z0
  refine WK.sub (e' := [(0, .slice a_z0 z0.length c_z0), (1, .int .i64 p1), (2, .int .i64 p2), (3, .int .i64 p3)]) ⟨rfl, rfl, rfl, rfl, trivial⟩ (WK.cls (C' := St w0 m mc [L_z0, LR]) (fun _ h => h) ?_)
  unfold slices_siftDownOrdered_uint64 at hm
  refine WK_seq ?_
  refine WK_region ?_
  refine WO_pure tbok 2 [(0, .slice a_z0 z0.length c_z0), (2, .int .i64 p2), (3, .int .i64 p3), (8, .int .i64 p1)] rfl ⟨rfl, rfl, rfl, rfl, trivial⟩ ?_
  refine WO_end ?_
  obtain ⟨x3, hx4, hm⟩ := bind_some hm
  refine WK_join (β := (List Int) × (List Ent)) (fun p => Sum.inr p.1 = x3 ∧ OwnE 95 1 (I1 .u64) (.slice a_z0 z0.length c_z0) p.1 p.2) (fun p => []) (fun p => St w0 m mc [p.2, LR]) ?_ (fun hk5 => ?_)
  · rintro ⟨l_3, L2⟩ ⟨hq11, hL2⟩
    subst hq11
    refine WK.sub (e' := []) trivial (WK.cls (C' := St w0 m mc [L2, LR]) (fun _ h => h) ?_)
    cases hm
    exact WK_nilS RLc_nil (fun _ h => ⟨L2, rfl, hL2, h⟩)
  · refine WK_block ?_
    refine WK_loop (S := List Int × Int) (G := List Ent) (fun s => slices_siftDownOrdered_uint64_s1 p2 p3 s.1 s.2) (fun s g => [(0, .slice a_z0 z0.length c_z0), (2, .int .i64 p2), (3, .int .i64 p3), (8, .int .i64 s.2)]) (fun s g => St w0 m mc [g, LR]) (fun s g => OwnE 95 1 (I1 .u64) (.slice a_z0 z0.length c_z0) s.1 g) FUEL (z0, p1) L_z0 x3 hx4 h_z0 ⟨rfl, rfl, rfl, rfl, trivial⟩ (fun _ h => h) ?_
    rintro ⟨l_1, s_2⟩ L1 o7 fl8 hm6 hL1 hn9 hd10
    have hm6 : slices_siftDownOrdered_uint64_s1 p2 p3 l_1 s_2 = some o7 := hm6
    unfold slices_siftDownOrdered_uint64_s1 at hm6
    refine WK.sub (e' := [(0, .slice a_z0 z0.length c_z0), (2, .int .i64 p2), (3, .int .i64 p3), (8, .int .i64 s_2)]) ⟨rfl, rfl, rfl, rfl, trivial⟩ (WK.cls (C' := St w0 m mc [L1, LR]) (fun _ h => h) ?_)
    refine WK_block ?_
    refine WK_seq ?_
    refine WK_region ?_
    refine WO_pure tbok 4 [(0, .slice a_z0 z0.length c_z0), (2, .int .i64 p2), (3, .int .i64 p3), (8, .int .i64 s_2), (9, .int .i64 (w64 ((w64 (2 * s_2)) + 1)))] rfl ⟨rfl, rfl, rfl, rfl, rfl, trivial⟩ ?_
    refine WO_end ?_
    refine WK_seq ?_
    refine WK_seq ?_
    refine WK_region ?_
    refine WO_pure tbok 3 [(0, .slice a_z0 z0.length c_z0), (2, .int .i64 p2), (3, .int .i64 p3), (8, .int .i64 s_2), (9, .int .i64 (w64 ((w64 (2 * s_2)) + 1))), (16, .bool (decide (p2 ≤ (w64 ((w64 (2 * s_2)) + 1)))))] rfl ⟨rfl, rfl, rfl, rfl, rfl, rfl, trivial⟩ ?_
    refine WO_end ?_
    refine WK_cond (b := decide (p2 ≤ (w64 ((w64 (2 * s_2)) + 1)))) rfl (fun hb12 => ?_) (fun hb12 => ?_)
    · have hm6 := ifT hb12 hm6
      refine WK_exit rfl ?_
      cases hm6
      refine WK.sub ?_ (WK.cls (fun _ h => h) (hk5 (l_1, L1) ⟨(hd10 _ rfl), hL1⟩))
      exact trivial
    · have hm6 := ifF hb12 hm6
      refine WK_skip ?_
      refine WK_seq ?_
      refine WK_seq ?_
      obtain ⟨s_4, hx13, hm6⟩ := bind_some hm6
      refine WK_meet [(0, .slice a_z0 z0.length c_z0), (2, .int .i64 p2), (3, .int .i64 p3), (8, .int .i64 s_2), (9, .int .i64 (w64 ((w64 (2 * s_2)) + 1))), (36, .bool s_4)] (St w0 m mc [L1, LR]) ?_ (fun hk14 => ?_)
      · obtain ⟨s_5, hx15, hm6⟩ := bind_some hm6
        refine WK_meet [(0, .slice a_z0 z0.length c_z0), (2, .int .i64 p2), (3, .int .i64 p3), (8, .int .i64 s_2), (9, .int .i64 s_5)] (St w0 m mc [L1, LR]) ?_ (fun hk16 => ?_)
        · refine WK_seq ?_
          refine WK_seq ?_
          refine WK_draw 14 [0, 1, 2, 3, 4, 5, 6, 7, 8, 9, 10, 11, 12, 13] follows_ok (by kernel_rfl) St_closed ?_
          refine WO_pure tbok 4 [(0, .slice a_z0 z0.length c_z0), (2, .int .i64 p2), (3, .int .i64 p3), (8, .int .i64 s_2), (9, .int .i64 s_5), (39, .slice a_z0 z0.length c_z0), (42, .int .i64 (w64 (p3 + s_2)))] rfl ⟨rfl, rfl, rfl, rfl, rfl, rfl, rfl, trivial⟩ ?_
          obtain ⟨v_6, hy17, hm6⟩ := bind_some hm6
          obtain ⟨hc18, hy17⟩ := ix_some hy17
          refine WO_index tbok rfl rfl rfl rfl rfl rfl rfl rfl (OwnE.addr hL1) (by simpa using hc18) ?_
          refine WO_loadO (E := (I1 .u64)) tbok (fun _ => rfl) 0 rfl rfl rfl rfl (fun _ h => h) hL1 rfl hy17 rfl ?_
          refine WO_pure tbok 4 [(0, .slice a_z0 z0.length c_z0), (2, .int .i64 p2), (3, .int .i64 p3), (8, .int .i64 s_2), (9, .int .i64 s_5), (44, .int .u64 v_6), (45, .slice a_z0 z0.length c_z0), (48, .int .i64 (w64 (p3 + s_5)))] rfl ⟨rfl, rfl, rfl, rfl, rfl, rfl, rfl, rfl, trivial⟩ ?_
          obtain ⟨v_7, hy19, hm6⟩ := bind_some hm6
          obtain ⟨hc20, hy19⟩ := ix_some hy19
          refine WO_index tbok rfl rfl rfl rfl rfl rfl rfl rfl (OwnE.addr hL1) (by simpa using hc20) ?_
          refine WO_loadO (E := (I1 .u64)) tbok (fun _ => rfl) 0 rfl rfl rfl rfl (fun _ h => h) hL1 rfl hy19 rfl ?_
          obtain ⟨y_8, hc21, hm6⟩ := bind_some hm6
          refine WO_call0 (.bool y_8) rfl rfl St_closed rfl rfl rfl rfl St_closed ⟨93, #[], #[], rfl, callable_93, fun w hw => ⟨_, hw.sat, cmp_Less_uint64_walk hc21⟩⟩ ?_
          refine WO_pure tbok 1 [(0, .slice a_z0 z0.length c_z0), (2, .int .i64 p2), (3, .int .i64 p3), (8, .int .i64 s_2), (9, .int .i64 s_5), (52, .bool (!y_8))] rfl ⟨rfl, rfl, rfl, rfl, rfl, rfl, trivial⟩ ?_
          refine WO_tail ?_
          refine WO_end ?_
          refine WK_cond (b := !y_8) rfl (fun hb22 => ?_) (fun hb22 => ?_)
          · have hm6 := ifT hb22 hm6
            cases hm6
            have hq := hd10 _ rfl
            subst hq
            have hm : some _ = some _ := hm
            cases hm
            exact WK_retS RLc_nil (fun _ h => ⟨L1, rfl, hL1, h⟩)
          · have hm6 := ifF hb22 hm6
            refine WK_skip ?_
            refine WK_seq ?_
            refine WK_plan 21 [0, 1, 2, 3, 4, 5, 6, 7, 8, 9, 10, 11, 12, 14, 15, 16, 17, 18] (.run [13, 19, 20] .fin) follows_ok (by kernel_rfl) St_closed ?_
            refine WO_pure tbok 12 [(0, .slice a_z0 z0.length c_z0), (2, .int .i64 p2), (3, .int .i64 p3), (8, .int .i64 s_2), (9, .int .i64 s_5), (53, .slice a_z0 z0.length c_z0), (56, .int .i64 (w64 (p3 + s_2))), (57, .slice a_z0 z0.length c_z0), (60, .int .i64 (w64 (p3 + s_5))), (61, .slice a_z0 z0.length c_z0), (64, .int .i64 (w64 (p3 + s_5)))] rfl ⟨rfl, rfl, rfl, rfl, rfl, rfl, rfl, rfl, rfl, rfl, rfl, trivial⟩ ?_
            obtain ⟨v_9, hy23, hm6⟩ := bind_some hm6
            obtain ⟨hc24, hy23⟩ := ix_some hy23
            refine WO_index tbok rfl rfl rfl rfl rfl rfl rfl rfl (OwnE.addr hL1) (by simpa using hc24) ?_
            refine WO_pure tbok 4 [(0, .slice a_z0 z0.length c_z0), (2, .int .i64 p2), (3, .int .i64 p3), (8, .int .i64 s_2), (9, .int .i64 s_5), (53, .slice a_z0 z0.length c_z0), (56, .int .i64 (w64 (p3 + s_2))), (57, .slice a_z0 z0.length c_z0), (60, .int .i64 (w64 (p3 + s_5))), (65, .pointer (some (eAddr (.slice a_z0 z0.length c_z0) 1 (w64 (p3 + s_5)).toNat))), (67, .slice a_z0 z0.length c_z0), (70, .int .i64 (w64 (p3 + s_2)))] rfl ⟨rfl, rfl, rfl, rfl, rfl, rfl, rfl, rfl, rfl, rfl, rfl, rfl, trivial⟩ ?_
            obtain ⟨v_10, hy25, hm6⟩ := bind_some hm6
            obtain ⟨hc26, hy25⟩ := ix_some hy25
            refine WO_index tbok rfl rfl rfl rfl rfl rfl rfl rfl (OwnE.addr hL1) (by simpa using hc26) ?_
            refine WO_plan ?_
            refine WT_run ?_
            refine WO_loadO (E := (I1 .u64)) tbok (fun _ => rfl) 0 rfl rfl rfl rfl (fun _ h => h) hL1 rfl hy23 rfl ?_
            refine WO_loadO (E := (I1 .u64)) tbok (fun _ => rfl) 0 rfl rfl rfl rfl (fun _ h => h) hL1 rfl hy25 rfl ?_
            obtain ⟨hc27, hm6⟩ := chk_some hm6
            refine WO_index tbok rfl rfl rfl rfl rfl rfl rfl rfl (OwnE.addr hL1) (by simpa using hc27) ?_
            refine WO_tree rfl ?_
            refine WT_fin ?_
            refine WO_storeO (E := (I1 .u64)) tbok (fun _ => rfl) 0 v_9 rfl rfl rfl rfl rfl hL1 rfl (by simpa using idx_lt hc27) rfl rfl rfl rfl (fun L28 hL28 => ?_)
            refine WO.cls (C' := St w0 m mc [L28, LR]) (fun _ h => h) ?_
            obtain ⟨hc29, hm6⟩ := chk_some hm6
            refine WO_index tbok rfl rfl rfl rfl rfl rfl rfl rfl (OwnE.addr hL28) (by simpa using hc29) ?_
            refine WO_storeO (E := (I1 .u64)) tbok (fun _ => rfl) 0 v_10 rfl rfl rfl rfl rfl hL28 rfl (by simpa using idx_lt hc29) rfl rfl rfl rfl (fun L30 hL30 => ?_)
            refine WO.cls (C' := St w0 m mc [L30, LR]) (fun _ h => h) ?_
            refine WO_end ?_
            refine WK_region ?_
            refine WO_pure tbok 2 [(0, .slice a_z0 z0.length c_z0), (2, .int .i64 p2), (3, .int .i64 p3), (8, .int .i64 s_5)] rfl ⟨rfl, rfl, rfl, rfl, trivial⟩ ?_
            refine WO_end ?_
            refine WK_blk ?_
            cases hm6
            refine WK.sub ?_ (WK.cls (fun _ h => h) (hn9 _ L30 rfl hL30))
            exact ⟨rfl, rfl, rfl, rfl, trivial⟩
        · refine WK_cond (b := s_4) rfl (fun hb31 => ?_) (fun hb31 => ?_)
          · have hx15 := ifT hb31 hx15
            refine WK_region ?_
            refine WO_pure tbok 3 [(0, .slice a_z0 z0.length c_z0), (2, .int .i64 p2), (3, .int .i64 p3), (8, .int .i64 s_2), (9, .int .i64 (w64 ((w64 ((w64 (2 * s_2)) + 1)) + 1)))] rfl ⟨rfl, rfl, rfl, rfl, rfl, trivial⟩ ?_
            refine WO_end ?_
            cases hx15
            refine WK.sub ?_ (WK.cls (fun _ h => h) hk16)
            exact ⟨rfl, rfl, rfl, rfl, rfl, trivial⟩
          · have hx15 := ifF hb31 hx15
            refine WK_skip ?_
            cases hx15
            refine WK.sub ?_ (WK.cls (fun _ h => h) hk16)
            exact ⟨rfl, rfl, rfl, rfl, rfl, trivial⟩
      · refine WK_draw 20 [0, 1, 2, 3, 4, 5, 6, 7, 8, 9, 10, 11, 12, 13, 14, 15, 16, 17, 18, 19] follows_ok (by kernel_rfl) St_closed ?_
        refine WO_pure tbok 5 [(0, .slice a_z0 z0.length c_z0), (2, .int .i64 p2), (3, .int .i64 p3), (8, .int .i64 s_2), (9, .int .i64 (w64 ((w64 (2 * s_2)) + 1))), (21, .bool (decide ((w64 ((w64 ((w64 (2 * s_2)) + 1)) + 1)) < p2)))] rfl ⟨rfl, rfl, rfl, rfl, rfl, rfl, trivial⟩ ?_
        refine WO_split (d := 21) (b := decide ((w64 ((w64 ((w64 (2 * s_2)) + 1)) + 1)) < p2)) rfl (fun hb32 => ?_) (fun hb32 => ?_)
        · have hx13 := ifT hb32 hx13
          refine WO_pure tbok 4 [(0, .slice a_z0 z0.length c_z0), (2, .int .i64 p2), (3, .int .i64 p3), (8, .int .i64 s_2), (9, .int .i64 (w64 ((w64 (2 * s_2)) + 1))), (21, .bool true), (22, .slice a_z0 z0.length c_z0), (25, .int .i64 (w64 (p3 + (w64 ((w64 (2 * s_2)) + 1)))))] rfl ⟨rfl, rfl, rfl, rfl, rfl, rfl, rfl, rfl, trivial⟩ ?_
          obtain ⟨v_11, hy33, hx13⟩ := bind_some hx13
          obtain ⟨hc34, hy33⟩ := ix_some hy33
          refine WO_index tbok rfl rfl rfl rfl rfl rfl rfl rfl (OwnE.addr hL1) (by simpa using hc34) ?_
          refine WO_loadO (E := (I1 .u64)) tbok (fun _ => rfl) 0 rfl rfl rfl rfl (fun _ h => h) hL1 rfl hy33 rfl ?_
          refine WO_pure tbok 5 [(0, .slice a_z0 z0.length c_z0), (2, .int .i64 p2), (3, .int .i64 p3), (8, .int .i64 s_2), (9, .int .i64 (w64 ((w64 (2 * s_2)) + 1))), (21, .bool true), (27, .int .u64 v_11), (28, .slice a_z0 z0.length c_z0), (32, .int .i64 (w64 ((w64 (p3 + (w64 ((w64 (2 * s_2)) + 1)))) + 1)))] rfl ⟨rfl, rfl, rfl, rfl, rfl, rfl, rfl, rfl, rfl, trivial⟩ ?_
          obtain ⟨v_12, hy35, hx13⟩ := bind_some hx13
          obtain ⟨hc36, hy35⟩ := ix_some hy35
          refine WO_index tbok rfl rfl rfl rfl rfl rfl rfl rfl (OwnE.addr hL1) (by simpa using hc36) ?_
          refine WO_loadO (E := (I1 .u64)) tbok (fun _ => rfl) 0 rfl rfl rfl rfl (fun _ h => h) hL1 rfl hy35 rfl ?_
          obtain ⟨y_13, hc37, hx13⟩ := bind_some hx13
          refine WO_call0 (.bool y_13) rfl rfl St_closed rfl rfl rfl rfl St_closed ⟨93, #[], #[], rfl, callable_93, fun w hw => ⟨_, hw.sat, cmp_Less_uint64_walk hc37⟩⟩ ?_
          refine WO_pure tbok 1 [(0, .slice a_z0 z0.length c_z0), (2, .int .i64 p2), (3, .int .i64 p3), (8, .int .i64 s_2), (9, .int .i64 (w64 ((w64 (2 * s_2)) + 1))), (36, .bool y_13)] rfl ⟨rfl, rfl, rfl, rfl, rfl, rfl, trivial⟩ ?_
          refine WO_tail ?_
          refine WO_end ?_
          cases hx13
          refine WK.sub ?_ (WK.cls (fun _ h => h) hk14)
          exact ⟨rfl, rfl, rfl, rfl, rfl, rfl, trivial⟩
        · have hx13 := ifF hb32 hx13
          refine WO_pure tbok 13 [(0, .slice a_z0 z0.length c_z0), (2, .int .i64 p2), (3, .int .i64 p3), (8, .int .i64 s_2), (9, .int .i64 (w64 ((w64 (2 * s_2)) + 1))), (21, .bool false)] rfl ⟨rfl, rfl, rfl, rfl, rfl, rfl, trivial⟩ ?_
          refine WO_skip rfl rfl ?_
          refine WO_pure tbok 1 [(0, .slice a_z0 z0.length c_z0), (2, .int .i64 p2), (3, .int .i64 p3), (8, .int .i64 s_2), (9, .int .i64 (w64 ((w64 (2 * s_2)) + 1))), (36, .bool false)] rfl ⟨rfl, rfl, rfl, rfl, rfl, rfl, trivial⟩ ?_
          refine WO_tail ?_
          refine WO_end ?_
          cases hx13
          refine WK.sub ?_ (WK.cls (fun _ h => h) hk14)
          exact ⟨rfl, rfl, rfl, rfl, rfl, rfl, trivial⟩
theorem slices_heapSortOrdered_uint64_walk {w0 : World} {m mc : Mu} {LR : List Ent} {z0 : List Int} {a_z0 : Option Addr} {n_z0 c_z0 : Nat} {L_z0 : List Ent} {p1 : Int} {p2 : Int} {r : List Int} (hle0 : Le m mc) (h_z0 : OwnE 95 1 (I1 .u64) (.slice a_z0 n_z0 c_z0) z0 L_z0) (hm : slices_heapSortOrdered_uint64 z0 p1 p2 = some r) :
    SpecS Try.prog 88 [.slice a_z0 n_z0 c_z0, .int .i64 p1, .int .i64 p2] (St w0 m mc [L_z0, LR]) (fun v w => ∃ g : List Ent, v = .tuple #[] ∧ (OwnE 95 1 (I1 .u64) (.slice a_z0 n_z0 c_z0) r g) ∧ St w0 m mc [g, LR] w) := by
  refine SpecS_enter Try.func88 rfl rfl rfl ?_
  refine WK.sub (e' := [(0, .slice a_z0 n_z0 c_z0), (1, .int .i64 p1), (2, .int .i64 p2)]) ⟨rfl, rfl, rfl, trivial⟩ ?_
  obtain rfl := OwnE.qlen h_z0
  refine WK.sub (e' := [(0, .slice a_z0 z0.length c_z0), (1, .int .i64 p1), (2, .int .i64 p2)]) ⟨rfl, rfl, rfl, trivial⟩ (WK.cls (C' := St w0 m mc [L_z0, LR]) (fun _ h => h) ?_)
  unfold slices_heapSortOrdered_uint64 at hm
  refine WK_seq ?_
  refine WK_region ?_
  refine WO_pure tbok 2 [(0, .slice a_z0 z0.length c_z0), (1, .int .i64 p1), (2, .int .i64 p2), (6, .int .i64 p1)] rfl ⟨rfl, rfl, rfl, rfl, trivial⟩ ?_
  refine WO_end ?_
  refine WK_seq ?_
  refine WK_region ?_
  refine WO_pure tbok 1 [(0, .slice a_z0 z0.length c_z0), (1, .int .i64 p1), (2, .int .i64 p2), (6, .int .i64 p1), (7, .int .i64 0)] rfl ⟨rfl, rfl, rfl, rfl, rfl, trivial⟩ ?_
  refine WO_end ?_
  refine WK_seq ?_
  refine WK_region ?_
  refine WO_pure tbok 4 [(0, .slice a_z0 z0.length c_z0), (6, .int .i64 p1), (7, .int .i64 0), (8, .int .i64 (w64 (p2 - p1)))] rfl ⟨rfl, rfl, rfl, rfl, trivial⟩ ?_
  refine WO_end ?_
  refine WK_seq ?_
  refine WK_seq ?_
  refine WK_region ?_
  refine WO_pure tbok 4 [(0, .slice a_z0 z0.length c_z0), (6, .int .i64 p1), (7, .int .i64 0), (8, .int .i64 (w64 (p2 - p1))), (9, .int .i64 (w64 (Int.tdiv (w64 ((w64 (p2 - p1)) - 1)) 2)))] rfl ⟨rfl, rfl, rfl, rfl, rfl, trivial⟩ ?_
  refine WO_end ?_
  obtain ⟨x3, hx4, hm⟩ := bind_some hm
  refine WK_join (β := (List Int) × (List Ent)) (fun p => p.1 = x3 ∧ OwnE 95 1 (I1 .u64) (.slice a_z0 z0.length c_z0) p.1 p.2) (fun p => [(0, .slice a_z0 z0.length c_z0), (6, .int .i64 p1), (7, .int .i64 0), (8, .int .i64 (w64 (p2 - p1)))]) (fun p => St w0 m mc [p.2, LR]) ?_ (fun hk5 => ?_)
  · rintro ⟨l_3, L2⟩ ⟨hq11, hL2⟩
    subst hq11
    refine WK.sub (e' := [(0, .slice a_z0 z0.length c_z0), (6, .int .i64 p1), (7, .int .i64 0), (8, .int .i64 (w64 (p2 - p1)))]) ⟨rfl, rfl, rfl, rfl, trivial⟩ (WK.cls (C' := St w0 m mc [L2, LR]) (fun _ h => h) ?_)
    refine WK_seq ?_
    refine WK_region ?_
    refine WO_pure tbok 3 [(0, .slice a_z0 z0.length c_z0), (6, .int .i64 p1), (7, .int .i64 0), (10, .int .i64 (w64 ((w64 (p2 - p1)) - 1)))] rfl ⟨rfl, rfl, rfl, rfl, trivial⟩ ?_
    refine WO_end ?_
    obtain ⟨x14, hx15, hm⟩ := bind_some hm
    refine WK_join (β := (List Int) × (List Ent)) (fun p => p.1 = x14 ∧ OwnE 95 1 (I1 .u64) (.slice a_z0 z0.length c_z0) p.1 p.2) (fun p => []) (fun p => St w0 m mc [p.2, LR]) ?_ (fun hk16 => ?_)
    · rintro ⟨l_6, L13⟩ ⟨hq22, hL13⟩
      subst hq22
      refine WK.sub (e' := []) trivial (WK.cls (C' := St w0 m mc [L13, LR]) (fun _ h => h) ?_)
      cases hm
      exact WK_nilS RLc_nil (fun _ h => ⟨L13, rfl, hL13, h⟩)
    · refine WK_block ?_
      refine WK_loop (S := List Int × Int) (G := List Ent) (fun s => slices_heapSortOrdered_uint64_s2 p1 s.1 s.2) (fun s g => [(0, .slice a_z0 z0.length c_z0), (6, .int .i64 p1), (7, .int .i64 0), (10, .int .i64 s.2)]) (fun s g => St w0 m mc [g, LR]) (fun s g => OwnE 95 1 (I1 .u64) (.slice a_z0 z0.length c_z0) s.1 g) FUEL (l_3, w64 ((w64 (p2 - p1)) - 1)) L2 x14 hx15 hL2 ⟨rfl, rfl, rfl, rfl, trivial⟩ (fun _ h => h) ?_
      rintro ⟨l_4, s_5⟩ L12 o18 fl19 hm17 hL12 hn20 hd21
      have hm17 : slices_heapSortOrdered_uint64_s2 p1 l_4 s_5 = some o18 := hm17
      unfold slices_heapSortOrdered_uint64_s2 at hm17
      refine WK.sub (e' := [(0, .slice a_z0 z0.length c_z0), (6, .int .i64 p1), (7, .int .i64 0), (10, .int .i64 s_5)]) ⟨rfl, rfl, rfl, rfl, trivial⟩ (WK.cls (C' := St w0 m mc [L12, LR]) (fun _ h => h) ?_)
      refine WK_seq ?_
      refine WK_seq ?_
      refine WK_region ?_
      refine WO_pure tbok 2 [(0, .slice a_z0 z0.length c_z0), (6, .int .i64 p1), (7, .int .i64 0), (10, .int .i64 s_5), (30, .bool (decide (0 ≤ s_5)))] rfl ⟨rfl, rfl, rfl, rfl, rfl, trivial⟩ ?_
      refine WO_end ?_
      refine WK_cond (b := decide (0 ≤ s_5)) rfl (fun hb23 => ?_) (fun hb23 => ?_)
      · have hm17 := ifT hb23 hm17
        refine WK_skip ?_
        refine WK_seq ?_
        refine WK_block ?_
        refine WK_seq ?_
        refine WK_plan 17 [0, 1, 2, 3, 4, 5, 6, 7, 8, 9, 10, 12, 13, 14] (.run [11, 15, 16] .fin) follows_ok (by kernel_rfl) St_closed ?_
        refine WO_pure tbok 10 [(0, .slice a_z0 z0.length c_z0), (6, .int .i64 p1), (7, .int .i64 0), (10, .int .i64 s_5), (33, .slice a_z0 z0.length c_z0), (34, .int .i64 p1), (35, .slice a_z0 z0.length c_z0), (38, .int .i64 (w64 (p1 + s_5))), (39, .slice a_z0 z0.length c_z0), (42, .int .i64 (w64 (p1 + s_5)))] rfl ⟨rfl, rfl, rfl, rfl, rfl, rfl, rfl, rfl, rfl, rfl, trivial⟩ ?_
        obtain ⟨v_7, hy24, hm17⟩ := bind_some hm17
        obtain ⟨hc25, hy24⟩ := ix_some hy24
        refine WO_index tbok rfl rfl rfl rfl rfl rfl rfl rfl (OwnE.addr hL12) (by simpa using hc25) ?_
        refine WO_pure tbok 2 [(0, .slice a_z0 z0.length c_z0), (6, .int .i64 p1), (7, .int .i64 0), (10, .int .i64 s_5), (33, .slice a_z0 z0.length c_z0), (34, .int .i64 p1), (35, .slice a_z0 z0.length c_z0), (38, .int .i64 (w64 (p1 + s_5))), (43, .pointer (some (eAddr (.slice a_z0 z0.length c_z0) 1 (w64 (p1 + s_5)).toNat))), (45, .slice a_z0 z0.length c_z0), (46, .int .i64 p1)] rfl ⟨rfl, rfl, rfl, rfl, rfl, rfl, rfl, rfl, rfl, rfl, rfl, trivial⟩ ?_
        obtain ⟨v_8, hy26, hm17⟩ := bind_some hm17
        obtain ⟨hc27, hy26⟩ := ix_some hy26
        refine WO_index tbok rfl rfl rfl rfl rfl rfl rfl rfl (OwnE.addr hL12) (by simpa using hc27) ?_
        refine WO_plan ?_
        refine WT_run ?_
        refine WO_loadO (E := (I1 .u64)) tbok (fun _ => rfl) 0 rfl rfl rfl rfl (fun _ h => h) hL12 rfl hy24 rfl ?_
        refine WO_loadO (E := (I1 .u64)) tbok (fun _ => rfl) 0 rfl rfl rfl rfl (fun _ h => h) hL12 rfl hy26 rfl ?_
        obtain ⟨hc28, hm17⟩ := chk_some hm17
        refine WO_index tbok rfl rfl rfl rfl rfl rfl rfl rfl (OwnE.addr hL12) (by simpa using hc28) ?_
        refine WO_tree rfl ?_
        refine WT_fin ?_
        refine WO_storeO (E := (I1 .u64)) tbok (fun _ => rfl) 0 v_7 rfl rfl rfl rfl rfl hL12 rfl (by simpa using idx_lt hc28) rfl rfl rfl rfl (fun L29 hL29 => ?_)
        refine WO.cls (C' := St w0 m mc [L29, LR]) (fun _ h => h) ?_
        obtain ⟨hc30, hm17⟩ := chk_some hm17
        refine WO_index tbok rfl rfl rfl rfl rfl rfl rfl rfl (OwnE.addr hL29) (by simpa using hc30) ?_
        refine WO_storeO (E := (I1 .u64)) tbok (fun _ => rfl) 0 v_8 rfl rfl rfl rfl rfl hL29 rfl (by simpa using idx_lt hc30) rfl rfl rfl rfl (fun L31 hL31 => ?_)
        refine WO.cls (C' := St w0 m mc [L31, LR]) (fun _ h => h) ?_
        refine WO_end ?_
        refine WK_region ?_
        refine WO_pure tbok 4 [(0, .slice a_z0 z0.length c_z0), (6, .int .i64 p1), (7, .int .i64 0), (10, .int .i64 s_5), (51, .slice a_z0 z0.length c_z0), (52, .int .i64 0), (53, .int .i64 s_5), (54, .int .i64 p1)] rfl ⟨rfl, rfl, rfl, rfl, rfl, rfl, rfl, rfl, trivial⟩ ?_
        obtain ⟨y_9, hc32, hm17⟩ := bind_some hm17
        refine WO_callS (G := List Ent) (fun g => .tuple #[]) (fun g => OwnE 95 1 (I1 .u64) (.slice a_z0 z0.length c_z0) y_9 g) (fun g => St w0 m mc [g, LR]) rfl rfl rfl rfl rfl rfl callable_99 (slices_siftDownOrdered_uint64_walk hle0 hL31 hc32) ?_
        rintro L33 hL33
        refine WO.cls (C' := St w0 m mc [L33, LR]) (fun _ h => h) ?_
        refine WO_end ?_
        refine WK_blk ?_
        refine WK_region ?_
        refine WO_pure tbok 3 [(0, .slice a_z0 z0.length c_z0), (6, .int .i64 p1), (7, .int .i64 0), (10, .int .i64 (w64 (s_5 - 1)))] rfl ⟨rfl, rfl, rfl, rfl, trivial⟩ ?_
        refine WO_end ?_
        cases hm17
        refine WK.sub ?_ (WK.cls (fun _ h => h) (hn20 _ L33 rfl hL33))
        exact ⟨rfl, rfl, rfl, rfl, trivial⟩
      · have hm17 := ifF hb23 hm17
        refine WK_exit rfl ?_
        cases hm17
        refine WK.sub ?_ (WK.cls (fun _ h => h) (hk16 (l_4, L12) ⟨(hd21 _ rfl), hL12⟩))
        exact trivial
  · refine WK_block ?_
    refine WK_loop (S := List Int × Int) (G := List Ent) (fun s => slices_heapSortOrdered_uint64_s1 p1 p2 s.1 s.2) (fun s g => [(0, .slice a_z0 z0.length c_z0), (6, .int .i64 p1), (7, .int .i64 0), (8, .int .i64 (w64 (p2 - p1))), (9, .int .i64 s.2)]) (fun s g => St w0 m mc [g, LR]) (fun s g => OwnE 95 1 (I1 .u64) (.slice a_z0 z0.length c_z0) s.1 g) FUEL (z0, w64 (Int.tdiv (w64 ((w64 (p2 - p1)) - 1)) 2)) L_z0 x3 hx4 h_z0 ⟨rfl, rfl, rfl, rfl, rfl, trivial⟩ (fun _ h => h) ?_
    rintro ⟨l_1, s_2⟩ L1 o7 fl8 hm6 hL1 hn9 hd10
    have hm6 : slices_heapSortOrdered_uint64_s1 p1 p2 l_1 s_2 = some o7 := hm6
    unfold slices_heapSortOrdered_uint64_s1 at hm6
    refine WK.sub (e' := [(0, .slice a_z0 z0.length c_z0), (6, .int .i64 p1), (7, .int .i64 0), (8, .int .i64 (w64 (p2 - p1))), (9, .int .i64 s_2)]) ⟨rfl, rfl, rfl, rfl, rfl, trivial⟩ (WK.cls (C' := St w0 m mc [L1, LR]) (fun _ h => h) ?_)
    refine WK_seq ?_
    refine WK_seq ?_
    refine WK_region ?_
    refine WO_pure tbok 2 [(0, .slice a_z0 z0.length c_z0), (6, .int .i64 p1), (7, .int .i64 0), (8, .int .i64 (w64 (p2 - p1))), (9, .int .i64 s_2), (19, .bool (decide (0 ≤ s_2)))] rfl ⟨rfl, rfl, rfl, rfl, rfl, rfl, trivial⟩ ?_
    refine WO_end ?_
    refine WK_cond (b := decide (0 ≤ s_2)) rfl (fun hb34 => ?_) (fun hb34 => ?_)
    · have hm6 := ifT hb34 hm6
      refine WK_skip ?_
      refine WK_seq ?_
      refine WK_block ?_
      refine WK_region ?_
      refine WO_pure tbok 4 [(0, .slice a_z0 z0.length c_z0), (6, .int .i64 p1), (7, .int .i64 0), (8, .int .i64 (w64 (p2 - p1))), (9, .int .i64 s_2), (22, .slice a_z0 z0.length c_z0), (23, .int .i64 s_2), (24, .int .i64 (w64 (p2 - p1))), (25, .int .i64 p1)] rfl ⟨rfl, rfl, rfl, rfl, rfl, rfl, rfl, rfl, rfl, trivial⟩ ?_
      obtain ⟨y_10, hc35, hm6⟩ := bind_some hm6
      refine WO_callS (G := List Ent) (fun g => .tuple #[]) (fun g => OwnE 95 1 (I1 .u64) (.slice a_z0 z0.length c_z0) y_10 g) (fun g => St w0 m mc [g, LR]) rfl rfl rfl rfl rfl rfl callable_99 (slices_siftDownOrdered_uint64_walk hle0 hL1 hc35) ?_
      rintro L36 hL36
      refine WO.cls (C' := St w0 m mc [L36, LR]) (fun _ h => h) ?_
      refine WO_end ?_
      refine WK_blk ?_
      refine WK_region ?_
      refine WO_pure tbok 3 [(0, .slice a_z0 z0.length c_z0), (6, .int .i64 p1), (7, .int .i64 0), (8, .int .i64 (w64 (p2 - p1))), (9, .int .i64 (w64 (s_2 - 1)))] rfl ⟨rfl, rfl, rfl, rfl, rfl, trivial⟩ ?_
      refine WO_end ?_
      cases hm6
      refine WK.sub ?_ (WK.cls (fun _ h => h) (hn9 _ L36 rfl hL36))
      exact ⟨rfl, rfl, rfl, rfl, rfl, trivial⟩
    · have hm6 := ifF hb34 hm6
      refine WK_exit rfl ?_
      cases hm6
      refine WK.sub ?_ (WK.cls (fun _ h => h) (hk5 (l_1, L1) ⟨(hd10 _ rfl), hL1⟩))
      exact ⟨rfl, rfl, rfl, rfl, trivial⟩
theorem slices_reverseRangeOrdered_uint64_walk {w0 : World} {m mc : Mu} {LR : List Ent} {z0 : List Int} {a_z0 : Option Addr} {n_z0 c_z0 : Nat} {L_z0 : List Ent} {p1 : Int} {p2 : Int} {r : List Int} (hle0 : Le m mc) (h_z0 : OwnE 95 1 (I1 .u64) (.slice a_z0 n_z0 c_z0) z0 L_z0) (hm : slices_reverseRangeOrdered_uint64 z0 p1 p2 = some r) :
    SpecS Try.prog 91 [.slice a_z0 n_z0 c_z0, .int .i64 p1, .int .i64 p2] (St w0 m mc [L_z0, LR]) (fun v w => ∃ g : List Ent, v = .tuple #[] ∧ (OwnE 95 1 (I1 .u64) (.slice a_z0 n_z0 c_z0) r g) ∧ St w0 m mc [g, LR] w) := by
  refine SpecS_enter Try.func91 rfl rfl rfl ?_
  refine WK.sub (e' := [(0, .slice a_z0 n_z0 c_z0), (1, .int .i64 p1), (2, .int .i64 p2)]) ⟨rfl, rfl, rfl, trivial⟩ ?_
  obtain rfl := OwnE.qlen h_z0
  refine WK.sub (e' := [(0, .slice a_z0 z0.length c_z0), (1, .int .i64 p1), (2, .int .i64 p2)]) ⟨rfl, rfl, rfl, trivial⟩ (WK.cls (C' := St w0 m mc [L_z0, LR]) (fun _ h => h) ?_)
  unfold slices_reverseRangeOrdered_uint64 at hm
  refine WK_seq ?_
  refine WK_region ?_
  refine WO_pure tbok 2 [(0, .slice a_z0 z0.length c_z0), (2, .int .i64 p2), (6, .int .i64 p1)] rfl ⟨rfl, rfl, rfl, trivial⟩ ?_
  refine WO_end ?_
  refine WK_seq ?_
  refine WK_region ?_
  refine WO_pure tbok 3 [(0, .slice a_z0 z0.length c_z0), (6, .int .i64 p1), (7, .int .i64 (w64 (p2 - 1)))] rfl ⟨rfl, rfl, rfl, trivial⟩ ?_
  refine WO_end ?_
  obtain ⟨x3, hx4, hm⟩ := bind_some hm
  refine WK_join (β := (List Int) × (List Ent)) (fun p => p.1 = x3 ∧ OwnE 95 1 (I1 .u64) (.slice a_z0 z0.length c_z0) p.1 p.2) (fun p => []) (fun p => St w0 m mc [p.2, LR]) ?_ (fun hk5 => ?_)
  · rintro ⟨l_4, L2⟩ ⟨hq11, hL2⟩
    subst hq11
    refine WK.sub (e' := []) trivial (WK.cls (C' := St w0 m mc [L2, LR]) (fun _ h => h) ?_)
    cases hm
    exact WK_nilS RLc_nil (fun _ h => ⟨L2, rfl, hL2, h⟩)
  · refine WK_block ?_
    refine WK_loop (S := List Int × Int × Int) (G := List Ent) (fun s => slices_reverseRangeOrdered_uint64_s1 s.1 s.2.1 s.2.2) (fun s g => [(0, .slice a_z0 z0.length c_z0), (6, .int .i64 s.2.1), (7, .int .i64 s.2.2)]) (fun s g => St w0 m mc [g, LR]) (fun s g => OwnE 95 1 (I1 .u64) (.slice a_z0 z0.length c_z0) s.1 g) FUEL (z0, p1, w64 (p2 - 1)) L_z0 x3 hx4 h_z0 ⟨rfl, rfl, rfl, trivial⟩ (fun _ h => h) ?_
    rintro ⟨l_1, s_2, s_3⟩ L1 o7 fl8 hm6 hL1 hn9 hd10
    have hm6 : slices_reverseRangeOrdered_uint64_s1 l_1 s_2 s_3 = some o7 := hm6
    unfold slices_reverseRangeOrdered_uint64_s1 at hm6
    refine WK.sub (e' := [(0, .slice a_z0 z0.length c_z0), (6, .int .i64 s_2), (7, .int .i64 s_3)]) ⟨rfl, rfl, rfl, trivial⟩ (WK.cls (C' := St w0 m mc [L1, LR]) (fun _ h => h) ?_)
    refine WK_seq ?_
    refine WK_seq ?_
    refine WK_region ?_
    refine WO_pure tbok 3 [(0, .slice a_z0 z0.length c_z0), (6, .int .i64 s_2), (7, .int .i64 s_3), (13, .bool (decide (s_2 < s_3)))] rfl ⟨rfl, rfl, rfl, rfl, trivial⟩ ?_
    refine WO_end ?_
    refine WK_cond (b := decide (s_2 < s_3)) rfl (fun hb12 => ?_) (fun hb12 => ?_)
    · have hm6 := ifT hb12 hm6
      refine WK_skip ?_
      refine WK_block ?_
      refine WK_seq ?_
      refine WK_plan 13 [0, 1, 2, 3, 4, 5, 6, 8, 9, 10] (.run [7, 11, 12] .fin) follows_ok (by kernel_rfl) St_closed ?_
      refine WO_pure tbok 6 [(0, .slice a_z0 z0.length c_z0), (6, .int .i64 s_2), (7, .int .i64 s_3), (14, .slice a_z0 z0.length c_z0), (15, .int .i64 s_2), (16, .slice a_z0 z0.length c_z0), (17, .int .i64 s_3), (18, .slice a_z0 z0.length c_z0), (19, .int .i64 s_3)] rfl ⟨rfl, rfl, rfl, rfl, rfl, rfl, rfl, rfl, rfl, trivial⟩ ?_
      obtain ⟨v_5, hy13, hm6⟩ := bind_some hm6
      obtain ⟨hc14, hy13⟩ := ix_some hy13
      refine WO_index tbok rfl rfl rfl rfl rfl rfl rfl rfl (OwnE.addr hL1) (by simpa using hc14) ?_
      refine WO_pure tbok 2 [(0, .slice a_z0 z0.length c_z0), (6, .int .i64 s_2), (7, .int .i64 s_3), (14, .slice a_z0 z0.length c_z0), (15, .int .i64 s_2), (16, .slice a_z0 z0.length c_z0), (17, .int .i64 s_3), (20, .pointer (some (eAddr (.slice a_z0 z0.length c_z0) 1 s_3.toNat))), (22, .slice a_z0 z0.length c_z0), (23, .int .i64 s_2)] rfl ⟨rfl, rfl, rfl, rfl, rfl, rfl, rfl, rfl, rfl, rfl, trivial⟩ ?_
      obtain ⟨v_6, hy15, hm6⟩ := bind_some hm6
      obtain ⟨hc16, hy15⟩ := ix_some hy15
      refine WO_index tbok rfl rfl rfl rfl rfl rfl rfl rfl (OwnE.addr hL1) (by simpa using hc16) ?_
      refine WO_plan ?_
      refine WT_run ?_
      refine WO_loadO (E := (I1 .u64)) tbok (fun _ => rfl) 0 rfl rfl rfl rfl (fun _ h => h) hL1 rfl hy13 rfl ?_
      refine WO_loadO (E := (I1 .u64)) tbok (fun _ => rfl) 0 rfl rfl rfl rfl (fun _ h => h) hL1 rfl hy15 rfl ?_
      obtain ⟨hc17, hm6⟩ := chk_some hm6
      refine WO_index tbok rfl rfl rfl rfl rfl rfl rfl rfl (OwnE.addr hL1) (by simpa using hc17) ?_
      refine WO_tree rfl ?_
      refine WT_fin ?_
      refine WO_storeO (E := (I1 .u64)) tbok (fun _ => rfl) 0 v_5 rfl rfl rfl rfl rfl hL1 rfl (by simpa using idx_lt hc17) rfl rfl rfl rfl (fun L18 hL18 => ?_)
      refine WO.cls (C' := St w0 m mc [L18, LR]) (fun _ h => h) ?_
      obtain ⟨hc19, hm6⟩ := chk_some hm6
      refine WO_index tbok rfl rfl rfl rfl rfl rfl rfl rfl (OwnE.addr hL18) (by simpa using hc19) ?_
      refine WO_storeO (E := (I1 .u64)) tbok (fun _ => rfl) 0 v_6 rfl rfl rfl rfl rfl hL18 rfl (by simpa using idx_lt hc19) rfl rfl rfl rfl (fun L20 hL20 => ?_)
      refine WO.cls (C' := St w0 m mc [L20, LR]) (fun _ h => h) ?_
      refine WO_end ?_
      refine WK_seq ?_
      refine WK_region ?_
      refine WO_pure tbok 3 [(0, .slice a_z0 z0.length c_z0), (6, .int .i64 (w64 (s_2 + 1))), (7, .int .i64 s_3)] rfl ⟨rfl, rfl, rfl, trivial⟩ ?_
      refine WO_end ?_
      refine WK_region ?_
      refine WO_pure tbok 3 [(0, .slice a_z0 z0.length c_z0), (6, .int .i64 (w64 (s_2 + 1))), (7, .int .i64 (w64 (s_3 - 1)))] rfl ⟨rfl, rfl, rfl, trivial⟩ ?_
      refine WO_end ?_
      refine WK_blk ?_
      cases hm6
      refine WK.sub ?_ (WK.cls (fun _ h => h) (hn9 _ L20 rfl hL20))
      exact ⟨rfl, rfl, rfl, trivial⟩
    · have hm6 := ifF hb12 hm6
      refine WK_exit rfl ?_
      cases hm6
      refine WK.sub ?_ (WK.cls (fun _ h => h) (hk5 (l_1, L1) ⟨(hd10 _ rfl), hL1⟩))
      exact trivial
theorem slices_partialInsertionSortOrdered_uint64_walk {w0 : World} {m mc : Mu} {LR : List Ent} {z0 : List Int} {a_z0 : Option Addr} {n_z0 c_z0 : Nat} {L_z0 : List Ent} {p1 : Int} {p2 : Int} {r : Bool × List Int} (hle0 : Le m mc) (h_z0 : OwnE 95 1 (I1 .u64) (.slice a_z0 n_z0 c_z0) z0 L_z0) (hm : slices_partialInsertionSortOrdered_uint64 z0 p1 p2 = some r) :
    SpecS Try.prog 92 [.slice a_z0 n_z0 c_z0, .int .i64 p1, .int .i64 p2] (St w0 m mc [L_z0, LR]) (fun v w => ∃ g : List Ent, v = .bool r.1 ∧ (OwnE 95 1 (I1 .u64) (.slice a_z0 n_z0 c_z0) r.2 g) ∧ St w0 m mc [g, LR] w) := by
  refine SpecS_enter Try.func92 rfl rfl rfl ?_
  refine WK.sub (e' := [(0, .slice a_z0 n_z0 c_z0), (1, .int .i64 p1), (2, .int .i64 p2)]) ⟨rfl, rfl, rfl, trivial⟩ ?_
  obtain rfl := OwnE.qlen h_z0
  refine WK.sub (e' := [(0, .slice a_z0 z0.length c_z0), (1, .int .i64 p1), (2, .int .i64 p2)]) ⟨rfl, rfl, rfl, trivial⟩ (WK.cls (C' := St w0 m mc [L_z0, LR]) (fun _ h => h) ?_)
  unfold slices_partialInsertionSortOrdered_uint64 at hm
  refine WK_seq ?_
  refine WK_region ?_
  refine WO_pure tbok 1 [(0, .slice a_z0 z0.length c_z0), (1, .int .i64 p1), (2, .int .i64 p2), (6, .bool false)] rfl ⟨rfl, rfl, rfl, rfl, trivial⟩ ?_
  refine WO_end ?_
  refine WK_seq ?_
  refine WK_region ?_
  refine WO_pure tbok 3 [(0, .slice a_z0 z0.length c_z0), (1, .int .i64 p1), (2, .int .i64 p2), (6, .bool false), (7, .int .i64 (w64 (p1 + 1)))] rfl ⟨rfl, rfl, rfl, rfl, rfl, trivial⟩ ?_
  refine WO_end ?_
  refine WK_seq ?_
  refine WK_seq ?_
  refine WK_region ?_
  refine WO_pure tbok 1 [(0, .slice a_z0 z0.length c_z0), (1, .int .i64 p1), (2, .int .i64 p2), (6, .bool false), (7, .int .i64 (w64 (p1 + 1))), (8, .int .i64 0)] rfl ⟨rfl, rfl, rfl, rfl, rfl, rfl, trivial⟩ ?_
  refine WO_end ?_
  obtain ⟨x3, hx4, hm⟩ := bind_some hm
  refine WK_join (β := (List Int) × (List Ent)) (fun p => Sum.inr p.1 = x3 ∧ OwnE 95 1 (I1 .u64) (.slice a_z0 z0.length c_z0) p.1 p.2) (fun p => [(6, .bool false)]) (fun p => St w0 m mc [p.2, LR]) ?_ (fun hk5 => ?_)
  · rintro ⟨l_4, L2⟩ ⟨hq11, hL2⟩
    subst hq11
    refine WK.sub (e' := [(6, .bool false)]) ⟨rfl, trivial⟩ (WK.cls (C' := St w0 m mc [L2, LR]) (fun _ h => h) ?_)
    refine WK_seq ?_
    refine WK_region ?_
    refine WO_pure tbok 1 [(6, .bool false)] rfl ⟨rfl, trivial⟩ ?_
    refine WO_end ?_
    cases hm
    exact WK_retS (RLc_tmp rfl RLc_nil) (fun _ h => ⟨L2, rfl, hL2, h⟩)
  · refine WK_block ?_
    refine WK_loop (S := List Int × Int × Int) (G := List Ent) (fun s => slices_partialInsertionSortOrdered_uint64_s1 p1 p2 s.1 s.2.1 s.2.2) (fun s g => [(0, .slice a_z0 z0.length c_z0), (1, .int .i64 p1), (2, .int .i64 p2), (6, .bool false), (7, .int .i64 s.2.1), (8, .int .i64 s.2.2)]) (fun s g => St w0 m mc [g, LR]) (fun s g => OwnE 95 1 (I1 .u64) (.slice a_z0 z0.length c_z0) s.1 g) FUEL (z0, w64 (p1 + 1), 0) L_z0 x3 hx4 h_z0 ⟨rfl, rfl, rfl, rfl, rfl, rfl, trivial⟩ (fun _ h => h) ?_
    rintro ⟨l_1, s_2, s_3⟩ L1 o7 fl8 hm6 hL1 hn9 hd10
    have hm6 : slices_partialInsertionSortOrdered_uint64_s1 p1 p2 l_1 s_2 s_3 = some o7 := hm6
    unfold slices_partialInsertionSortOrdered_uint64_s1 at hm6
    refine WK.sub (e' := [(0, .slice a_z0 z0.length c_z0), (1, .int .i64 p1), (2, .int .i64 p2), (6, .bool false), (7, .int .i64 s_2), (8, .int .i64 s_3)]) ⟨rfl, rfl, rfl, rfl, rfl, rfl, trivial⟩ (WK.cls (C' := St w0 m mc [L1, LR]) (fun _ h => h) ?_)
    refine WK_seq ?_
    refine WK_seq ?_
    refine WK_region ?_
    refine WO_pure tbok 2 [(0, .slice a_z0 z0.length c_z0), (1, .int .i64 p1), (2, .int .i64 p2), (6, .bool false), (7, .int .i64 s_2), (8, .int .i64 s_3), (14, .bool (decide (s_3 < 5)))] rfl ⟨rfl, rfl, rfl, rfl, rfl, rfl, rfl, trivial⟩ ?_
    refine WO_end ?_
    refine WK_cond (b := decide (s_3 < 5)) rfl (fun hb12 => ?_) (fun hb12 => ?_)
    · have hm6 := ifT hb12 hm6
      refine WK_skip ?_
      refine WK_seq ?_
      refine WK_block ?_
      refine WK_seq ?_
      obtain ⟨x13, hx14, hm6⟩ := bind_some hm6
      refine WK_join (β := Int × Unit) (fun p => p.1 = x13) (fun p => [(0, .slice a_z0 z0.length c_z0), (1, .int .i64 p1), (2, .int .i64 p2), (6, .bool false), (7, .int .i64 p.1), (8, .int .i64 s_3)]) (fun p => St w0 m mc [L1, LR]) ?_ (fun hk15 => ?_)
      · rintro ⟨s_6, ⟨⟩⟩ hq21
        subst hq21
        refine WK.sub (e' := [(0, .slice a_z0 z0.length c_z0), (1, .int .i64 p1), (2, .int .i64 p2), (6, .bool false), (7, .int .i64 s_6), (8, .int .i64 s_3)]) ⟨rfl, rfl, rfl, rfl, rfl, rfl, trivial⟩ (WK.cls (C' := St w0 m mc [L1, LR]) (fun _ h => h) ?_)
        refine WK_seq ?_
        refine WK_seq ?_
        refine WK_region ?_
        refine WO_pure tbok 3 [(0, .slice a_z0 z0.length c_z0), (1, .int .i64 p1), (2, .int .i64 p2), (6, .bool false), (7, .int .i64 s_6), (8, .int .i64 s_3), (37, .bool (s_6 == p2))] rfl ⟨rfl, rfl, rfl, rfl, rfl, rfl, rfl, trivial⟩ ?_
        refine WO_end ?_
        refine WK_cond (b := s_6 == p2) rfl (fun hb22 => ?_) (fun hb22 => ?_)
        · have hm6 := ifT hb22 hm6
          refine WK_seq ?_
          refine WK_region ?_
          refine WO_pure tbok 1 [(0, .slice a_z0 z0.length c_z0), (1, .int .i64 p1), (2, .int .i64 p2), (6, .bool true), (7, .int .i64 s_6), (8, .int .i64 s_3)] rfl ⟨rfl, rfl, rfl, rfl, rfl, rfl, trivial⟩ ?_
          refine WO_end ?_
          cases hm6
          have hq := hd10 _ rfl
          subst hq
          have hm : some _ = some _ := hm
          cases hm
          exact WK_retS (RLc_tmp rfl RLc_nil) (fun _ h => ⟨L1, rfl, hL1, h⟩)
        · have hm6 := ifF hb22 hm6
          refine WK_skip ?_
          refine WK_seq ?_
          refine WK_seq ?_
          refine WK_region ?_
          refine WO_pure tbok 4 [(0, .slice a_z0 z0.length c_z0), (1, .int .i64 p1), (2, .int .i64 p2), (6, .bool false), (7, .int .i64 s_6), (8, .int .i64 s_3), (41, .bool (decide ((w64 (p2 - p1)) < 50)))] rfl ⟨rfl, rfl, rfl, rfl, rfl, rfl, rfl, trivial⟩ ?_
          refine WO_end ?_
          refine WK_cond (b := decide ((w64 (p2 - p1)) < 50)) rfl (fun hb23 => ?_) (fun hb23 => ?_)
          · have hm6 := ifT hb23 hm6
            refine WK_seq ?_
            refine WK_region ?_
            refine WO_pure tbok 1 [(0, .slice a_z0 z0.length c_z0), (1, .int .i64 p1), (2, .int .i64 p2), (6, .bool false), (7, .int .i64 s_6), (8, .int .i64 s_3)] rfl ⟨rfl, rfl, rfl, rfl, rfl, rfl, trivial⟩ ?_
            refine WO_end ?_
            cases hm6
            have hq := hd10 _ rfl
            subst hq
            have hm : some _ = some _ := hm
            cases hm
            exact WK_retS (RLc_tmp rfl RLc_nil) (fun _ h => ⟨L1, rfl, hL1, h⟩)
          · have hm6 := ifF hb23 hm6
            refine WK_skip ?_
            refine WK_seq ?_
            refine WK_plan 15 [0, 1, 2, 3, 4, 5, 6, 7, 8, 10, 11, 12] (.run [9, 13, 14] .fin) follows_ok (by kernel_rfl) St_closed ?_
            refine WO_pure tbok 8 [(0, .slice a_z0 z0.length c_z0), (1, .int .i64 p1), (2, .int .i64 p2), (6, .bool false), (7, .int .i64 s_6), (8, .int .i64 s_3), (42, .slice a_z0 z0.length c_z0), (43, .int .i64 s_6), (44, .slice a_z0 z0.length c_z0), (46, .int .i64 (w64 (s_6 - 1))), (47, .slice a_z0 z0.length c_z0), (49, .int .i64 (w64 (s_6 - 1)))] rfl ⟨rfl, rfl, rfl, rfl, rfl, rfl, rfl, rfl, rfl, rfl, rfl, rfl, trivial⟩ ?_
            obtain ⟨v_7, hy24, hm6⟩ := bind_some hm6
            obtain ⟨hc25, hy24⟩ := ix_some hy24
            refine WO_index tbok rfl rfl rfl rfl rfl rfl rfl rfl (OwnE.addr hL1) (by simpa using hc25) ?_
            refine WO_pure tbok 2 [(0, .slice a_z0 z0.length c_z0), (1, .int .i64 p1), (2, .int .i64 p2), (6, .bool false), (7, .int .i64 s_6), (8, .int .i64 s_3), (42, .slice a_z0 z0.length c_z0), (43, .int .i64 s_6), (44, .slice a_z0 z0.length c_z0), (46, .int .i64 (w64 (s_6 - 1))), (50, .pointer (some (eAddr (.slice a_z0 z0.length c_z0) 1 (w64 (s_6 - 1)).toNat))), (52, .slice a_z0 z0.length c_z0), (53, .int .i64 s_6)] rfl ⟨rfl, rfl, rfl, rfl, rfl, rfl, rfl, rfl, rfl, rfl, rfl, rfl, rfl, trivial⟩ ?_
            obtain ⟨v_8, hy26, hm6⟩ := bind_some hm6
            obtain ⟨hc27, hy26⟩ := ix_some hy26
            refine WO_index tbok rfl rfl rfl rfl rfl rfl rfl rfl (OwnE.addr hL1) (by simpa using hc27) ?_
            refine WO_plan ?_
            refine WT_run ?_
            refine WO_loadO (E := (I1 .u64)) tbok (fun _ => rfl) 0 rfl rfl rfl rfl (fun _ h => h) hL1 rfl hy24 rfl ?_
            refine WO_loadO (E := (I1 .u64)) tbok (fun _ => rfl) 0 rfl rfl rfl rfl (fun _ h => h) hL1 rfl hy26 rfl ?_
            obtain ⟨hc28, hm6⟩ := chk_some hm6
            refine WO_index tbok rfl rfl rfl rfl rfl rfl rfl rfl (OwnE.addr hL1) (by simpa using hc28) ?_
            refine WO_tree rfl ?_
            refine WT_fin ?_
            refine WO_storeO (E := (I1 .u64)) tbok (fun _ => rfl) 0 v_7 rfl rfl rfl rfl rfl hL1 rfl (by simpa using idx_lt hc28) rfl rfl rfl rfl (fun L29 hL29 => ?_)
            refine WO.cls (C' := St w0 m mc [L29, LR]) (fun _ h => h) ?_
            obtain ⟨hc30, hm6⟩ := chk_some hm6
            refine WO_index tbok rfl rfl rfl rfl rfl rfl rfl rfl (OwnE.addr hL29) (by simpa using hc30) ?_
            refine WO_storeO (E := (I1 .u64)) tbok (fun _ => rfl) 0 v_8 rfl rfl rfl rfl rfl hL29 rfl (by simpa using idx_lt hc30) rfl rfl rfl rfl (fun L31 hL31 => ?_)
            refine WO.cls (C' := St w0 m mc [L31, LR]) (fun _ h => h) ?_
            refine WO_end ?_
            refine WK_seq ?_
            refine WK_seq ?_
            refine WK_region ?_
            refine WO_pure tbok 4 [(0, .slice a_z0 z0.length c_z0), (1, .int .i64 p1), (2, .int .i64 p2), (6, .bool false), (7, .int .i64 s_6), (8, .int .i64 s_3), (61, .bool (decide (2 ≤ (w64 (s_6 - p1)))))] rfl ⟨rfl, rfl, rfl, rfl, rfl, rfl, rfl, trivial⟩ ?_
            refine WO_end ?_
            obtain ⟨l_9, hx33, hm6⟩ := bind_some hm6
            refine WK_join (β := List Ent) (fun p => OwnE 95 1 (I1 .u64) (.slice a_z0 z0.length c_z0) l_9 p) (fun p => [(0, .slice a_z0 z0.length c_z0), (1, .int .i64 p1), (2, .int .i64 p2), (6, .bool false), (7, .int .i64 s_6), (8, .int .i64 s_3)]) (fun p => St w0 m mc [p, LR]) ?_ (fun hk34 => ?_)
            · rintro L32 hL32
              refine WK.sub (e' := [(0, .slice a_z0 z0.length c_z0), (1, .int .i64 p1), (2, .int .i64 p2), (6, .bool false), (7, .int .i64 s_6), (8, .int .i64 s_3)]) ⟨rfl, rfl, rfl, rfl, rfl, rfl, trivial⟩ (WK.cls (C' := St w0 m mc [L32, LR]) (fun _ h => h) ?_)
              refine WK_seq ?_
              refine WK_region ?_
              refine WO_pure tbok 4 [(0, .slice a_z0 z0.length c_z0), (1, .int .i64 p1), (2, .int .i64 p2), (6, .bool false), (7, .int .i64 s_6), (8, .int .i64 s_3), (98, .bool (decide (2 ≤ (w64 (p2 - s_6)))))] rfl ⟨rfl, rfl, rfl, rfl, rfl, rfl, rfl, trivial⟩ ?_
              refine WO_end ?_
              obtain ⟨l_10, hx36, hm6⟩ := bind_some hm6
              refine WK_join (β := List Ent) (fun p => OwnE 95 1 (I1 .u64) (.slice a_z0 z0.length c_z0) l_10 p) (fun p => [(0, .slice a_z0 z0.length c_z0), (1, .int .i64 p1), (2, .int .i64 p2), (6, .bool false), (7, .int .i64 s_6), (8, .int .i64 s_3)]) (fun p => St w0 m mc [p, LR]) ?_ (fun hk37 => ?_)
              · rintro L35 hL35
                refine WK.sub (e' := [(0, .slice a_z0 z0.length c_z0), (1, .int .i64 p1), (2, .int .i64 p2), (6, .bool false), (7, .int .i64 s_6), (8, .int .i64 s_3)]) ⟨rfl, rfl, rfl, rfl, rfl, rfl, trivial⟩ (WK.cls (C' := St w0 m mc [L35, LR]) (fun _ h => h) ?_)
                refine WK_blk ?_
                refine WK_region ?_
                refine WO_pure tbok 3 [(0, .slice a_z0 z0.length c_z0), (1, .int .i64 p1), (2, .int .i64 p2), (6, .bool false), (7, .int .i64 s_6), (8, .int .i64 (w64 (s_3 + 1)))] rfl ⟨rfl, rfl, rfl, rfl, rfl, rfl, trivial⟩ ?_
                refine WO_end ?_
                cases hm6
                refine WK.sub ?_ (WK.cls (fun _ h => h) (hn9 _ L35 rfl hL35))
                exact ⟨rfl, rfl, rfl, rfl, rfl, rfl, trivial⟩
              · refine WK_cond (b := decide (2 ≤ (w64 (p2 - s_6)))) rfl (fun hb38 => ?_) (fun hb38 => ?_)
                · have hx36 := ifT hb38 hx36
                  refine WK_seq ?_
                  refine WK_region ?_
                  refine WO_pure tbok 3 [(0, .slice a_z0 z0.length c_z0), (1, .int .i64 p1), (2, .int .i64 p2), (6, .bool false), (7, .int .i64 s_6), (8, .int .i64 s_3), (10, .int .i64 (w64 (s_6 + 1)))] rfl ⟨rfl, rfl, rfl, rfl, rfl, rfl, rfl, trivial⟩ ?_
                  refine WO_end ?_
                  obtain ⟨x41, hx42, hx36⟩ := bind_some hx36
                  refine WK_join (β := (List Int) × (List Ent)) (fun p => p.1 = x41 ∧ OwnE 95 1 (I1 .u64) (.slice a_z0 z0.length c_z0) p.1 p.2) (fun p => [(0, .slice a_z0 z0.length c_z0), (1, .int .i64 p1), (2, .int .i64 p2), (6, .bool false), (7, .int .i64 s_6), (8, .int .i64 s_3)]) (fun p => St w0 m mc [p.2, LR]) ?_ (fun hk43 => ?_)
                  · rintro ⟨l_13, L40⟩ ⟨hq49, hL40⟩
                    subst hq49
                    refine WK.sub (e' := [(0, .slice a_z0 z0.length c_z0), (1, .int .i64 p1), (2, .int .i64 p2), (6, .bool false), (7, .int .i64 s_6), (8, .int .i64 s_3)]) ⟨rfl, rfl, rfl, rfl, rfl, rfl, trivial⟩ (WK.cls (C' := St w0 m mc [L40, LR]) (fun _ h => h) ?_)
                    cases hx36
                    refine WK.sub ?_ (WK.cls (fun _ h => h) (hk37 L40 hL40))
                    exact ⟨rfl, rfl, rfl, rfl, rfl, rfl, trivial⟩
                  · refine WK_block ?_
                    refine WK_loop (S := List Int × Int) (G := List Ent) (fun s => slices_partialInsertionSortOrdered_uint64_s3 p2 s.1 s.2) (fun s g => [(0, .slice a_z0 z0.length c_z0), (1, .int .i64 p1), (2, .int .i64 p2), (6, .bool false), (7, .int .i64 s_6), (8, .int .i64 s_3), (10, .int .i64 s.2)]) (fun s g => St w0 m mc [g, LR]) (fun s g => OwnE 95 1 (I1 .u64) (.slice a_z0 z0.length c_z0) s.1 g) FUEL (l_9, w64 (s_6 + 1)) L32 x41 hx42 hL32 ⟨rfl, rfl, rfl, rfl, rfl, rfl, rfl, trivial⟩ (fun _ h => h) ?_
                    rintro ⟨l_11, s_12⟩ L39 o45 fl46 hm44 hL39 hn47 hd48
                    have hm44 : slices_partialInsertionSortOrdered_uint64_s3 p2 l_11 s_12 = some o45 := hm44
                    unfold slices_partialInsertionSortOrdered_uint64_s3 at hm44
                    refine WK.sub (e' := [(0, .slice a_z0 z0.length c_z0), (1, .int .i64 p1), (2, .int .i64 p2), (6, .bool false), (7, .int .i64 s_6), (8, .int .i64 s_3), (10, .int .i64 s_12)]) ⟨rfl, rfl, rfl, rfl, rfl, rfl, rfl, trivial⟩ (WK.cls (C' := St w0 m mc [L39, LR]) (fun _ h => h) ?_)
                    refine WK_seq ?_
                    refine WK_seq ?_
                    refine WK_region ?_
                    refine WO_pure tbok 3 [(0, .slice a_z0 z0.length c_z0), (1, .int .i64 p1), (2, .int .i64 p2), (6, .bool false), (7, .int .i64 s_6), (8, .int .i64 s_3), (10, .int .i64 s_12), (103, .bool (decide (s_12 < p2)))] rfl ⟨rfl, rfl, rfl, rfl, rfl, rfl, rfl, rfl, trivial⟩ ?_
                    refine WO_end ?_
                    refine WK_cond (b := decide (s_12 < p2)) rfl (fun hb50 => ?_) (fun hb50 => ?_)
                    · have hm44 := ifT hb50 hm44
                      refine WK_skip ?_
                      refine WK_seq ?_
                      refine WK_block ?_
                      refine WK_seq ?_
                      refine WK_seq ?_
                      refine WK_draw 11 [0, 1, 2, 3, 4, 5, 6, 7, 8, 9, 10] follows_ok (by kernel_rfl) St_closed ?_
                      refine WO_pure tbok 2 [(0, .slice a_z0 z0.length c_z0), (1, .int .i64 p1), (2, .int .i64 p2), (6, .bool false), (7, .int .i64 s_6), (8, .int .i64 s_3), (10, .int .i64 s_12), (106, .slice a_z0 z0.length c_z0), (107, .int .i64 s_12)] rfl ⟨rfl, rfl, rfl, rfl, rfl, rfl, rfl, rfl, rfl, trivial⟩ ?_
                      obtain ⟨v_14, hy51, hm44⟩ := bind_some hm44
                      obtain ⟨hc52, hy51⟩ := ix_some hy51
                      refine WO_index tbok rfl rfl rfl rfl rfl rfl rfl rfl (OwnE.addr hL39) (by simpa using hc52) ?_
                      refine WO_loadO (E := (I1 .u64)) tbok (fun _ => rfl) 0 rfl rfl rfl rfl (fun _ h => h) hL39 rfl hy51 rfl ?_
                      refine WO_pure tbok 3 [(0, .slice a_z0 z0.length c_z0), (1, .int .i64 p1), (2, .int .i64 p2), (6, .bool false), (7, .int .i64 s_6), (8, .int .i64 s_3), (10, .int .i64 s_12), (109, .int .u64 v_14), (110, .slice a_z0 z0.length c_z0), (112, .int .i64 (w64 (s_12 - 1)))] rfl ⟨rfl, rfl, rfl, rfl, rfl, rfl, rfl, rfl, rfl, rfl, trivial⟩ ?_
                      obtain ⟨v_15, hy53, hm44⟩ := bind_some hm44
                      obtain ⟨hc54, hy53⟩ := ix_some hy53
                      refine WO_index tbok rfl rfl rfl rfl rfl rfl rfl rfl (OwnE.addr hL39) (by simpa using hc54) ?_
                      refine WO_loadO (E := (I1 .u64)) tbok (fun _ => rfl) 0 rfl rfl rfl rfl (fun _ h => h) hL39 rfl hy53 rfl ?_
                      obtain ⟨y_16, hc55, hm44⟩ := bind_some hm44
                      refine WO_call0 (.bool y_16) rfl rfl St_closed rfl rfl rfl rfl St_closed ⟨93, #[], #[], rfl, callable_93, fun w hw => ⟨_, hw.sat, cmp_Less_uint64_walk hc55⟩⟩ ?_
                      refine WO_pure tbok 1 [(0, .slice a_z0 z0.length c_z0), (1, .int .i64 p1), (2, .int .i64 p2), (6, .bool false), (7, .int .i64 s_6), (8, .int .i64 s_3), (10, .int .i64 s_12), (116, .bool (!y_16))] rfl ⟨rfl, rfl, rfl, rfl, rfl, rfl, rfl, rfl, trivial⟩ ?_
                      refine WO_tail ?_
                      refine WO_end ?_
                      refine WK_cond (b := !y_16) rfl (fun hb56 => ?_) (fun hb56 => ?_)
                      · have hm44 := ifT hb56 hm44
                        refine WK_exit rfl ?_
                        cases hm44
                        refine WK.sub ?_ (WK.cls (fun _ h => h) (hk43 (l_11, L39) ⟨(hd48 _ rfl), hL39⟩))
                        exact ⟨rfl, rfl, rfl, rfl, rfl, rfl, trivial⟩
                      · have hm44 := ifF hb56 hm44
                        refine WK_skip ?_
                        refine WK_plan 15 [0, 1, 2, 3, 4, 5, 6, 7, 8, 10, 11, 12] (.run [9, 13, 14] .fin) follows_ok (by kernel_rfl) St_closed ?_
                        refine WO_pure tbok 8 [(0, .slice a_z0 z0.length c_z0), (1, .int .i64 p1), (2, .int .i64 p2), (6, .bool false), (7, .int .i64 s_6), (8, .int .i64 s_3), (10, .int .i64 s_12), (117, .slice a_z0 z0.length c_z0), (118, .int .i64 s_12), (119, .slice a_z0 z0.length c_z0), (121, .int .i64 (w64 (s_12 - 1))), (122, .slice a_z0 z0.length c_z0), (124, .int .i64 (w64 (s_12 - 1)))] rfl ⟨rfl, rfl, rfl, rfl, rfl, rfl, rfl, rfl, rfl, rfl, rfl, rfl, rfl, trivial⟩ ?_
                        obtain ⟨v_17, hy57, hm44⟩ := bind_some hm44
                        obtain ⟨hc58, hy57⟩ := ix_some hy57
                        refine WO_index tbok rfl rfl rfl rfl rfl rfl rfl rfl (OwnE.addr hL39) (by simpa using hc58) ?_
                        refine WO_pure tbok 2 [(0, .slice a_z0 z0.length c_z0), (1, .int .i64 p1), (2, .int .i64 p2), (6, .bool false), (7, .int .i64 s_6), (8, .int .i64 s_3), (10, .int .i64 s_12), (117, .slice a_z0 z0.length c_z0), (118, .int .i64 s_12), (119, .slice a_z0 z0.length c_z0), (121, .int .i64 (w64 (s_12 - 1))), (125, .pointer (some (eAddr (.slice a_z0 z0.length c_z0) 1 (w64 (s_12 - 1)).toNat))), (127, .slice a_z0 z0.length c_z0), (128, .int .i64 s_12)] rfl ⟨rfl, rfl, rfl, rfl, rfl, rfl, rfl, rfl, rfl, rfl, rfl, rfl, rfl, rfl, trivial⟩ ?_
                        obtain ⟨v_18, hy59, hm44⟩ := bind_some hm44
                        obtain ⟨hc60, hy59⟩ := ix_some hy59
                        refine WO_index tbok rfl rfl rfl rfl rfl rfl rfl rfl (OwnE.addr hL39) (by simpa using hc60) ?_
                        refine WO_plan ?_
                        refine WT_run ?_
                        refine WO_loadO (E := (I1 .u64)) tbok (fun _ => rfl) 0 rfl rfl rfl rfl (fun _ h => h) hL39 rfl hy57 rfl ?_
                        refine WO_loadO (E := (I1 .u64)) tbok (fun _ => rfl) 0 rfl rfl rfl rfl (fun _ h => h) hL39 rfl hy59 rfl ?_
                        obtain ⟨hc61, hm44⟩ := chk_some hm44
                        refine WO_index tbok rfl rfl rfl rfl rfl rfl rfl rfl (OwnE.addr hL39) (by simpa using hc61) ?_
                        refine WO_tree rfl ?_
                        refine WT_fin ?_
                        refine WO_storeO (E := (I1 .u64)) tbok (fun _ => rfl) 0 v_17 rfl rfl rfl rfl rfl hL39 rfl (by simpa using idx_lt hc61) rfl rfl rfl rfl (fun L62 hL62 => ?_)
                        refine WO.cls (C' := St w0 m mc [L62, LR]) (fun _ h => h) ?_
                        obtain ⟨hc63, hm44⟩ := chk_some hm44
                        refine WO_index tbok rfl rfl rfl rfl rfl rfl rfl rfl (OwnE.addr hL62) (by simpa using hc63) ?_
                        refine WO_storeO (E := (I1 .u64)) tbok (fun _ => rfl) 0 v_18 rfl rfl rfl rfl rfl hL62 rfl (by simpa using idx_lt hc63) rfl rfl rfl rfl (fun L64 hL64 => ?_)
                        refine WO.cls (C' := St w0 m mc [L64, LR]) (fun _ h => h) ?_
                        refine WO_end ?_
                        refine WK_blk ?_
                        refine WK_region ?_
                        refine WO_pure tbok 3 [(0, .slice a_z0 z0.length c_z0), (1, .int .i64 p1), (2, .int .i64 p2), (6, .bool false), (7, .int .i64 s_6), (8, .int .i64 s_3), (10, .int .i64 (w64 (s_12 + 1)))] rfl ⟨rfl, rfl, rfl, rfl, rfl, rfl, rfl, trivial⟩ ?_
                        refine WO_end ?_
                        cases hm44
                        refine WK.sub ?_ (WK.cls (fun _ h => h) (hn47 _ L64 rfl hL64))
                        exact ⟨rfl, rfl, rfl, rfl, rfl, rfl, rfl, trivial⟩
                    · have hm44 := ifF hb50 hm44
                      refine WK_exit rfl ?_
                      cases hm44
                      refine WK.sub ?_ (WK.cls (fun _ h => h) (hk43 (l_11, L39) ⟨(hd48 _ rfl), hL39⟩))
                      exact ⟨rfl, rfl, rfl, rfl, rfl, rfl, trivial⟩
                · have hx36 := ifF hb38 hx36
                  refine WK_skip ?_
                  cases hx36
                  refine WK.sub ?_ (WK.cls (fun _ h => h) (hk37 L32 hL32))
                  exact ⟨rfl, rfl, rfl, rfl, rfl, rfl, trivial⟩
            · refine WK_cond (b := decide (2 ≤ (w64 (s_6 - p1)))) rfl (fun hb65 => ?_) (fun hb65 => ?_)
              · have hx33 := ifT hb65 hx33
                refine WK_seq ?_
                refine WK_region ?_
                refine WO_pure tbok 3 [(0, .slice a_z0 z0.length c_z0), (1, .int .i64 p1), (2, .int .i64 p2), (6, .bool false), (7, .int .i64 s_6), (8, .int .i64 s_3), (9, .int .i64 (w64 (s_6 - 1)))] rfl ⟨rfl, rfl, rfl, rfl, rfl, rfl, rfl, trivial⟩ ?_
                refine WO_end ?_
                obtain ⟨x68, hx69, hx33⟩ := bind_some hx33
                refine WK_join (β := (List Int) × (List Ent)) (fun p => p.1 = x68 ∧ OwnE 95 1 (I1 .u64) (.slice a_z0 z0.length c_z0) p.1 p.2) (fun p => [(0, .slice a_z0 z0.length c_z0), (1, .int .i64 p1), (2, .int .i64 p2), (6, .bool false), (7, .int .i64 s_6), (8, .int .i64 s_3)]) (fun p => St w0 m mc [p.2, LR]) ?_ (fun hk70 => ?_)
                · rintro ⟨l_21, L67⟩ ⟨hq76, hL67⟩
                  subst hq76
                  refine WK.sub (e' := [(0, .slice a_z0 z0.length c_z0), (1, .int .i64 p1), (2, .int .i64 p2), (6, .bool false), (7, .int .i64 s_6), (8, .int .i64 s_3)]) ⟨rfl, rfl, rfl, rfl, rfl, rfl, trivial⟩ (WK.cls (C' := St w0 m mc [L67, LR]) (fun _ h => h) ?_)
                  cases hx33
                  refine WK.sub ?_ (WK.cls (fun _ h => h) (hk34 L67 hL67))
                  exact ⟨rfl, rfl, rfl, rfl, rfl, rfl, trivial⟩
                · refine WK_block ?_
                  refine WK_loop (S := List Int × Int) (G := List Ent) (fun s => slices_partialInsertionSortOrdered_uint64_s4 s.1 s.2) (fun s g => [(0, .slice a_z0 z0.length c_z0), (1, .int .i64 p1), (2, .int .i64 p2), (6, .bool false), (7, .int .i64 s_6), (8, .int .i64 s_3), (9, .int .i64 s.2)]) (fun s g => St w0 m mc [g, LR]) (fun s g => OwnE 95 1 (I1 .u64) (.slice a_z0 z0.length c_z0) s.1 g) FUEL (((l_1.set s_6.toNat v_7).set (w64 (s_6 - 1)).toNat v_8), w64 (s_6 - 1)) L31 x68 hx69 hL31 ⟨rfl, rfl, rfl, rfl, rfl, rfl, rfl, trivial⟩ (fun _ h => h) ?_
                  rintro ⟨l_19, s_20⟩ L66 o72 fl73 hm71 hL66 hn74 hd75
                  have hm71 : slices_partialInsertionSortOrdered_uint64_s4 l_19 s_20 = some o72 := hm71
                  unfold slices_partialInsertionSortOrdered_uint64_s4 at hm71
                  refine WK.sub (e' := [(0, .slice a_z0 z0.length c_z0), (1, .int .i64 p1), (2, .int .i64 p2), (6, .bool false), (7, .int .i64 s_6), (8, .int .i64 s_3), (9, .int .i64 s_20)]) ⟨rfl, rfl, rfl, rfl, rfl, rfl, rfl, trivial⟩ (WK.cls (C' := St w0 m mc [L66, LR]) (fun _ h => h) ?_)
                  refine WK_seq ?_
                  refine WK_seq ?_
                  refine WK_region ?_
                  refine WO_pure tbok 2 [(0, .slice a_z0 z0.length c_z0), (1, .int .i64 p1), (2, .int .i64 p2), (6, .bool false), (7, .int .i64 s_6), (8, .int .i64 s_3), (9, .int .i64 s_20), (65, .bool (decide (1 ≤ s_20)))] rfl ⟨rfl, rfl, rfl, rfl, rfl, rfl, rfl, rfl, trivial⟩ ?_
                  refine WO_end ?_
                  refine WK_cond (b := decide (1 ≤ s_20)) rfl (fun hb77 => ?_) (fun hb77 => ?_)
                  · have hm71 := ifT hb77 hm71
                    refine WK_skip ?_
                    refine WK_seq ?_
                    refine WK_block ?_
                    refine WK_seq ?_
                    refine WK_seq ?_
                    refine WK_draw 11 [0, 1, 2, 3, 4, 5, 6, 7, 8, 9, 10] follows_ok (by kernel_rfl) St_closed ?_
                    refine WO_pure tbok 2 [(0, .slice a_z0 z0.length c_z0), (1, .int .i64 p1), (2, .int .i64 p2), (6, .bool false), (7, .int .i64 s_6), (8, .int .i64 s_3), (9, .int .i64 s_20), (68, .slice a_z0 z0.length c_z0), (69, .int .i64 s_20)] rfl ⟨rfl, rfl, rfl, rfl, rfl, rfl, rfl, rfl, rfl, trivial⟩ ?_
                    obtain ⟨v_22, hy78, hm71⟩ := bind_some hm71
                    obtain ⟨hc79, hy78⟩ := ix_some hy78
                    refine WO_index tbok rfl rfl rfl rfl rfl rfl rfl rfl (OwnE.addr hL66) (by simpa using hc79) ?_
                    refine WO_loadO (E := (I1 .u64)) tbok (fun _ => rfl) 0 rfl rfl rfl rfl (fun _ h => h) hL66 rfl hy78 rfl ?_
                    refine WO_pure tbok 3 [(0, .slice a_z0 z0.length c_z0), (1, .int .i64 p1), (2, .int .i64 p2), (6, .bool false), (7, .int .i64 s_6), (8, .int .i64 s_3), (9, .int .i64 s_20), (71, .int .u64 v_22), (72, .slice a_z0 z0.length c_z0), (74, .int .i64 (w64 (s_20 - 1)))] rfl ⟨rfl, rfl, rfl, rfl, rfl, rfl, rfl, rfl, rfl, rfl, trivial⟩ ?_
                    obtain ⟨v_23, hy80, hm71⟩ := bind_some hm71
                    obtain ⟨hc81, hy80⟩ := ix_some hy80
                    refine WO_index tbok rfl rfl rfl rfl rfl rfl rfl rfl (OwnE.addr hL66) (by simpa using hc81) ?_
                    refine WO_loadO (E := (I1 .u64)) tbok (fun _ => rfl) 0 rfl rfl rfl rfl (fun _ h => h) hL66 rfl hy80 rfl ?_
                    obtain ⟨y_24, hc82, hm71⟩ := bind_some hm71
                    refine WO_call0 (.bool y_24) rfl rfl St_closed rfl rfl rfl rfl St_closed ⟨93, #[], #[], rfl, callable_93, fun w hw => ⟨_, hw.sat, cmp_Less_uint64_walk hc82⟩⟩ ?_
                    refine WO_pure tbok 1 [(0, .slice a_z0 z0.length c_z0), (1, .int .i64 p1), (2, .int .i64 p2), (6, .bool false), (7, .int .i64 s_6), (8, .int .i64 s_3), (9, .int .i64 s_20), (78, .bool (!y_24))] rfl ⟨rfl, rfl, rfl, rfl, rfl, rfl, rfl, rfl, trivial⟩ ?_
                    refine WO_tail ?_
                    refine WO_end ?_
                    refine WK_cond (b := !y_24) rfl (fun hb83 => ?_) (fun hb83 => ?_)
                    · have hm71 := ifT hb83 hm71
                      refine WK_exit rfl ?_
                      cases hm71
                      refine WK.sub ?_ (WK.cls (fun _ h => h) (hk70 (l_19, L66) ⟨(hd75 _ rfl), hL66⟩))
                      exact ⟨rfl, rfl, rfl, rfl, rfl, rfl, trivial⟩
                    · have hm71 := ifF hb83 hm71
                      refine WK_skip ?_
                      refine WK_plan 15 [0, 1, 2, 3, 4, 5, 6, 7, 8, 10, 11, 12] (.run [9, 13, 14] .fin) follows_ok (by kernel_rfl) St_closed ?_
                      refine WO_pure tbok 8 [(0, .slice a_z0 z0.length c_z0), (1, .int .i64 p1), (2, .int .i64 p2), (6, .bool false), (7, .int .i64 s_6), (8, .int .i64 s_3), (9, .int .i64 s_20), (79, .slice a_z0 z0.length c_z0), (80, .int .i64 s_20), (81, .slice a_z0 z0.length c_z0), (83, .int .i64 (w64 (s_20 - 1))), (84, .slice a_z0 z0.length c_z0), (86, .int .i64 (w64 (s_20 - 1)))] rfl ⟨rfl, rfl, rfl, rfl, rfl, rfl, rfl, rfl, rfl, rfl, rfl, rfl, rfl, trivial⟩ ?_
                      obtain ⟨v_25, hy84, hm71⟩ := bind_some hm71
                      obtain ⟨hc85, hy84⟩ := ix_some hy84
                      refine WO_index tbok rfl rfl rfl rfl rfl rfl rfl rfl (OwnE.addr hL66) (by simpa using hc85) ?_
                      refine WO_pure tbok 2 [(0, .slice a_z0 z0.length c_z0), (1, .int .i64 p1), (2, .int .i64 p2), (6, .bool false), (7, .int .i64 s_6), (8, .int .i64 s_3), (9, .int .i64 s_20), (79, .slice a_z0 z0.length c_z0), (80, .int .i64 s_20), (81, .slice a_z0 z0.length c_z0), (83, .int .i64 (w64 (s_20 - 1))), (87, .pointer (some (eAddr (.slice a_z0 z0.length c_z0) 1 (w64 (s_20 - 1)).toNat))), (89, .slice a_z0 z0.length c_z0), (90, .int .i64 s_20)] rfl ⟨rfl, rfl, rfl, rfl, rfl, rfl, rfl, rfl, rfl, rfl, rfl, rfl, rfl, rfl, trivial⟩ ?_
                      obtain ⟨v_26, hy86, hm71⟩ := bind_some hm71
                      obtain ⟨hc87, hy86⟩ := ix_some hy86
                      refine WO_index tbok rfl rfl rfl rfl rfl rfl rfl rfl (OwnE.addr hL66) (by simpa using hc87) ?_
                      refine WO_plan ?_
                      refine WT_run ?_
                      refine WO_loadO (E := (I1 .u64)) tbok (fun _ => rfl) 0 rfl rfl rfl rfl (fun _ h => h) hL66 rfl hy84 rfl ?_
                      refine WO_loadO (E := (I1 .u64)) tbok (fun _ => rfl) 0 rfl rfl rfl rfl (fun _ h => h) hL66 rfl hy86 rfl ?_
                      obtain ⟨hc88, hm71⟩ := chk_some hm71
                      refine WO_index tbok rfl rfl rfl rfl rfl rfl rfl rfl (OwnE.addr hL66) (by simpa using hc88) ?_
                      refine WO_tree rfl ?_
                      refine WT_fin ?_
                      refine WO_storeO (E := (I1 .u64)) tbok (fun _ => rfl) 0 v_25 rfl rfl rfl rfl rfl hL66 rfl (by simpa using idx_lt hc88) rfl rfl rfl rfl (fun L89 hL89 => ?_)
                      refine WO.cls (C' := St w0 m mc [L89, LR]) (fun _ h => h) ?_
                      obtain ⟨hc90, hm71⟩ := chk_some hm71
                      refine WO_index tbok rfl rfl rfl rfl rfl rfl rfl rfl (OwnE.addr hL89) (by simpa using hc90) ?_
                      refine WO_storeO (E := (I1 .u64)) tbok (fun _ => rfl) 0 v_26 rfl rfl rfl rfl rfl hL89 rfl (by simpa using idx_lt hc90) rfl rfl rfl rfl (fun L91 hL91 => ?_)
                      refine WO.cls (C' := St w0 m mc [L91, LR]) (fun _ h => h) ?_
                      refine WO_end ?_
                      refine WK_blk ?_
                      refine WK_region ?_
                      refine WO_pure tbok 3 [(0, .slice a_z0 z0.length c_z0), (1, .int .i64 p1), (2, .int .i64 p2), (6, .bool false), (7, .int .i64 s_6), (8, .int .i64 s_3), (9, .int .i64 (w64 (s_20 - 1)))] rfl ⟨rfl, rfl, rfl, rfl, rfl, rfl, rfl, trivial⟩ ?_
                      refine WO_end ?_
                      cases hm71
                      refine WK.sub ?_ (WK.cls (fun _ h => h) (hn74 _ L91 rfl hL91))
                      exact ⟨rfl, rfl, rfl, rfl, rfl, rfl, rfl, trivial⟩
                  · have hm71 := ifF hb77 hm71
                    refine WK_exit rfl ?_
                    cases hm71
                    refine WK.sub ?_ (WK.cls (fun _ h => h) (hk70 (l_19, L66) ⟨(hd75 _ rfl), hL66⟩))
                    exact ⟨rfl, rfl, rfl, rfl, rfl, rfl, trivial⟩
              · have hx33 := ifF hb65 hx33
                refine WK_skip ?_
                cases hx33
                refine WK.sub ?_ (WK.cls (fun _ h => h) (hk34 L31 hL31))
                exact ⟨rfl, rfl, rfl, rfl, rfl, rfl, trivial⟩
      · refine WK_block ?_
        refine WK_loop (S := Int) (G := Unit) (fun s => slices_partialInsertionSortOrdered_uint64_s2 p2 l_1 s) (fun s g => [(0, .slice a_z0 z0.length c_z0), (1, .int .i64 p1), (2, .int .i64 p2), (6, .bool false), (7, .int .i64 s), (8, .int .i64 s_3)]) (fun s g => St w0 m mc [L1, LR]) (fun s g => True) FUEL s_2 () x13 hx14 trivial ⟨rfl, rfl, rfl, rfl, rfl, rfl, trivial⟩ (fun _ h => h) ?_
        rintro s_5 ⟨⟩ o17 fl18 hm16 - hn19 hd20
        have hm16 : slices_partialInsertionSortOrdered_uint64_s2 p2 l_1 s_5 = some o17 := hm16
        unfold slices_partialInsertionSortOrdered_uint64_s2 at hm16
        refine WK.sub (e' := [(0, .slice a_z0 z0.length c_z0), (1, .int .i64 p1), (2, .int .i64 p2), (6, .bool false), (7, .int .i64 s_5), (8, .int .i64 s_3)]) ⟨rfl, rfl, rfl, rfl, rfl, rfl, trivial⟩ (WK.cls (C' := St w0 m mc [L1, LR]) (fun _ h => h) ?_)
        refine WK_seq ?_
        refine WK_seq ?_
        obtain ⟨s_27, hx92, hm16⟩ := bind_some hm16
        refine WK_meet [(0, .slice a_z0 z0.length c_z0), (1, .int .i64 p1), (2, .int .i64 p2), (6, .bool false), (7, .int .i64 s_5), (8, .int .i64 s_3), (32, .bool s_27)] (St w0 m mc [L1, LR]) ?_ (fun hk93 => ?_)
        · refine WK_cond (b := s_27) rfl (fun hb94 => ?_) (fun hb94 => ?_)
          · have hm16 := ifT hb94 hm16
            refine WK_skip ?_
            refine WK_block ?_
            refine WK_region ?_
            refine WO_pure tbok 3 [(0, .slice a_z0 z0.length c_z0), (1, .int .i64 p1), (2, .int .i64 p2), (6, .bool false), (7, .int .i64 (w64 (s_5 + 1))), (8, .int .i64 s_3)] rfl ⟨rfl, rfl, rfl, rfl, rfl, rfl, trivial⟩ ?_
            refine WO_end ?_
            refine WK_blk ?_
            cases hm16
            refine WK.sub ?_ (WK.cls (fun _ h => h) (hn19 _ () rfl trivial))
            exact ⟨rfl, rfl, rfl, rfl, rfl, rfl, trivial⟩
          · have hm16 := ifF hb94 hm16
            refine WK_exit rfl ?_
            cases hm16
            refine WK.sub ?_ (WK.cls (fun _ h => h) (hk15 (s_5, ()) (hd20 _ rfl)))
            exact ⟨rfl, rfl, rfl, rfl, rfl, rfl, trivial⟩
        · refine WK_draw 16 [0, 1, 2, 3, 4, 5, 6, 7, 8, 9, 10, 11, 12, 13, 14, 15] follows_ok (by kernel_rfl) St_closed ?_
          refine WO_pure tbok 4 [(0, .slice a_z0 z0.length c_z0), (1, .int .i64 p1), (2, .int .i64 p2), (6, .bool false), (7, .int .i64 s_5), (8, .int .i64 s_3), (20, .bool (decide (s_5 < p2)))] rfl ⟨rfl, rfl, rfl, rfl, rfl, rfl, rfl, trivial⟩ ?_
          refine WO_split (d := 20) (b := decide (s_5 < p2)) rfl (fun hb95 => ?_) (fun hb95 => ?_)
          · have hx92 := ifT hb95 hx92
            refine WO_pure tbok 2 [(0, .slice a_z0 z0.length c_z0), (1, .int .i64 p1), (2, .int .i64 p2), (6, .bool false), (7, .int .i64 s_5), (8, .int .i64 s_3), (20, .bool true), (21, .slice a_z0 z0.length c_z0), (22, .int .i64 s_5)] rfl ⟨rfl, rfl, rfl, rfl, rfl, rfl, rfl, rfl, rfl, trivial⟩ ?_
            obtain ⟨v_28, hy96, hx92⟩ := bind_some hx92
            obtain ⟨hc97, hy96⟩ := ix_some hy96
            refine WO_index tbok rfl rfl rfl rfl rfl rfl rfl rfl (OwnE.addr hL1) (by simpa using hc97) ?_
            refine WO_loadO (E := (I1 .u64)) tbok (fun _ => rfl) 0 rfl rfl rfl rfl (fun _ h => h) hL1 rfl hy96 rfl ?_
            refine WO_pure tbok 3 [(0, .slice a_z0 z0.length c_z0), (1, .int .i64 p1), (2, .int .i64 p2), (6, .bool false), (7, .int .i64 s_5), (8, .int .i64 s_3), (20, .bool true), (24, .int .u64 v_28), (25, .slice a_z0 z0.length c_z0), (27, .int .i64 (w64 (s_5 - 1)))] rfl ⟨rfl, rfl, rfl, rfl, rfl, rfl, rfl, rfl, rfl, rfl, trivial⟩ ?_
            obtain ⟨v_29, hy98, hx92⟩ := bind_some hx92
            obtain ⟨hc99, hy98⟩ := ix_some hy98
            refine WO_index tbok rfl rfl rfl rfl rfl rfl rfl rfl (OwnE.addr hL1) (by simpa using hc99) ?_
            refine WO_loadO (E := (I1 .u64)) tbok (fun _ => rfl) 0 rfl rfl rfl rfl (fun _ h => h) hL1 rfl hy98 rfl ?_
            obtain ⟨y_30, hc100, hx92⟩ := bind_some hx92
            refine WO_call0 (.bool y_30) rfl rfl St_closed rfl rfl rfl rfl St_closed ⟨93, #[], #[], rfl, callable_93, fun w hw => ⟨_, hw.sat, cmp_Less_uint64_walk hc100⟩⟩ ?_
            refine WO_pure tbok 2 [(0, .slice a_z0 z0.length c_z0), (1, .int .i64 p1), (2, .int .i64 p2), (6, .bool false), (7, .int .i64 s_5), (8, .int .i64 s_3), (32, .bool (!y_30))] rfl ⟨rfl, rfl, rfl, rfl, rfl, rfl, rfl, trivial⟩ ?_
            refine WO_tail ?_
            refine WO_end ?_
            cases hx92
            refine WK.sub ?_ (WK.cls (fun _ h => h) hk93)
            exact ⟨rfl, rfl, rfl, rfl, rfl, rfl, rfl, trivial⟩
          · have hx92 := ifF hb95 hx92
            refine WO_pure tbok 9 [(0, .slice a_z0 z0.length c_z0), (1, .int .i64 p1), (2, .int .i64 p2), (6, .bool false), (7, .int .i64 s_5), (8, .int .i64 s_3), (20, .bool false)] rfl ⟨rfl, rfl, rfl, rfl, rfl, rfl, rfl, trivial⟩ ?_
            refine WO_skip rfl rfl ?_
            refine WO_pure tbok 2 [(0, .slice a_z0 z0.length c_z0), (1, .int .i64 p1), (2, .int .i64 p2), (6, .bool false), (7, .int .i64 s_5), (8, .int .i64 s_3), (32, .bool false)] rfl ⟨rfl, rfl, rfl, rfl, rfl, rfl, rfl, trivial⟩ ?_
            refine WO_tail ?_
            refine WO_end ?_
            cases hx92
            refine WK.sub ?_ (WK.cls (fun _ h => h) hk93)
            exact ⟨rfl, rfl, rfl, rfl, rfl, rfl, rfl, trivial⟩
    · have hm6 := ifF hb12 hm6
      refine WK_exit rfl ?_
      cases hm6
      refine WK.sub ?_ (WK.cls (fun _ h => h) (hk5 (l_1, L1) ⟨(hd10 _ rfl), hL1⟩))
      exact ⟨rfl, trivial⟩
theorem slices_partitionEqualOrdered_uint64_walk {w0 : World} {m mc : Mu} {LR : List Ent} {z0 : List Int} {a_z0 : Option Addr} {n_z0 c_z0 : Nat} {L_z0 : List Ent} {p1 : Int} {p2 : Int} {p3 : Int} {r : Int × List Int} (hle0 : Le m mc) (h_z0 : OwnE 95 1 (I1 .u64) (.slice a_z0 n_z0 c_z0) z0 L_z0) (hm : slices_partitionEqualOrdered_uint64 z0 p1 p2 p3 = some r) :
    SpecS Try.prog 94 [.slice a_z0 n_z0 c_z0, .int .i64 p1, .int .i64 p2, .int .i64 p3] (St w0 m mc [L_z0, LR]) (fun v w => ∃ g : List Ent, v = .int .i64 r.1 ∧ (OwnE 95 1 (I1 .u64) (.slice a_z0 n_z0 c_z0) r.2 g) ∧ St w0 m mc [g, LR] w) := by
  refine SpecS_enter Try.func94 rfl rfl rfl ?_
  refine WK.sub (e' := [(0, .slice a_z0 n_z0 c_z0), (1, .int .i64 p1), (2, .int .i64 p2), (3, .int .i64 p3)]) ⟨rfl, rfl, rfl, rfl, trivial⟩ ?_
  obtain rfl := OwnE.qlen h_z0
  refine WK.sub (e' := [(0, .slice a_z0 z0.length c_z0), (1, .int .i64 p1), (2, .int .i64 p2), (3, .int .i64 p3)]) ⟨rfl, rfl, rfl, rfl, trivial⟩ (WK.cls (C' := St w0 m mc [L_z0, LR]) (fun _ h => h) ?_)
  unfold slices_partitionEqualOrdered_uint64 at hm
  refine WK_seq ?_
  refine WK_region ?_
  refine WO_pure tbok 1 [(0, .slice a_z0 z0.length c_z0), (1, .int .i64 p1), (2, .int .i64 p2), (3, .int .i64 p3), (8, .int .i64 0)] rfl ⟨rfl, rfl, rfl, rfl, rfl, trivial⟩ ?_
  refine WO_end ?_
  refine WK_seq ?_
  refine WK_plan 13 [0, 1, 2, 3, 4, 5, 6, 8, 9, 10] (.run [7, 11, 12] .fin) follows_ok (by kernel_rfl) St_closed ?_
  refine WO_pure tbok 6 [(0, .slice a_z0 z0.length c_z0), (1, .int .i64 p1), (2, .int .i64 p2), (8, .int .i64 0), (11, .slice a_z0 z0.length c_z0), (12, .int .i64 p1), (13, .slice a_z0 z0.length c_z0), (14, .int .i64 p3), (15, .slice a_z0 z0.length c_z0), (16, .int .i64 p3)] rfl ⟨rfl, rfl, rfl, rfl, rfl, rfl, rfl, rfl, rfl, rfl, trivial⟩ ?_
  obtain ⟨v_1, hy1, hm⟩ := bind_some hm
  obtain ⟨hc2, hy1⟩ := ix_some hy1
  refine WO_index tbok rfl rfl rfl rfl rfl rfl rfl rfl (OwnE.addr h_z0) (by simpa using hc2) ?_
  refine WO_pure tbok 2 [(0, .slice a_z0 z0.length c_z0), (1, .int .i64 p1), (2, .int .i64 p2), (8, .int .i64 0), (11, .slice a_z0 z0.length c_z0), (12, .int .i64 p1), (13, .slice a_z0 z0.length c_z0), (14, .int .i64 p3), (17, .pointer (some (eAddr (.slice a_z0 z0.length c_z0) 1 p3.toNat))), (19, .slice a_z0 z0.length c_z0), (20, .int .i64 p1)] rfl ⟨rfl, rfl, rfl, rfl, rfl, rfl, rfl, rfl, rfl, rfl, rfl, trivial⟩ ?_
  obtain ⟨v_2, hy3, hm⟩ := bind_some hm
  obtain ⟨hc4, hy3⟩ := ix_some hy3
  refine WO_index tbok rfl rfl rfl rfl rfl rfl rfl rfl (OwnE.addr h_z0) (by simpa using hc4) ?_
  refine WO_plan ?_
  refine WT_run ?_
  refine WO_loadO (E := (I1 .u64)) tbok (fun _ => rfl) 0 rfl rfl rfl rfl (fun _ h => h) h_z0 rfl hy1 rfl ?_
  refine WO_loadO (E := (I1 .u64)) tbok (fun _ => rfl) 0 rfl rfl rfl rfl (fun _ h => h) h_z0 rfl hy3 rfl ?_
  obtain ⟨hc5, hm⟩ := chk_some hm
  refine WO_index tbok rfl rfl rfl rfl rfl rfl rfl rfl (OwnE.addr h_z0) (by simpa using hc5) ?_
  refine WO_tree rfl ?_
  refine WT_fin ?_
  refine WO_storeO (E := (I1 .u64)) tbok (fun _ => rfl) 0 v_1 rfl rfl rfl rfl rfl h_z0 rfl (by simpa using idx_lt hc5) rfl rfl rfl rfl (fun L6 hL6 => ?_)
  refine WO.cls (C' := St w0 m mc [L6, LR]) (fun _ h => h) ?_
  obtain ⟨hc7, hm⟩ := chk_some hm
  refine WO_index tbok rfl rfl rfl rfl rfl rfl rfl rfl (OwnE.addr hL6) (by simpa using hc7) ?_
  refine WO_storeO (E := (I1 .u64)) tbok (fun _ => rfl) 0 v_2 rfl rfl rfl rfl rfl hL6 rfl (by simpa using idx_lt hc7) rfl rfl rfl rfl (fun L8 hL8 => ?_)
  refine WO.cls (C' := St w0 m mc [L8, LR]) (fun _ h => h) ?_
  refine WO_end ?_
  refine WK_seq ?_
  refine WK_region ?_
  refine WO_pure tbok 6 [(0, .slice a_z0 z0.length c_z0), (1, .int .i64 p1), (8, .int .i64 0), (9, .int .i64 (w64 (p1 + 1))), (10, .int .i64 (w64 (p2 - 1)))] rfl ⟨rfl, rfl, rfl, rfl, rfl, trivial⟩ ?_
  refine WO_end ?_
  refine WK_seq ?_
  obtain ⟨x11, hx12, hm⟩ := bind_some hm
  refine WK_join (β := (List Int × Int) × (List Ent)) (fun p => p.1 = x11 ∧ OwnE 95 1 (I1 .u64) (.slice a_z0 z0.length c_z0) p.1.1 p.2) (fun p => [(8, .int .i64 0), (9, .int .i64 p.1.2)]) (fun p => St w0 m mc [p.2, LR]) ?_ (fun hk13 => ?_)
  · rintro ⟨⟨l_6, s_7⟩, L10⟩ ⟨hq19, hL10⟩
    subst hq19
    refine WK.sub (e' := [(8, .int .i64 0), (9, .int .i64 s_7)]) ⟨rfl, rfl, trivial⟩ (WK.cls (C' := St w0 m mc [L10, LR]) (fun _ h => h) ?_)
    refine WK_seq ?_
    refine WK_region ?_
    refine WO_pure tbok 2 [(8, .int .i64 s_7)] rfl ⟨rfl, trivial⟩ ?_
    refine WO_end ?_
    cases hm
    exact WK_retS (RLc_tmp rfl RLc_nil) (fun _ h => ⟨L10, rfl, hL10, h⟩)
  · refine WK_block ?_
    refine WK_loop (S := List Int × Int × Int) (G := List Ent) (fun s => slices_partitionEqualOrdered_uint64_s1 p1 s.1 s.2.1 s.2.2) (fun s g => [(0, .slice a_z0 z0.length c_z0), (1, .int .i64 p1), (8, .int .i64 0), (9, .int .i64 s.2.1), (10, .int .i64 s.2.2)]) (fun s g => St w0 m mc [g, LR]) (fun s g => OwnE 95 1 (I1 .u64) (.slice a_z0 z0.length c_z0) s.1 g) FUEL (((z0.set p1.toNat v_1).set p3.toNat v_2), w64 (p1 + 1), w64 (p2 - 1)) L8 x11 hx12 hL8 ⟨rfl, rfl, rfl, rfl, rfl, trivial⟩ (fun _ h => h) ?_
    rintro ⟨l_3, s_4, s_5⟩ L9 o15 fl16 hm14 hL9 hn17 hd18
    have hm14 : slices_partitionEqualOrdered_uint64_s1 p1 l_3 s_4 s_5 = some o15 := hm14
    unfold slices_partitionEqualOrdered_uint64_s1 at hm14
    refine WK.sub (e' := [(0, .slice a_z0 z0.length c_z0), (1, .int .i64 p1), (8, .int .i64 0), (9, .int .i64 s_4), (10, .int .i64 s_5)]) ⟨rfl, rfl, rfl, rfl, rfl, trivial⟩ (WK.cls (C' := St w0 m mc [L9, LR]) (fun _ h => h) ?_)
    refine WK_block ?_
    refine WK_seq ?_
    obtain ⟨x20, hx21, hm14⟩ := bind_some hm14
    refine WK_join (β := Int × Unit) (fun p => p.1 = x20) (fun p => [(0, .slice a_z0 z0.length c_z0), (1, .int .i64 p1), (8, .int .i64 0), (9, .int .i64 p.1), (10, .int .i64 s_5)]) (fun p => St w0 m mc [L9, LR]) ?_ (fun hk22 => ?_)
    · rintro ⟨s_9, ⟨⟩⟩ hq28
      subst hq28
      refine WK.sub (e' := [(0, .slice a_z0 z0.length c_z0), (1, .int .i64 p1), (8, .int .i64 0), (9, .int .i64 s_9), (10, .int .i64 s_5)]) ⟨rfl, rfl, rfl, rfl, rfl, trivial⟩ (WK.cls (C' := St w0 m mc [L9, LR]) (fun _ h => h) ?_)
      refine WK_seq ?_
      obtain ⟨x29, hx30, hm14⟩ := bind_some hm14
      refine WK_join (β := Int × Unit) (fun p => p.1 = x29) (fun p => [(0, .slice a_z0 z0.length c_z0), (1, .int .i64 p1), (8, .int .i64 0), (9, .int .i64 s_9), (10, .int .i64 p.1)]) (fun p => St w0 m mc [L9, LR]) ?_ (fun hk31 => ?_)
      · rintro ⟨s_11, ⟨⟩⟩ hq37
        subst hq37
        refine WK.sub (e' := [(0, .slice a_z0 z0.length c_z0), (1, .int .i64 p1), (8, .int .i64 0), (9, .int .i64 s_9), (10, .int .i64 s_11)]) ⟨rfl, rfl, rfl, rfl, rfl, trivial⟩ (WK.cls (C' := St w0 m mc [L9, LR]) (fun _ h => h) ?_)
        refine WK_seq ?_
        refine WK_seq ?_
        refine WK_region ?_
        refine WO_pure tbok 3 [(0, .slice a_z0 z0.length c_z0), (1, .int .i64 p1), (8, .int .i64 0), (9, .int .i64 s_9), (10, .int .i64 s_11), (64, .bool (decide (s_11 < s_9)))] rfl ⟨rfl, rfl, rfl, rfl, rfl, rfl, trivial⟩ ?_
        refine WO_end ?_
        refine WK_cond (b := decide (s_11 < s_9)) rfl (fun hb38 => ?_) (fun hb38 => ?_)
        · have hm14 := ifT hb38 hm14
          refine WK_exit rfl ?_
          cases hm14
          refine WK.sub ?_ (WK.cls (fun _ h => h) (hk13 ((l_3, s_9), L9) ⟨(hd18 _ rfl), hL9⟩))
          exact ⟨rfl, rfl, trivial⟩
        · have hm14 := ifF hb38 hm14
          refine WK_skip ?_
          refine WK_seq ?_
          refine WK_plan 13 [0, 1, 2, 3, 4, 5, 6, 8, 9, 10] (.run [7, 11, 12] .fin) follows_ok (by kernel_rfl) St_closed ?_
          refine WO_pure tbok 6 [(0, .slice a_z0 z0.length c_z0), (1, .int .i64 p1), (8, .int .i64 0), (9, .int .i64 s_9), (10, .int .i64 s_11), (65, .slice a_z0 z0.length c_z0), (66, .int .i64 s_9), (67, .slice a_z0 z0.length c_z0), (68, .int .i64 s_11), (69, .slice a_z0 z0.length c_z0), (70, .int .i64 s_11)] rfl ⟨rfl, rfl, rfl, rfl, rfl, rfl, rfl, rfl, rfl, rfl, rfl, trivial⟩ ?_
          obtain ⟨v_12, hy39, hm14⟩ := bind_some hm14
          obtain ⟨hc40, hy39⟩ := ix_some hy39
          refine WO_index tbok rfl rfl rfl rfl rfl rfl rfl rfl (OwnE.addr hL9) (by simpa using hc40) ?_
          refine WO_pure tbok 2 [(0, .slice a_z0 z0.length c_z0), (1, .int .i64 p1), (8, .int .i64 0), (9, .int .i64 s_9), (10, .int .i64 s_11), (65, .slice a_z0 z0.length c_z0), (66, .int .i64 s_9), (67, .slice a_z0 z0.length c_z0), (68, .int .i64 s_11), (71, .pointer (some (eAddr (.slice a_z0 z0.length c_z0) 1 s_11.toNat))), (73, .slice a_z0 z0.length c_z0), (74, .int .i64 s_9)] rfl ⟨rfl, rfl, rfl, rfl, rfl, rfl, rfl, rfl, rfl, rfl, rfl, rfl, trivial⟩ ?_
          obtain ⟨v_13, hy41, hm14⟩ := bind_some hm14
          obtain ⟨hc42, hy41⟩ := ix_some hy41
          refine WO_index tbok rfl rfl rfl rfl rfl rfl rfl rfl (OwnE.addr hL9) (by simpa using hc42) ?_
          refine WO_plan ?_
          refine WT_run ?_
          refine WO_loadO (E := (I1 .u64)) tbok (fun _ => rfl) 0 rfl rfl rfl rfl (fun _ h => h) hL9 rfl hy39 rfl ?_
          refine WO_loadO (E := (I1 .u64)) tbok (fun _ => rfl) 0 rfl rfl rfl rfl (fun _ h => h) hL9 rfl hy41 rfl ?_
          obtain ⟨hc43, hm14⟩ := chk_some hm14
          refine WO_index tbok rfl rfl rfl rfl rfl rfl rfl rfl (OwnE.addr hL9) (by simpa using hc43) ?_
          refine WO_tree rfl ?_
          refine WT_fin ?_
          refine WO_storeO (E := (I1 .u64)) tbok (fun _ => rfl) 0 v_12 rfl rfl rfl rfl rfl hL9 rfl (by simpa using idx_lt hc43) rfl rfl rfl rfl (fun L44 hL44 => ?_)
          refine WO.cls (C' := St w0 m mc [L44, LR]) (fun _ h => h) ?_
          obtain ⟨hc45, hm14⟩ := chk_some hm14
          refine WO_index tbok rfl rfl rfl rfl rfl rfl rfl rfl (OwnE.addr hL44) (by simpa using hc45) ?_
          refine WO_storeO (E := (I1 .u64)) tbok (fun _ => rfl) 0 v_13 rfl rfl rfl rfl rfl hL44 rfl (by simpa using idx_lt hc45) rfl rfl rfl rfl (fun L46 hL46 => ?_)
          refine WO.cls (C' := St w0 m mc [L46, LR]) (fun _ h => h) ?_
          refine WO_end ?_
          refine WK_seq ?_
          refine WK_region ?_
          refine WO_pure tbok 3 [(0, .slice a_z0 z0.length c_z0), (1, .int .i64 p1), (8, .int .i64 0), (9, .int .i64 (w64 (s_9 + 1))), (10, .int .i64 s_11)] rfl ⟨rfl, rfl, rfl, rfl, rfl, trivial⟩ ?_
          refine WO_end ?_
          refine WK_region ?_
          refine WO_pure tbok 3 [(0, .slice a_z0 z0.length c_z0), (1, .int .i64 p1), (8, .int .i64 0), (9, .int .i64 (w64 (s_9 + 1))), (10, .int .i64 (w64 (s_11 - 1)))] rfl ⟨rfl, rfl, rfl, rfl, rfl, trivial⟩ ?_
          refine WO_end ?_
          refine WK_blk ?_
          cases hm14
          refine WK.sub ?_ (WK.cls (fun _ h => h) (hn17 _ L46 rfl hL46))
          exact ⟨rfl, rfl, rfl, rfl, rfl, trivial⟩
      · refine WK_block ?_
        refine WK_loop (S := Int) (G := Unit) (fun s => slices_partitionEqualOrdered_uint64_s3 p1 l_3 s_9 s) (fun s g => [(0, .slice a_z0 z0.length c_z0), (1, .int .i64 p1), (8, .int .i64 0), (9, .int .i64 s_9), (10, .int .i64 s)]) (fun s g => St w0 m mc [L9, LR]) (fun s g => True) FUEL s_5 () x29 hx30 trivial ⟨rfl, rfl, rfl, rfl, rfl, trivial⟩ (fun _ h => h) ?_
        rintro s_10 ⟨⟩ o33 fl34 hm32 - hn35 hd36
        have hm32 : slices_partitionEqualOrdered_uint64_s3 p1 l_3 s_9 s_10 = some o33 := hm32
        unfold slices_partitionEqualOrdered_uint64_s3 at hm32
        refine WK.sub (e' := [(0, .slice a_z0 z0.length c_z0), (1, .int .i64 p1), (8, .int .i64 0), (9, .int .i64 s_9), (10, .int .i64 s_10)]) ⟨rfl, rfl, rfl, rfl, rfl, trivial⟩ (WK.cls (C' := St w0 m mc [L9, LR]) (fun _ h => h) ?_)
        refine WK_seq ?_
        refine WK_seq ?_
        obtain ⟨s_14, hx47, hm32⟩ := bind_some hm32
        refine WK_meet [(0, .slice a_z0 z0.length c_z0), (1, .int .i64 p1), (8, .int .i64 0), (9, .int .i64 s_9), (10, .int .i64 s_10), (59, .bool s_14)] (St w0 m mc [L9, LR]) ?_ (fun hk48 => ?_)
        · refine WK_cond (b := s_14) rfl (fun hb49 => ?_) (fun hb49 => ?_)
          · have hm32 := ifT hb49 hm32
            refine WK_skip ?_
            refine WK_block ?_
            refine WK_region ?_
            refine WO_pure tbok 3 [(0, .slice a_z0 z0.length c_z0), (1, .int .i64 p1), (8, .int .i64 0), (9, .int .i64 s_9), (10, .int .i64 (w64 (s_10 - 1)))] rfl ⟨rfl, rfl, rfl, rfl, rfl, trivial⟩ ?_
            refine WO_end ?_
            refine WK_blk ?_
            cases hm32
            refine WK.sub ?_ (WK.cls (fun _ h => h) (hn35 _ () rfl trivial))
            exact ⟨rfl, rfl, rfl, rfl, rfl, trivial⟩
          · have hm32 := ifF hb49 hm32
            refine WK_exit rfl ?_
            cases hm32
            refine WK.sub ?_ (WK.cls (fun _ h => h) (hk31 (s_10, ()) (hd36 _ rfl)))
            exact ⟨rfl, rfl, rfl, rfl, rfl, trivial⟩
        · refine WK_draw 14 [0, 1, 2, 3, 4, 5, 6, 7, 8, 9, 10, 11, 12, 13] follows_ok (by kernel_rfl) St_closed ?_
          refine WO_pure tbok 4 [(0, .slice a_z0 z0.length c_z0), (1, .int .i64 p1), (8, .int .i64 0), (9, .int .i64 s_9), (10, .int .i64 s_10), (49, .bool (decide (s_9 ≤ s_10)))] rfl ⟨rfl, rfl, rfl, rfl, rfl, rfl, trivial⟩ ?_
          refine WO_split (d := 49) (b := decide (s_9 ≤ s_10)) rfl (fun hb50 => ?_) (fun hb50 => ?_)
          · have hx47 := ifT hb50 hx47
            refine WO_pure tbok 2 [(0, .slice a_z0 z0.length c_z0), (1, .int .i64 p1), (8, .int .i64 0), (9, .int .i64 s_9), (10, .int .i64 s_10), (49, .bool true), (50, .slice a_z0 z0.length c_z0), (51, .int .i64 p1)] rfl ⟨rfl, rfl, rfl, rfl, rfl, rfl, rfl, rfl, trivial⟩ ?_
            obtain ⟨v_15, hy51, hx47⟩ := bind_some hx47
            obtain ⟨hc52, hy51⟩ := ix_some hy51
            refine WO_index tbok rfl rfl rfl rfl rfl rfl rfl rfl (OwnE.addr hL9) (by simpa using hc52) ?_
            refine WO_loadO (E := (I1 .u64)) tbok (fun _ => rfl) 0 rfl rfl rfl rfl (fun _ h => h) hL9 rfl hy51 rfl ?_
            refine WO_pure tbok 2 [(0, .slice a_z0 z0.length c_z0), (1, .int .i64 p1), (8, .int .i64 0), (9, .int .i64 s_9), (10, .int .i64 s_10), (49, .bool true), (53, .int .u64 v_15), (54, .slice a_z0 z0.length c_z0), (55, .int .i64 s_10)] rfl ⟨rfl, rfl, rfl, rfl, rfl, rfl, rfl, rfl, rfl, trivial⟩ ?_
            obtain ⟨v_16, hy53, hx47⟩ := bind_some hx47
            obtain ⟨hc54, hy53⟩ := ix_some hy53
            refine WO_index tbok rfl rfl rfl rfl rfl rfl rfl rfl (OwnE.addr hL9) (by simpa using hc54) ?_
            refine WO_loadO (E := (I1 .u64)) tbok (fun _ => rfl) 0 rfl rfl rfl rfl (fun _ h => h) hL9 rfl hy53 rfl ?_
            obtain ⟨y_17, hc55, hx47⟩ := bind_some hx47
            refine WO_call0 (.bool y_17) rfl rfl St_closed rfl rfl rfl rfl St_closed ⟨93, #[], #[], rfl, callable_93, fun w hw => ⟨_, hw.sat, cmp_Less_uint64_walk hc55⟩⟩ ?_
            refine WO_pure tbok 1 [(0, .slice a_z0 z0.length c_z0), (1, .int .i64 p1), (8, .int .i64 0), (9, .int .i64 s_9), (10, .int .i64 s_10), (59, .bool y_17)] rfl ⟨rfl, rfl, rfl, rfl, rfl, rfl, trivial⟩ ?_
            refine WO_tail ?_
            refine WO_end ?_
            cases hx47
            refine WK.sub ?_ (WK.cls (fun _ h => h) hk48)
            exact ⟨rfl, rfl, rfl, rfl, rfl, rfl, trivial⟩
          · have hx47 := ifF hb50 hx47
            refine WO_pure tbok 8 [(0, .slice a_z0 z0.length c_z0), (1, .int .i64 p1), (8, .int .i64 0), (9, .int .i64 s_9), (10, .int .i64 s_10), (49, .bool false)] rfl ⟨rfl, rfl, rfl, rfl, rfl, rfl, trivial⟩ ?_
            refine WO_skip rfl rfl ?_
            refine WO_pure tbok 1 [(0, .slice a_z0 z0.length c_z0), (1, .int .i64 p1), (8, .int .i64 0), (9, .int .i64 s_9), (10, .int .i64 s_10), (59, .bool false)] rfl ⟨rfl, rfl, rfl, rfl, rfl, rfl, trivial⟩ ?_
            refine WO_tail ?_
            refine WO_end ?_
            cases hx47
            refine WK.sub ?_ (WK.cls (fun _ h => h) hk48)
            exact ⟨rfl, rfl, rfl, rfl, rfl, rfl, trivial⟩
    · refine WK_block ?_
      refine WK_loop (S := Int) (G := Unit) (fun s => slices_partitionEqualOrdered_uint64_s2 p1 l_3 s_5 s) (fun s g => [(0, .slice a_z0 z0.length c_z0), (1, .int .i64 p1), (8, .int .i64 0), (9, .int .i64 s), (10, .int .i64 s_5)]) (fun s g => St w0 m mc [L9, LR]) (fun s g => True) FUEL s_4 () x20 hx21 trivial ⟨rfl, rfl, rfl, rfl, rfl, trivial⟩ (fun _ h => h) ?_
      rintro s_8 ⟨⟩ o24 fl25 hm23 - hn26 hd27
      have hm23 : slices_partitionEqualOrdered_uint64_s2 p1 l_3 s_5 s_8 = some o24 := hm23
      unfold slices_partitionEqualOrdered_uint64_s2 at hm23
      refine WK.sub (e' := [(0, .slice a_z0 z0.length c_z0), (1, .int .i64 p1), (8, .int .i64 0), (9, .int .i64 s_8), (10, .int .i64 s_5)]) ⟨rfl, rfl, rfl, rfl, rfl, trivial⟩ (WK.cls (C' := St w0 m mc [L9, LR]) (fun _ h => h) ?_)
      refine WK_seq ?_
      refine WK_seq ?_
      obtain ⟨s_18, hx56, hm23⟩ := bind_some hm23
      refine WK_meet [(0, .slice a_z0 z0.length c_z0), (1, .int .i64 p1), (8, .int .i64 0), (9, .int .i64 s_8), (10, .int .i64 s_5), (43, .bool s_18)] (St w0 m mc [L9, LR]) ?_ (fun hk57 => ?_)
      · refine WK_cond (b := s_18) rfl (fun hb58 => ?_) (fun hb58 => ?_)
        · have hm23 := ifT hb58 hm23
          refine WK_skip ?_
          refine WK_block ?_
          refine WK_region ?_
          refine WO_pure tbok 3 [(0, .slice a_z0 z0.length c_z0), (1, .int .i64 p1), (8, .int .i64 0), (9, .int .i64 (w64 (s_8 + 1))), (10, .int .i64 s_5)] rfl ⟨rfl, rfl, rfl, rfl, rfl, trivial⟩ ?_
          refine WO_end ?_
          refine WK_blk ?_
          cases hm23
          refine WK.sub ?_ (WK.cls (fun _ h => h) (hn26 _ () rfl trivial))
          exact ⟨rfl, rfl, rfl, rfl, rfl, trivial⟩
        · have hm23 := ifF hb58 hm23
          refine WK_exit rfl ?_
          cases hm23
          refine WK.sub ?_ (WK.cls (fun _ h => h) (hk22 (s_8, ()) (hd27 _ rfl)))
          exact ⟨rfl, rfl, rfl, rfl, rfl, trivial⟩
      · refine WK_draw 15 [0, 1, 2, 3, 4, 5, 6, 7, 8, 9, 10, 11, 12, 13, 14] follows_ok (by kernel_rfl) St_closed ?_
        refine WO_pure tbok 4 [(0, .slice a_z0 z0.length c_z0), (1, .int .i64 p1), (8, .int .i64 0), (9, .int .i64 s_8), (10, .int .i64 s_5), (32, .bool (decide (s_8 ≤ s_5)))] rfl ⟨rfl, rfl, rfl, rfl, rfl, rfl, trivial⟩ ?_
        refine WO_split (d := 32) (b := decide (s_8 ≤ s_5)) rfl (fun hb59 => ?_) (fun hb59 => ?_)
        · have hx56 := ifT hb59 hx56
          refine WO_pure tbok 2 [(0, .slice a_z0 z0.length c_z0), (1, .int .i64 p1), (8, .int .i64 0), (9, .int .i64 s_8), (10, .int .i64 s_5), (32, .bool true), (33, .slice a_z0 z0.length c_z0), (34, .int .i64 p1)] rfl ⟨rfl, rfl, rfl, rfl, rfl, rfl, rfl, rfl, trivial⟩ ?_
          obtain ⟨v_19, hy60, hx56⟩ := bind_some hx56
          obtain ⟨hc61, hy60⟩ := ix_some hy60
          refine WO_index tbok rfl rfl rfl rfl rfl rfl rfl rfl (OwnE.addr hL9) (by simpa using hc61) ?_
          refine WO_loadO (E := (I1 .u64)) tbok (fun _ => rfl) 0 rfl rfl rfl rfl (fun _ h => h) hL9 rfl hy60 rfl ?_
          refine WO_pure tbok 2 [(0, .slice a_z0 z0.length c_z0), (1, .int .i64 p1), (8, .int .i64 0), (9, .int .i64 s_8), (10, .int .i64 s_5), (32, .bool true), (36, .int .u64 v_19), (37, .slice a_z0 z0.length c_z0), (38, .int .i64 s_8)] rfl ⟨rfl, rfl, rfl, rfl, rfl, rfl, rfl, rfl, rfl, trivial⟩ ?_
          obtain ⟨v_20, hy62, hx56⟩ := bind_some hx56
          obtain ⟨hc63, hy62⟩ := ix_some hy62
          refine WO_index tbok rfl rfl rfl rfl rfl rfl rfl rfl (OwnE.addr hL9) (by simpa using hc63) ?_
          refine WO_loadO (E := (I1 .u64)) tbok (fun _ => rfl) 0 rfl rfl rfl rfl (fun _ h => h) hL9 rfl hy62 rfl ?_
          obtain ⟨y_21, hc64, hx56⟩ := bind_some hx56
          refine WO_call0 (.bool y_21) rfl rfl St_closed rfl rfl rfl rfl St_closed ⟨93, #[], #[], rfl, callable_93, fun w hw => ⟨_, hw.sat, cmp_Less_uint64_walk hc64⟩⟩ ?_
          refine WO_pure tbok 2 [(0, .slice a_z0 z0.length c_z0), (1, .int .i64 p1), (8, .int .i64 0), (9, .int .i64 s_8), (10, .int .i64 s_5), (43, .bool (!y_21))] rfl ⟨rfl, rfl, rfl, rfl, rfl, rfl, trivial⟩ ?_
          refine WO_tail ?_
          refine WO_end ?_
          cases hx56
          refine WK.sub ?_ (WK.cls (fun _ h => h) hk57)
          exact ⟨rfl, rfl, rfl, rfl, rfl, rfl, trivial⟩
        · have hx56 := ifF hb59 hx56
          refine WO_pure tbok 8 [(0, .slice a_z0 z0.length c_z0), (1, .int .i64 p1), (8, .int .i64 0), (9, .int .i64 s_8), (10, .int .i64 s_5), (32, .bool false)] rfl ⟨rfl, rfl, rfl, rfl, rfl, rfl, trivial⟩ ?_
          refine WO_skip rfl rfl ?_
          refine WO_pure tbok 2 [(0, .slice a_z0 z0.length c_z0), (1, .int .i64 p1), (8, .int .i64 0), (9, .int .i64 s_8), (10, .int .i64 s_5), (43, .bool false)] rfl ⟨rfl, rfl, rfl, rfl, rfl, rfl, trivial⟩ ?_
          refine WO_tail ?_
          refine WO_end ?_
          cases hx56
          refine WK.sub ?_ (WK.cls (fun _ h => h) hk57)
          exact ⟨rfl, rfl, rfl, rfl, rfl, rfl, trivial⟩
theorem slices_partitionOrdered_uint64_walk {w0 : World} {m mc : Mu} {LR : List Ent} {z0 : List Int} {a_z0 : Option Addr} {n_z0 c_z0 : Nat} {L_z0 : List Ent} {p1 : Int} {p2 : Int} {p3 : Int} {r : Int × Bool × List Int} (hle0 : Le m mc) (h_z0 : OwnE 95 1 (I1 .u64) (.slice a_z0 n_z0 c_z0) z0 L_z0) (hm : slices_partitionOrdered_uint64 z0 p1 p2 p3 = some r) :
    SpecS Try.prog 95 [.slice a_z0 n_z0 c_z0, .int .i64 p1, .int .i64 p2, .int .i64 p3] (St w0 m mc [L_z0, LR]) (fun v w => ∃ g : List Ent, v = .tuple #[.int .i64 r.1, .bool r.2.1] ∧ (OwnE 95 1 (I1 .u64) (.slice a_z0 n_z0 c_z0) r.2.2 g) ∧ St w0 m mc [g, LR] w) := by
  refine SpecS_enter Try.func95 rfl rfl rfl ?_
  refine WK.sub (e' := [(0, .slice a_z0 n_z0 c_z0), (1, .int .i64 p1), (2, .int .i64 p2), (3, .int .i64 p3)]) ⟨rfl, rfl, rfl, rfl, trivial⟩ ?_
  obtain rfl := OwnE.qlen h_z0
  refine WK.sub (e' := [(0, .slice a_z0 z0.length c_z0), (1, .int .i64 p1), (2, .int .i64 p2), (3, .int .i64 p3)]) ⟨rfl, rfl, rfl, rfl, trivial⟩ (WK.cls (C' := St w0 m mc [L_z0, LR]) (fun _ h => h) ?_)
  unfold slices_partitionOrdered_uint64 at hm
  refine WK_seq ?_
  refine WK_region ?_
  refine WO_pure tbok 2 [(0, .slice a_z0 z0.length c_z0), (1, .int .i64 p1), (2, .int .i64 p2), (3, .int .i64 p3), (8, .int .i64 0), (9, .bool false)] rfl ⟨rfl, rfl, rfl, rfl, rfl, rfl, trivial⟩ ?_
  refine WO_end ?_
  refine WK_seq ?_
  refine WK_plan 13 [0, 1, 2, 3, 4, 5, 6, 8, 9, 10] (.run [7, 11, 12] .fin) follows_ok (by kernel_rfl) St_closed ?_
  refine WO_pure tbok 6 [(0, .slice a_z0 z0.length c_z0), (1, .int .i64 p1), (2, .int .i64 p2), (8, .int .i64 0), (9, .bool false), (12, .slice a_z0 z0.length c_z0), (13, .int .i64 p1), (14, .slice a_z0 z0.length c_z0), (15, .int .i64 p3), (16, .slice a_z0 z0.length c_z0), (17, .int .i64 p3)] rfl ⟨rfl, rfl, rfl, rfl, rfl, rfl, rfl, rfl, rfl, rfl, rfl, trivial⟩ ?_
  obtain ⟨v_1, hy1, hm⟩ := bind_some hm
  obtain ⟨hc2, hy1⟩ := ix_some hy1
  refine WO_index tbok rfl rfl rfl rfl rfl rfl rfl rfl (OwnE.addr h_z0) (by simpa using hc2) ?_
  refine WO_pure tbok 2 [(0, .slice a_z0 z0.length c_z0), (1, .int .i64 p1), (2, .int .i64 p2), (8, .int .i64 0), (9, .bool false), (12, .slice a_z0 z0.length c_z0), (13, .int .i64 p1), (14, .slice a_z0 z0.length c_z0), (15, .int .i64 p3), (18, .pointer (some (eAddr (.slice a_z0 z0.length c_z0) 1 p3.toNat))), (20, .slice a_z0 z0.length c_z0), (21, .int .i64 p1)] rfl ⟨rfl, rfl, rfl, rfl, rfl, rfl, rfl, rfl, rfl, rfl, rfl, rfl, trivial⟩ ?_
  obtain ⟨v_2, hy3, hm⟩ := bind_some hm
  obtain ⟨hc4, hy3⟩ := ix_some hy3
  refine WO_index tbok rfl rfl rfl rfl rfl rfl rfl rfl (OwnE.addr h_z0) (by simpa using hc4) ?_
  refine WO_plan ?_
  refine WT_run ?_
  refine WO_loadO (E := (I1 .u64)) tbok (fun _ => rfl) 0 rfl rfl rfl rfl (fun _ h => h) h_z0 rfl hy1 rfl ?_
  refine WO_loadO (E := (I1 .u64)) tbok (fun _ => rfl) 0 rfl rfl rfl rfl (fun _ h => h) h_z0 rfl hy3 rfl ?_
  obtain ⟨hc5, hm⟩ := chk_some hm
  refine WO_index tbok rfl rfl rfl rfl rfl rfl rfl rfl (OwnE.addr h_z0) (by simpa using hc5) ?_
  refine WO_tree rfl ?_
  refine WT_fin ?_
  refine WO_storeO (E := (I1 .u64)) tbok (fun _ => rfl) 0 v_1 rfl rfl rfl rfl rfl h_z0 rfl (by simpa using idx_lt hc5) rfl rfl rfl rfl (fun L6 hL6 => ?_)
  refine WO.cls (C' := St w0 m mc [L6, LR]) (fun _ h => h) ?_
  obtain ⟨hc7, hm⟩ := chk_some hm
  refine WO_index tbok rfl rfl rfl rfl rfl rfl rfl rfl (OwnE.addr hL6) (by simpa using hc7) ?_
  refine WO_storeO (E := (I1 .u64)) tbok (fun _ => rfl) 0 v_2 rfl rfl rfl rfl rfl hL6 rfl (by simpa using idx_lt hc7) rfl rfl rfl rfl (fun L8 hL8 => ?_)
  refine WO.cls (C' := St w0 m mc [L8, LR]) (fun _ h => h) ?_
  refine WO_end ?_
  refine WK_seq ?_
  refine WK_region ?_
  refine WO_pure tbok 6 [(0, .slice a_z0 z0.length c_z0), (1, .int .i64 p1), (8, .int .i64 0), (9, .bool false), (10, .int .i64 (w64 (p1 + 1))), (11, .int .i64 (w64 (p2 - 1)))] rfl ⟨rfl, rfl, rfl, rfl, rfl, rfl, trivial⟩ ?_
  refine WO_end ?_
  refine WK_seq ?_
  obtain ⟨x9, hx10, hm⟩ := bind_some hm
  refine WK_join (β := Int × Unit) (fun p => p.1 = x9) (fun p => [(0, .slice a_z0 z0.length c_z0), (1, .int .i64 p1), (8, .int .i64 0), (9, .bool false), (10, .int .i64 p.1), (11, .int .i64 (w64 (p2 - 1)))]) (fun p => St w0 m mc [L8, LR]) ?_ (fun hk11 => ?_)
  · rintro ⟨s_4, ⟨⟩⟩ hq17
    subst hq17
    refine WK.sub (e' := [(0, .slice a_z0 z0.length c_z0), (1, .int .i64 p1), (8, .int .i64 0), (9, .bool false), (10, .int .i64 s_4), (11, .int .i64 (w64 (p2 - 1)))]) ⟨rfl, rfl, rfl, rfl, rfl, rfl, trivial⟩ (WK.cls (C' := St w0 m mc [L8, LR]) (fun _ h => h) ?_)
    refine WK_seq ?_
    obtain ⟨x18, hx19, hm⟩ := bind_some hm
    refine WK_join (β := Int × Unit) (fun p => p.1 = x18) (fun p => [(0, .slice a_z0 z0.length c_z0), (1, .int .i64 p1), (8, .int .i64 0), (9, .bool false), (10, .int .i64 s_4), (11, .int .i64 p.1)]) (fun p => St w0 m mc [L8, LR]) ?_ (fun hk20 => ?_)
    · rintro ⟨s_6, ⟨⟩⟩ hq26
      subst hq26
      refine WK.sub (e' := [(0, .slice a_z0 z0.length c_z0), (1, .int .i64 p1), (8, .int .i64 0), (9, .bool false), (10, .int .i64 s_4), (11, .int .i64 s_6)]) ⟨rfl, rfl, rfl, rfl, rfl, rfl, trivial⟩ (WK.cls (C' := St w0 m mc [L8, LR]) (fun _ h => h) ?_)
      refine WK_seq ?_
      refine WK_seq ?_
      refine WK_region ?_
      refine WO_pure tbok 3 [(0, .slice a_z0 z0.length c_z0), (1, .int .i64 p1), (8, .int .i64 0), (9, .bool false), (10, .int .i64 s_4), (11, .int .i64 s_6), (65, .bool (decide (s_6 < s_4)))] rfl ⟨rfl, rfl, rfl, rfl, rfl, rfl, rfl, trivial⟩ ?_
      refine WO_end ?_
      refine WK_cond (b := decide (s_6 < s_4)) rfl (fun hb27 => ?_) (fun hb27 => ?_)
      · have hm := ifT hb27 hm
        refine WK_seq ?_
        refine WK_plan 13 [0, 1, 2, 3, 4, 5, 6, 8, 9, 10] (.run [7, 11, 12] .fin) follows_ok (by kernel_rfl) St_closed ?_
        refine WO_pure tbok 6 [(0, .slice a_z0 z0.length c_z0), (1, .int .i64 p1), (8, .int .i64 0), (9, .bool false), (10, .int .i64 s_4), (11, .int .i64 s_6), (66, .slice a_z0 z0.length c_z0), (67, .int .i64 s_6), (68, .slice a_z0 z0.length c_z0), (69, .int .i64 p1), (70, .slice a_z0 z0.length c_z0), (71, .int .i64 p1)] rfl ⟨rfl, rfl, rfl, rfl, rfl, rfl, rfl, rfl, rfl, rfl, rfl, rfl, trivial⟩ ?_
        obtain ⟨v_7, hy28, hm⟩ := bind_some hm
        obtain ⟨hc29, hy28⟩ := ix_some hy28
        refine WO_index tbok rfl rfl rfl rfl rfl rfl rfl rfl (OwnE.addr hL8) (by simpa using hc29) ?_
        refine WO_pure tbok 2 [(0, .slice a_z0 z0.length c_z0), (1, .int .i64 p1), (8, .int .i64 0), (9, .bool false), (10, .int .i64 s_4), (11, .int .i64 s_6), (66, .slice a_z0 z0.length c_z0), (67, .int .i64 s_6), (68, .slice a_z0 z0.length c_z0), (69, .int .i64 p1), (72, .pointer (some (eAddr (.slice a_z0 z0.length c_z0) 1 p1.toNat))), (74, .slice a_z0 z0.length c_z0), (75, .int .i64 s_6)] rfl ⟨rfl, rfl, rfl, rfl, rfl, rfl, rfl, rfl, rfl, rfl, rfl, rfl, rfl, trivial⟩ ?_
        obtain ⟨v_8, hy30, hm⟩ := bind_some hm
        obtain ⟨hc31, hy30⟩ := ix_some hy30
        refine WO_index tbok rfl rfl rfl rfl rfl rfl rfl rfl (OwnE.addr hL8) (by simpa using hc31) ?_
        refine WO_plan ?_
        refine WT_run ?_
        refine WO_loadO (E := (I1 .u64)) tbok (fun _ => rfl) 0 rfl rfl rfl rfl (fun _ h => h) hL8 rfl hy28 rfl ?_
        refine WO_loadO (E := (I1 .u64)) tbok (fun _ => rfl) 0 rfl rfl rfl rfl (fun _ h => h) hL8 rfl hy30 rfl ?_
        obtain ⟨hc32, hm⟩ := chk_some hm
        refine WO_index tbok rfl rfl rfl rfl rfl rfl rfl rfl (OwnE.addr hL8) (by simpa using hc32) ?_
        refine WO_tree rfl ?_
        refine WT_fin ?_
        refine WO_storeO (E := (I1 .u64)) tbok (fun _ => rfl) 0 v_7 rfl rfl rfl rfl rfl hL8 rfl (by simpa using idx_lt hc32) rfl rfl rfl rfl (fun L33 hL33 => ?_)
        refine WO.cls (C' := St w0 m mc [L33, LR]) (fun _ h => h) ?_
        obtain ⟨hc34, hm⟩ := chk_some hm
        refine WO_index tbok rfl rfl rfl rfl rfl rfl rfl rfl (OwnE.addr hL33) (by simpa using hc34) ?_
        refine WO_storeO (E := (I1 .u64)) tbok (fun _ => rfl) 0 v_8 rfl rfl rfl rfl rfl hL33 rfl (by simpa using idx_lt hc34) rfl rfl rfl rfl (fun L35 hL35 => ?_)
        refine WO.cls (C' := St w0 m mc [L35, LR]) (fun _ h => h) ?_
        refine WO_end ?_
        refine WK_seq ?_
        refine WK_region ?_
        refine WO_pure tbok 3 [(0, .slice a_z0 z0.length c_z0), (1, .int .i64 p1), (8, .int .i64 s_6), (9, .bool true), (10, .int .i64 s_4), (11, .int .i64 s_6)] rfl ⟨rfl, rfl, rfl, rfl, rfl, rfl, trivial⟩ ?_
        refine WO_end ?_
        cases hm
        exact WK_retS (RLc_tmp rfl (RLc_tmp rfl RLc_nil)) (fun _ h => ⟨L35, rfl, hL35, h⟩)
      · have hm := ifF hb27 hm
        refine WK_skip ?_
        refine WK_seq ?_
        refine WK_plan 13 [0, 1, 2, 3, 4, 5, 6, 8, 9, 10] (.run [7, 11, 12] .fin) follows_ok (by kernel_rfl) St_closed ?_
        refine WO_pure tbok 6 [(0, .slice a_z0 z0.length c_z0), (1, .int .i64 p1), (8, .int .i64 0), (9, .bool false), (10, .int .i64 s_4), (11, .int .i64 s_6), (81, .slice a_z0 z0.length c_z0), (82, .int .i64 s_4), (83, .slice a_z0 z0.length c_z0), (84, .int .i64 s_6), (85, .slice a_z0 z0.length c_z0), (86, .int .i64 s_6)] rfl ⟨rfl, rfl, rfl, rfl, rfl, rfl, rfl, rfl, rfl, rfl, rfl, rfl, trivial⟩ ?_
        obtain ⟨v_9, hy36, hm⟩ := bind_some hm
        obtain ⟨hc37, hy36⟩ := ix_some hy36
        refine WO_index tbok rfl rfl rfl rfl rfl rfl rfl rfl (OwnE.addr hL8) (by simpa using hc37) ?_
        refine WO_pure tbok 2 [(0, .slice a_z0 z0.length c_z0), (1, .int .i64 p1), (8, .int .i64 0), (9, .bool false), (10, .int .i64 s_4), (11, .int .i64 s_6), (81, .slice a_z0 z0.length c_z0), (82, .int .i64 s_4), (83, .slice a_z0 z0.length c_z0), (84, .int .i64 s_6), (87, .pointer (some (eAddr (.slice a_z0 z0.length c_z0) 1 s_6.toNat))), (89, .slice a_z0 z0.length c_z0), (90, .int .i64 s_4)] rfl ⟨rfl, rfl, rfl, rfl, rfl, rfl, rfl, rfl, rfl, rfl, rfl, rfl, rfl, trivial⟩ ?_
        obtain ⟨v_10, hy38, hm⟩ := bind_some hm
        obtain ⟨hc39, hy38⟩ := ix_some hy38
        refine WO_index tbok rfl rfl rfl rfl rfl rfl rfl rfl (OwnE.addr hL8) (by simpa using hc39) ?_
        refine WO_plan ?_
        refine WT_run ?_
        refine WO_loadO (E := (I1 .u64)) tbok (fun _ => rfl) 0 rfl rfl rfl rfl (fun _ h => h) hL8 rfl hy36 rfl ?_
        refine WO_loadO (E := (I1 .u64)) tbok (fun _ => rfl) 0 rfl rfl rfl rfl (fun _ h => h) hL8 rfl hy38 rfl ?_
        obtain ⟨hc40, hm⟩ := chk_some hm
        refine WO_index tbok rfl rfl rfl rfl rfl rfl rfl rfl (OwnE.addr hL8) (by simpa using hc40) ?_
        refine WO_tree rfl ?_
        refine WT_fin ?_
        refine WO_storeO (E := (I1 .u64)) tbok (fun _ => rfl) 0 v_9 rfl rfl rfl rfl rfl hL8 rfl (by simpa using idx_lt hc40) rfl rfl rfl rfl (fun L41 hL41 => ?_)
        refine WO.cls (C' := St w0 m mc [L41, LR]) (fun _ h => h) ?_
        obtain ⟨hc42, hm⟩ := chk_some hm
        refine WO_index tbok rfl rfl rfl rfl rfl rfl rfl rfl (OwnE.addr hL41) (by simpa using hc42) ?_
        refine WO_storeO (E := (I1 .u64)) tbok (fun _ => rfl) 0 v_10 rfl rfl rfl rfl rfl hL41 rfl (by simpa using idx_lt hc42) rfl rfl rfl rfl (fun L43 hL43 => ?_)
        refine WO.cls (C' := St w0 m mc [L43, LR]) (fun _ h => h) ?_
        refine WO_end ?_
        refine WK_seq ?_
        refine WK_region ?_
        refine WO_pure tbok 3 [(0, .slice a_z0 z0.length c_z0), (1, .int .i64 p1), (8, .int .i64 0), (9, .bool false), (10, .int .i64 (w64 (s_4 + 1))), (11, .int .i64 s_6)] rfl ⟨rfl, rfl, rfl, rfl, rfl, rfl, trivial⟩ ?_
        refine WO_end ?_
        refine WK_seq ?_
        refine WK_region ?_
        refine WO_pure tbok 3 [(0, .slice a_z0 z0.length c_z0), (1, .int .i64 p1), (8, .int .i64 0), (9, .bool false), (10, .int .i64 (w64 (s_4 + 1))), (11, .int .i64 (w64 (s_6 - 1)))] rfl ⟨rfl, rfl, rfl, rfl, rfl, rfl, trivial⟩ ?_
        refine WO_end ?_
        refine WK_seq ?_
        obtain ⟨x46, hx47, hm⟩ := bind_some hm
        refine WK_join (β := (List Int × Int) × (List Ent)) (fun p => p.1 = x46 ∧ OwnE 95 1 (I1 .u64) (.slice a_z0 z0.length c_z0) p.1.1 p.2) (fun p => [(0, .slice a_z0 z0.length c_z0), (1, .int .i64 p1), (8, .int .i64 0), (9, .bool false), (11, .int .i64 p.1.2)]) (fun p => St w0 m mc [p.2, LR]) ?_ (fun hk48 => ?_)
        · rintro ⟨⟨l_14, s_15⟩, L45⟩ ⟨hq54, hL45⟩
          subst hq54
          refine WK.sub (e' := [(0, .slice a_z0 z0.length c_z0), (1, .int .i64 p1), (8, .int .i64 0), (9, .bool false), (11, .int .i64 s_15)]) ⟨rfl, rfl, rfl, rfl, rfl, trivial⟩ (WK.cls (C' := St w0 m mc [L45, LR]) (fun _ h => h) ?_)
          refine WK_seq ?_
          refine WK_plan 13 [0, 1, 2, 3, 4, 5, 6, 8, 9, 10] (.run [7, 11, 12] .fin) follows_ok (by kernel_rfl) St_closed ?_
          refine WO_pure tbok 6 [(0, .slice a_z0 z0.length c_z0), (8, .int .i64 0), (9, .bool false), (11, .int .i64 s_15), (153, .slice a_z0 z0.length c_z0), (154, .int .i64 s_15), (155, .slice a_z0 z0.length c_z0), (156, .int .i64 p1), (157, .slice a_z0 z0.length c_z0), (158, .int .i64 p1)] rfl ⟨rfl, rfl, rfl, rfl, rfl, rfl, rfl, rfl, rfl, rfl, trivial⟩ ?_
          obtain ⟨v_16, hy55, hm⟩ := bind_some hm
          obtain ⟨hc56, hy55⟩ := ix_some hy55
          refine WO_index tbok rfl rfl rfl rfl rfl rfl rfl rfl (OwnE.addr hL45) (by simpa using hc56) ?_
          refine WO_pure tbok 2 [(8, .int .i64 0), (9, .bool false), (11, .int .i64 s_15), (153, .slice a_z0 z0.length c_z0), (154, .int .i64 s_15), (155, .slice a_z0 z0.length c_z0), (156, .int .i64 p1), (159, .pointer (some (eAddr (.slice a_z0 z0.length c_z0) 1 p1.toNat))), (161, .slice a_z0 z0.length c_z0), (162, .int .i64 s_15)] rfl ⟨rfl, rfl, rfl, rfl, rfl, rfl, rfl, rfl, rfl, rfl, trivial⟩ ?_
          obtain ⟨v_17, hy57, hm⟩ := bind_some hm
          obtain ⟨hc58, hy57⟩ := ix_some hy57
          refine WO_index tbok rfl rfl rfl rfl rfl rfl rfl rfl (OwnE.addr hL45) (by simpa using hc58) ?_
          refine WO_plan ?_
          refine WT_run ?_
          refine WO_loadO (E := (I1 .u64)) tbok (fun _ => rfl) 0 rfl rfl rfl rfl (fun _ h => h) hL45 rfl hy55 rfl ?_
          refine WO_loadO (E := (I1 .u64)) tbok (fun _ => rfl) 0 rfl rfl rfl rfl (fun _ h => h) hL45 rfl hy57 rfl ?_
          obtain ⟨hc59, hm⟩ := chk_some hm
          refine WO_index tbok rfl rfl rfl rfl rfl rfl rfl rfl (OwnE.addr hL45) (by simpa using hc59) ?_
          refine WO_tree rfl ?_
          refine WT_fin ?_
          refine WO_storeO (E := (I1 .u64)) tbok (fun _ => rfl) 0 v_16 rfl rfl rfl rfl rfl hL45 rfl (by simpa using idx_lt hc59) rfl rfl rfl rfl (fun L60 hL60 => ?_)
          refine WO.cls (C' := St w0 m mc [L60, LR]) (fun _ h => h) ?_
          obtain ⟨hc61, hm⟩ := chk_some hm
          refine WO_index tbok rfl rfl rfl rfl rfl rfl rfl rfl (OwnE.addr hL60) (by simpa using hc61) ?_
          refine WO_storeO (E := (I1 .u64)) tbok (fun _ => rfl) 0 v_17 rfl rfl rfl rfl rfl hL60 rfl (by simpa using idx_lt hc61) rfl rfl rfl rfl (fun L62 hL62 => ?_)
          refine WO.cls (C' := St w0 m mc [L62, LR]) (fun _ h => h) ?_
          refine WO_end ?_
          refine WK_seq ?_
          refine WK_region ?_
          refine WO_pure tbok 3 [(8, .int .i64 s_15), (9, .bool false)] rfl ⟨rfl, rfl, trivial⟩ ?_
          refine WO_end ?_
          cases hm
          exact WK_retS (RLc_tmp rfl (RLc_tmp rfl RLc_nil)) (fun _ h => ⟨L62, rfl, hL62, h⟩)
        · refine WK_block ?_
          refine WK_loop (S := List Int × Int × Int) (G := List Ent) (fun s => slices_partitionOrdered_uint64_s3 p1 s.1 s.2.1 s.2.2) (fun s g => [(0, .slice a_z0 z0.length c_z0), (1, .int .i64 p1), (8, .int .i64 0), (9, .bool false), (10, .int .i64 s.2.1), (11, .int .i64 s.2.2)]) (fun s g => St w0 m mc [g, LR]) (fun s g => OwnE 95 1 (I1 .u64) (.slice a_z0 z0.length c_z0) s.1 g) FUEL (((((z0.set p1.toNat v_1).set p3.toNat v_2).set s_4.toNat v_9).set s_6.toNat v_10), w64 (s_4 + 1), w64 (s_6 - 1)) L43 x46 hx47 hL43 ⟨rfl, rfl, rfl, rfl, rfl, rfl, trivial⟩ (fun _ h => h) ?_
          rintro ⟨l_11, s_12, s_13⟩ L44 o50 fl51 hm49 hL44 hn52 hd53
          have hm49 : slices_partitionOrdered_uint64_s3 p1 l_11 s_12 s_13 = some o50 := hm49
          unfold slices_partitionOrdered_uint64_s3 at hm49
          refine WK.sub (e' := [(0, .slice a_z0 z0.length c_z0), (1, .int .i64 p1), (8, .int .i64 0), (9, .bool false), (10, .int .i64 s_12), (11, .int .i64 s_13)]) ⟨rfl, rfl, rfl, rfl, rfl, rfl, trivial⟩ (WK.cls (C' := St w0 m mc [L44, LR]) (fun _ h => h) ?_)
          refine WK_block ?_
          refine WK_seq ?_
          obtain ⟨x63, hx64, hm49⟩ := bind_some hm49
          refine WK_join (β := Int × Unit) (fun p => p.1 = x63) (fun p => [(0, .slice a_z0 z0.length c_z0), (1, .int .i64 p1), (8, .int .i64 0), (9, .bool false), (10, .int .i64 p.1), (11, .int .i64 s_13)]) (fun p => St w0 m mc [L44, LR]) ?_ (fun hk65 => ?_)
          · rintro ⟨s_19, ⟨⟩⟩ hq71
            subst hq71
            refine WK.sub (e' := [(0, .slice a_z0 z0.length c_z0), (1, .int .i64 p1), (8, .int .i64 0), (9, .bool false), (10, .int .i64 s_19), (11, .int .i64 s_13)]) ⟨rfl, rfl, rfl, rfl, rfl, rfl, trivial⟩ (WK.cls (C' := St w0 m mc [L44, LR]) (fun _ h => h) ?_)
            refine WK_seq ?_
            obtain ⟨x72, hx73, hm49⟩ := bind_some hm49
            refine WK_join (β := Int × Unit) (fun p => p.1 = x72) (fun p => [(0, .slice a_z0 z0.length c_z0), (1, .int .i64 p1), (8, .int .i64 0), (9, .bool false), (10, .int .i64 s_19), (11, .int .i64 p.1)]) (fun p => St w0 m mc [L44, LR]) ?_ (fun hk74 => ?_)
            · rintro ⟨s_21, ⟨⟩⟩ hq80
              subst hq80
              refine WK.sub (e' := [(0, .slice a_z0 z0.length c_z0), (1, .int .i64 p1), (8, .int .i64 0), (9, .bool false), (10, .int .i64 s_19), (11, .int .i64 s_21)]) ⟨rfl, rfl, rfl, rfl, rfl, rfl, trivial⟩ (WK.cls (C' := St w0 m mc [L44, LR]) (fun _ h => h) ?_)
              refine WK_seq ?_
              refine WK_seq ?_
              refine WK_region ?_
              refine WO_pure tbok 3 [(0, .slice a_z0 z0.length c_z0), (1, .int .i64 p1), (8, .int .i64 0), (9, .bool false), (10, .int .i64 s_19), (11, .int .i64 s_21), (134, .bool (decide (s_21 < s_19)))] rfl ⟨rfl, rfl, rfl, rfl, rfl, rfl, rfl, trivial⟩ ?_
              refine WO_end ?_
              refine WK_cond (b := decide (s_21 < s_19)) rfl (fun hb81 => ?_) (fun hb81 => ?_)
              · have hm49 := ifT hb81 hm49
                refine WK_exit rfl ?_
                cases hm49
                refine WK.sub ?_ (WK.cls (fun _ h => h) (hk48 ((l_11, s_21), L44) ⟨(hd53 _ rfl), hL44⟩))
                exact ⟨rfl, rfl, rfl, rfl, rfl, trivial⟩
              · have hm49 := ifF hb81 hm49
                refine WK_skip ?_
                refine WK_seq ?_
                refine WK_plan 13 [0, 1, 2, 3, 4, 5, 6, 8, 9, 10] (.run [7, 11, 12] .fin) follows_ok (by kernel_rfl) St_closed ?_
                refine WO_pure tbok 6 [(0, .slice a_z0 z0.length c_z0), (1, .int .i64 p1), (8, .int .i64 0), (9, .bool false), (10, .int .i64 s_19), (11, .int .i64 s_21), (135, .slice a_z0 z0.length c_z0), (136, .int .i64 s_19), (137, .slice a_z0 z0.length c_z0), (138, .int .i64 s_21), (139, .slice a_z0 z0.length c_z0), (140, .int .i64 s_21)] rfl ⟨rfl, rfl, rfl, rfl, rfl, rfl, rfl, rfl, rfl, rfl, rfl, rfl, trivial⟩ ?_
                obtain ⟨v_22, hy82, hm49⟩ := bind_some hm49
                obtain ⟨hc83, hy82⟩ := ix_some hy82
                refine WO_index tbok rfl rfl rfl rfl rfl rfl rfl rfl (OwnE.addr hL44) (by simpa using hc83) ?_
                refine WO_pure tbok 2 [(0, .slice a_z0 z0.length c_z0), (1, .int .i64 p1), (8, .int .i64 0), (9, .bool false), (10, .int .i64 s_19), (11, .int .i64 s_21), (135, .slice a_z0 z0.length c_z0), (136, .int .i64 s_19), (137, .slice a_z0 z0.length c_z0), (138, .int .i64 s_21), (141, .pointer (some (eAddr (.slice a_z0 z0.length c_z0) 1 s_21.toNat))), (143, .slice a_z0 z0.length c_z0), (144, .int .i64 s_19)] rfl ⟨rfl, rfl, rfl, rfl, rfl, rfl, rfl, rfl, rfl, rfl, rfl, rfl, rfl, trivial⟩ ?_
                obtain ⟨v_23, hy84, hm49⟩ := bind_some hm49
                obtain ⟨hc85, hy84⟩ := ix_some hy84
                refine WO_index tbok rfl rfl rfl rfl rfl rfl rfl rfl (OwnE.addr hL44) (by simpa using hc85) ?_
                refine WO_plan ?_
                refine WT_run ?_
                refine WO_loadO (E := (I1 .u64)) tbok (fun _ => rfl) 0 rfl rfl rfl rfl (fun _ h => h) hL44 rfl hy82 rfl ?_
                refine WO_loadO (E := (I1 .u64)) tbok (fun _ => rfl) 0 rfl rfl rfl rfl (fun _ h => h) hL44 rfl hy84 rfl ?_
                obtain ⟨hc86, hm49⟩ := chk_some hm49
                refine WO_index tbok rfl rfl rfl rfl rfl rfl rfl rfl (OwnE.addr hL44) (by simpa using hc86) ?_
                refine WO_tree rfl ?_
                refine WT_fin ?_
                refine WO_storeO (E := (I1 .u64)) tbok (fun _ => rfl) 0 v_22 rfl rfl rfl rfl rfl hL44 rfl (by simpa using idx_lt hc86) rfl rfl rfl rfl (fun L87 hL87 => ?_)
                refine WO.cls (C' := St w0 m mc [L87, LR]) (fun _ h => h) ?_
                obtain ⟨hc88, hm49⟩ := chk_some hm49
                refine WO_index tbok rfl rfl rfl rfl rfl rfl rfl rfl (OwnE.addr hL87) (by simpa using hc88) ?_
                refine WO_storeO (E := (I1 .u64)) tbok (fun _ => rfl) 0 v_23 rfl rfl rfl rfl rfl hL87 rfl (by simpa using idx_lt hc88) rfl rfl rfl rfl (fun L89 hL89 => ?_)
                refine WO.cls (C' := St w0 m mc [L89, LR]) (fun _ h => h) ?_
                refine WO_end ?_
                refine WK_seq ?_
                refine WK_region ?_
                refine WO_pure tbok 3 [(0, .slice a_z0 z0.length c_z0), (1, .int .i64 p1), (8, .int .i64 0), (9, .bool false), (10, .int .i64 (w64 (s_19 + 1))), (11, .int .i64 s_21)] rfl ⟨rfl, rfl, rfl, rfl, rfl, rfl, trivial⟩ ?_
                refine WO_end ?_
                refine WK_region ?_
                refine WO_pure tbok 3 [(0, .slice a_z0 z0.length c_z0), (1, .int .i64 p1), (8, .int .i64 0), (9, .bool false), (10, .int .i64 (w64 (s_19 + 1))), (11, .int .i64 (w64 (s_21 - 1)))] rfl ⟨rfl, rfl, rfl, rfl, rfl, rfl, trivial⟩ ?_
                refine WO_end ?_
                refine WK_blk ?_
                cases hm49
                refine WK.sub ?_ (WK.cls (fun _ h => h) (hn52 _ L89 rfl hL89))
                exact ⟨rfl, rfl, rfl, rfl, rfl, rfl, trivial⟩
            · refine WK_block ?_
              refine WK_loop (S := Int) (G := Unit) (fun s => slices_partitionOrdered_uint64_s5 p1 l_11 s_19 s) (fun s g => [(0, .slice a_z0 z0.length c_z0), (1, .int .i64 p1), (8, .int .i64 0), (9, .bool false), (10, .int .i64 s_19), (11, .int .i64 s)]) (fun s g => St w0 m mc [L44, LR]) (fun s g => True) FUEL s_13 () x72 hx73 trivial ⟨rfl, rfl, rfl, rfl, rfl, rfl, trivial⟩ (fun _ h => h) ?_
              rintro s_20 ⟨⟩ o76 fl77 hm75 - hn78 hd79
              have hm75 : slices_partitionOrdered_uint64_s5 p1 l_11 s_19 s_20 = some o76 := hm75
              unfold slices_partitionOrdered_uint64_s5 at hm75
              refine WK.sub (e' := [(0, .slice a_z0 z0.length c_z0), (1, .int .i64 p1), (8, .int .i64 0), (9, .bool false), (10, .int .i64 s_19), (11, .int .i64 s_20)]) ⟨rfl, rfl, rfl, rfl, rfl, rfl, trivial⟩ (WK.cls (C' := St w0 m mc [L44, LR]) (fun _ h => h) ?_)
              refine WK_seq ?_
              refine WK_seq ?_
              obtain ⟨s_24, hx90, hm75⟩ := bind_some hm75
              refine WK_meet [(0, .slice a_z0 z0.length c_z0), (1, .int .i64 p1), (8, .int .i64 0), (9, .bool false), (10, .int .i64 s_19), (11, .int .i64 s_20), (129, .bool s_24)] (St w0 m mc [L44, LR]) ?_ (fun hk91 => ?_)
              · refine WK_cond (b := s_24) rfl (fun hb92 => ?_) (fun hb92 => ?_)
                · have hm75 := ifT hb92 hm75
                  refine WK_skip ?_
                  refine WK_block ?_
                  refine WK_region ?_
                  refine WO_pure tbok 3 [(0, .slice a_z0 z0.length c_z0), (1, .int .i64 p1), (8, .int .i64 0), (9, .bool false), (10, .int .i64 s_19), (11, .int .i64 (w64 (s_20 - 1)))] rfl ⟨rfl, rfl, rfl, rfl, rfl, rfl, trivial⟩ ?_
                  refine WO_end ?_
                  refine WK_blk ?_
                  cases hm75
                  refine WK.sub ?_ (WK.cls (fun _ h => h) (hn78 _ () rfl trivial))
                  exact ⟨rfl, rfl, rfl, rfl, rfl, rfl, trivial⟩
                · have hm75 := ifF hb92 hm75
                  refine WK_exit rfl ?_
                  cases hm75
                  refine WK.sub ?_ (WK.cls (fun _ h => h) (hk74 (s_20, ()) (hd79 _ rfl)))
                  exact ⟨rfl, rfl, rfl, rfl, rfl, rfl, trivial⟩
              · refine WK_draw 15 [0, 1, 2, 3, 4, 5, 6, 7, 8, 9, 10, 11, 12, 13, 14] follows_ok (by kernel_rfl) St_closed ?_
                refine WO_pure tbok 4 [(0, .slice a_z0 z0.length c_z0), (1, .int .i64 p1), (8, .int .i64 0), (9, .bool false), (10, .int .i64 s_19), (11, .int .i64 s_20), (118, .bool (decide (s_19 ≤ s_20)))] rfl ⟨rfl, rfl, rfl, rfl, rfl, rfl, rfl, trivial⟩ ?_
                refine WO_split (d := 118) (b := decide (s_19 ≤ s_20)) rfl (fun hb93 => ?_) (fun hb93 => ?_)
                · have hx90 := ifT hb93 hx90
                  refine WO_pure tbok 2 [(0, .slice a_z0 z0.length c_z0), (1, .int .i64 p1), (8, .int .i64 0), (9, .bool false), (10, .int .i64 s_19), (11, .int .i64 s_20), (118, .bool true), (119, .slice a_z0 z0.length c_z0), (120, .int .i64 s_20)] rfl ⟨rfl, rfl, rfl, rfl, rfl, rfl, rfl, rfl, rfl, trivial⟩ ?_
                  obtain ⟨v_25, hy94, hx90⟩ := bind_some hx90
                  obtain ⟨hc95, hy94⟩ := ix_some hy94
                  refine WO_index tbok rfl rfl rfl rfl rfl rfl rfl rfl (OwnE.addr hL44) (by simpa using hc95) ?_
                  refine WO_loadO (E := (I1 .u64)) tbok (fun _ => rfl) 0 rfl rfl rfl rfl (fun _ h => h) hL44 rfl hy94 rfl ?_
                  refine WO_pure tbok 2 [(0, .slice a_z0 z0.length c_z0), (1, .int .i64 p1), (8, .int .i64 0), (9, .bool false), (10, .int .i64 s_19), (11, .int .i64 s_20), (118, .bool true), (122, .int .u64 v_25), (123, .slice a_z0 z0.length c_z0), (124, .int .i64 p1)] rfl ⟨rfl, rfl, rfl, rfl, rfl, rfl, rfl, rfl, rfl, rfl, trivial⟩ ?_
                  obtain ⟨v_26, hy96, hx90⟩ := bind_some hx90
                  obtain ⟨hc97, hy96⟩ := ix_some hy96
                  refine WO_index tbok rfl rfl rfl rfl rfl rfl rfl rfl (OwnE.addr hL44) (by simpa using hc97) ?_
                  refine WO_loadO (E := (I1 .u64)) tbok (fun _ => rfl) 0 rfl rfl rfl rfl (fun _ h => h) hL44 rfl hy96 rfl ?_
                  obtain ⟨y_27, hc98, hx90⟩ := bind_some hx90
                  refine WO_call0 (.bool y_27) rfl rfl St_closed rfl rfl rfl rfl St_closed ⟨93, #[], #[], rfl, callable_93, fun w hw => ⟨_, hw.sat, cmp_Less_uint64_walk hc98⟩⟩ ?_
                  refine WO_pure tbok 2 [(0, .slice a_z0 z0.length c_z0), (1, .int .i64 p1), (8, .int .i64 0), (9, .bool false), (10, .int .i64 s_19), (11, .int .i64 s_20), (129, .bool (!y_27))] rfl ⟨rfl, rfl, rfl, rfl, rfl, rfl, rfl, trivial⟩ ?_
                  refine WO_tail ?_
                  refine WO_end ?_
                  cases hx90
                  refine WK.sub ?_ (WK.cls (fun _ h => h) hk91)
                  exact ⟨rfl, rfl, rfl, rfl, rfl, rfl, rfl, trivial⟩
                · have hx90 := ifF hb93 hx90
                  refine WO_pure tbok 8 [(0, .slice a_z0 z0.length c_z0), (1, .int .i64 p1), (8, .int .i64 0), (9, .bool false), (10, .int .i64 s_19), (11, .int .i64 s_20), (118, .bool false)] rfl ⟨rfl, rfl, rfl, rfl, rfl, rfl, rfl, trivial⟩ ?_
                  refine WO_skip rfl rfl ?_
                  refine WO_pure tbok 2 [(0, .slice a_z0 z0.length c_z0), (1, .int .i64 p1), (8, .int .i64 0), (9, .bool false), (10, .int .i64 s_19), (11, .int .i64 s_20), (129, .bool false)] rfl ⟨rfl, rfl, rfl, rfl, rfl, rfl, rfl, trivial⟩ ?_
                  refine WO_tail ?_
                  refine WO_end ?_
                  cases hx90
                  refine WK.sub ?_ (WK.cls (fun _ h => h) hk91)
                  exact ⟨rfl, rfl, rfl, rfl, rfl, rfl, rfl, trivial⟩
          · refine WK_block ?_
            refine WK_loop (S := Int) (G := Unit) (fun s => slices_partitionOrdered_uint64_s4 p1 l_11 s_13 s) (fun s g => [(0, .slice a_z0 z0.length c_z0), (1, .int .i64 p1), (8, .int .i64 0), (9, .bool false), (10, .int .i64 s), (11, .int .i64 s_13)]) (fun s g => St w0 m mc [L44, LR]) (fun s g => True) FUEL s_12 () x63 hx64 trivial ⟨rfl, rfl, rfl, rfl, rfl, rfl, trivial⟩ (fun _ h => h) ?_
            rintro s_18 ⟨⟩ o67 fl68 hm66 - hn69 hd70
            have hm66 : slices_partitionOrdered_uint64_s4 p1 l_11 s_13 s_18 = some o67 := hm66
            unfold slices_partitionOrdered_uint64_s4 at hm66
            refine WK.sub (e' := [(0, .slice a_z0 z0.length c_z0), (1, .int .i64 p1), (8, .int .i64 0), (9, .bool false), (10, .int .i64 s_18), (11, .int .i64 s_13)]) ⟨rfl, rfl, rfl, rfl, rfl, rfl, trivial⟩ (WK.cls (C' := St w0 m mc [L44, LR]) (fun _ h => h) ?_)
            refine WK_seq ?_
            refine WK_seq ?_
            obtain ⟨s_28, hx99, hm66⟩ := bind_some hm66
            refine WK_meet [(0, .slice a_z0 z0.length c_z0), (1, .int .i64 p1), (8, .int .i64 0), (9, .bool false), (10, .int .i64 s_18), (11, .int .i64 s_13), (112, .bool s_28)] (St w0 m mc [L44, LR]) ?_ (fun hk100 => ?_)
            · refine WK_cond (b := s_28) rfl (fun hb101 => ?_) (fun hb101 => ?_)
              · have hm66 := ifT hb101 hm66
                refine WK_skip ?_
                refine WK_block ?_
                refine WK_region ?_
                refine WO_pure tbok 3 [(0, .slice a_z0 z0.length c_z0), (1, .int .i64 p1), (8, .int .i64 0), (9, .bool false), (10, .int .i64 (w64 (s_18 + 1))), (11, .int .i64 s_13)] rfl ⟨rfl, rfl, rfl, rfl, rfl, rfl, trivial⟩ ?_
                refine WO_end ?_
                refine WK_blk ?_
                cases hm66
                refine WK.sub ?_ (WK.cls (fun _ h => h) (hn69 _ () rfl trivial))
                exact ⟨rfl, rfl, rfl, rfl, rfl, rfl, trivial⟩
              · have hm66 := ifF hb101 hm66
                refine WK_exit rfl ?_
                cases hm66
                refine WK.sub ?_ (WK.cls (fun _ h => h) (hk65 (s_18, ()) (hd70 _ rfl)))
                exact ⟨rfl, rfl, rfl, rfl, rfl, rfl, trivial⟩
            · refine WK_draw 14 [0, 1, 2, 3, 4, 5, 6, 7, 8, 9, 10, 11, 12, 13] follows_ok (by kernel_rfl) St_closed ?_
              refine WO_pure tbok 4 [(0, .slice a_z0 z0.length c_z0), (1, .int .i64 p1), (8, .int .i64 0), (9, .bool false), (10, .int .i64 s_18), (11, .int .i64 s_13), (102, .bool (decide (s_18 ≤ s_13)))] rfl ⟨rfl, rfl, rfl, rfl, rfl, rfl, rfl, trivial⟩ ?_
              refine WO_split (d := 102) (b := decide (s_18 ≤ s_13)) rfl (fun hb102 => ?_) (fun hb102 => ?_)
              · have hx99 := ifT hb102 hx99
                refine WO_pure tbok 2 [(0, .slice a_z0 z0.length c_z0), (1, .int .i64 p1), (8, .int .i64 0), (9, .bool false), (10, .int .i64 s_18), (11, .int .i64 s_13), (102, .bool true), (103, .slice a_z0 z0.length c_z0), (104, .int .i64 s_18)] rfl ⟨rfl, rfl, rfl, rfl, rfl, rfl, rfl, rfl, rfl, trivial⟩ ?_
                obtain ⟨v_29, hy103, hx99⟩ := bind_some hx99
                obtain ⟨hc104, hy103⟩ := ix_some hy103
                refine WO_index tbok rfl rfl rfl rfl rfl rfl rfl rfl (OwnE.addr hL44) (by simpa using hc104) ?_
                refine WO_loadO (E := (I1 .u64)) tbok (fun _ => rfl) 0 rfl rfl rfl rfl (fun _ h => h) hL44 rfl hy103 rfl ?_
                refine WO_pure tbok 2 [(0, .slice a_z0 z0.length c_z0), (1, .int .i64 p1), (8, .int .i64 0), (9, .bool false), (10, .int .i64 s_18), (11, .int .i64 s_13), (102, .bool true), (106, .int .u64 v_29), (107, .slice a_z0 z0.length c_z0), (108, .int .i64 p1)] rfl ⟨rfl, rfl, rfl, rfl, rfl, rfl, rfl, rfl, rfl, rfl, trivial⟩ ?_
                obtain ⟨v_30, hy105, hx99⟩ := bind_some hx99
                obtain ⟨hc106, hy105⟩ := ix_some hy105
                refine WO_index tbok rfl rfl rfl rfl rfl rfl rfl rfl (OwnE.addr hL44) (by simpa using hc106) ?_
                refine WO_loadO (E := (I1 .u64)) tbok (fun _ => rfl) 0 rfl rfl rfl rfl (fun _ h => h) hL44 rfl hy105 rfl ?_
                obtain ⟨y_31, hc107, hx99⟩ := bind_some hx99
                refine WO_call0 (.bool y_31) rfl rfl St_closed rfl rfl rfl rfl St_closed ⟨93, #[], #[], rfl, callable_93, fun w hw => ⟨_, hw.sat, cmp_Less_uint64_walk hc107⟩⟩ ?_
                refine WO_pure tbok 1 [(0, .slice a_z0 z0.length c_z0), (1, .int .i64 p1), (8, .int .i64 0), (9, .bool false), (10, .int .i64 s_18), (11, .int .i64 s_13), (112, .bool y_31)] rfl ⟨rfl, rfl, rfl, rfl, rfl, rfl, rfl, trivial⟩ ?_
                refine WO_tail ?_
                refine WO_end ?_
                cases hx99
                refine WK.sub ?_ (WK.cls (fun _ h => h) hk100)
                exact ⟨rfl, rfl, rfl, rfl, rfl, rfl, rfl, trivial⟩
              · have hx99 := ifF hb102 hx99
                refine WO_pure tbok 8 [(0, .slice a_z0 z0.length c_z0), (1, .int .i64 p1), (8, .int .i64 0), (9, .bool false), (10, .int .i64 s_18), (11, .int .i64 s_13), (102, .bool false)] rfl ⟨rfl, rfl, rfl, rfl, rfl, rfl, rfl, trivial⟩ ?_
                refine WO_skip rfl rfl ?_
                refine WO_pure tbok 1 [(0, .slice a_z0 z0.length c_z0), (1, .int .i64 p1), (8, .int .i64 0), (9, .bool false), (10, .int .i64 s_18), (11, .int .i64 s_13), (112, .bool false)] rfl ⟨rfl, rfl, rfl, rfl, rfl, rfl, rfl, trivial⟩ ?_
                refine WO_tail ?_
                refine WO_end ?_
                cases hx99
                refine WK.sub ?_ (WK.cls (fun _ h => h) hk100)
                exact ⟨rfl, rfl, rfl, rfl, rfl, rfl, rfl, trivial⟩
    · refine WK_block ?_
      refine WK_loop (S := Int) (G := Unit) (fun s => slices_partitionOrdered_uint64_s2 z0 p1 p3 v_1 v_2 s_4 s) (fun s g => [(0, .slice a_z0 z0.length c_z0), (1, .int .i64 p1), (8, .int .i64 0), (9, .bool false), (10, .int .i64 s_4), (11, .int .i64 s)]) (fun s g => St w0 m mc [L8, LR]) (fun s g => True) FUEL (w64 (p2 - 1)) () x18 hx19 trivial ⟨rfl, rfl, rfl, rfl, rfl, rfl, trivial⟩ (fun _ h => h) ?_
      rintro s_5 ⟨⟩ o22 fl23 hm21 - hn24 hd25
      have hm21 : slices_partitionOrdered_uint64_s2 z0 p1 p3 v_1 v_2 s_4 s_5 = some o22 := hm21
      unfold slices_partitionOrdered_uint64_s2 at hm21
      refine WK.sub (e' := [(0, .slice a_z0 z0.length c_z0), (1, .int .i64 p1), (8, .int .i64 0), (9, .bool false), (10, .int .i64 s_4), (11, .int .i64 s_5)]) ⟨rfl, rfl, rfl, rfl, rfl, rfl, trivial⟩ (WK.cls (C' := St w0 m mc [L8, LR]) (fun _ h => h) ?_)
      refine WK_seq ?_
      refine WK_seq ?_
      obtain ⟨s_32, hx108, hm21⟩ := bind_some hm21
      refine WK_meet [(0, .slice a_z0 z0.length c_z0), (1, .int .i64 p1), (8, .int .i64 0), (9, .bool false), (10, .int .i64 s_4), (11, .int .i64 s_5), (60, .bool s_32)] (St w0 m mc [L8, LR]) ?_ (fun hk109 => ?_)
      · refine WK_cond (b := s_32) rfl (fun hb110 => ?_) (fun hb110 => ?_)
        · have hm21 := ifT hb110 hm21
          refine WK_skip ?_
          refine WK_block ?_
          refine WK_region ?_
          refine WO_pure tbok 3 [(0, .slice a_z0 z0.length c_z0), (1, .int .i64 p1), (8, .int .i64 0), (9, .bool false), (10, .int .i64 s_4), (11, .int .i64 (w64 (s_5 - 1)))] rfl ⟨rfl, rfl, rfl, rfl, rfl, rfl, trivial⟩ ?_
          refine WO_end ?_
          refine WK_blk ?_
          cases hm21
          refine WK.sub ?_ (WK.cls (fun _ h => h) (hn24 _ () rfl trivial))
          exact ⟨rfl, rfl, rfl, rfl, rfl, rfl, trivial⟩
        · have hm21 := ifF hb110 hm21
          refine WK_exit rfl ?_
          cases hm21
          refine WK.sub ?_ (WK.cls (fun _ h => h) (hk20 (s_5, ()) (hd25 _ rfl)))
          exact ⟨rfl, rfl, rfl, rfl, rfl, rfl, trivial⟩
      · refine WK_draw 15 [0, 1, 2, 3, 4, 5, 6, 7, 8, 9, 10, 11, 12, 13, 14] follows_ok (by kernel_rfl) St_closed ?_
        refine WO_pure tbok 4 [(0, .slice a_z0 z0.length c_z0), (1, .int .i64 p1), (8, .int .i64 0), (9, .bool false), (10, .int .i64 s_4), (11, .int .i64 s_5), (49, .bool (decide (s_4 ≤ s_5)))] rfl ⟨rfl, rfl, rfl, rfl, rfl, rfl, rfl, trivial⟩ ?_
        refine WO_split (d := 49) (b := decide (s_4 ≤ s_5)) rfl (fun hb111 => ?_) (fun hb111 => ?_)
        · have hx108 := ifT hb111 hx108
          refine WO_pure tbok 2 [(0, .slice a_z0 z0.length c_z0), (1, .int .i64 p1), (8, .int .i64 0), (9, .bool false), (10, .int .i64 s_4), (11, .int .i64 s_5), (49, .bool true), (50, .slice a_z0 z0.length c_z0), (51, .int .i64 s_5)] rfl ⟨rfl, rfl, rfl, rfl, rfl, rfl, rfl, rfl, rfl, trivial⟩ ?_
          obtain ⟨v_33, hy112, hx108⟩ := bind_some hx108
          obtain ⟨hc113, hy112⟩ := ix_some hy112
          refine WO_index tbok rfl rfl rfl rfl rfl rfl rfl rfl (OwnE.addr hL8) (by simpa using hc113) ?_
          refine WO_loadO (E := (I1 .u64)) tbok (fun _ => rfl) 0 rfl rfl rfl rfl (fun _ h => h) hL8 rfl hy112 rfl ?_
          refine WO_pure tbok 2 [(0, .slice a_z0 z0.length c_z0), (1, .int .i64 p1), (8, .int .i64 0), (9, .bool false), (10, .int .i64 s_4), (11, .int .i64 s_5), (49, .bool true), (53, .int .u64 v_33), (54, .slice a_z0 z0.length c_z0), (55, .int .i64 p1)] rfl ⟨rfl, rfl, rfl, rfl, rfl, rfl, rfl, rfl, rfl, rfl, trivial⟩ ?_
          obtain ⟨v_34, hy114, hx108⟩ := bind_some hx108
          obtain ⟨hc115, hy114⟩ := ix_some hy114
          refine WO_index tbok rfl rfl rfl rfl rfl rfl rfl rfl (OwnE.addr hL8) (by simpa using hc115) ?_
          refine WO_loadO (E := (I1 .u64)) tbok (fun _ => rfl) 0 rfl rfl rfl rfl (fun _ h => h) hL8 rfl hy114 rfl ?_
          obtain ⟨y_35, hc116, hx108⟩ := bind_some hx108
          refine WO_call0 (.bool y_35) rfl rfl St_closed rfl rfl rfl rfl St_closed ⟨93, #[], #[], rfl, callable_93, fun w hw => ⟨_, hw.sat, cmp_Less_uint64_walk hc116⟩⟩ ?_
          refine WO_pure tbok 2 [(0, .slice a_z0 z0.length c_z0), (1, .int .i64 p1), (8, .int .i64 0), (9, .bool false), (10, .int .i64 s_4), (11, .int .i64 s_5), (60, .bool (!y_35))] rfl ⟨rfl, rfl, rfl, rfl, rfl, rfl, rfl, trivial⟩ ?_
          refine WO_tail ?_
          refine WO_end ?_
          cases hx108
          refine WK.sub ?_ (WK.cls (fun _ h => h) hk109)
          exact ⟨rfl, rfl, rfl, rfl, rfl, rfl, rfl, trivial⟩
        · have hx108 := ifF hb111 hx108
          refine WO_pure tbok 8 [(0, .slice a_z0 z0.length c_z0), (1, .int .i64 p1), (8, .int .i64 0), (9, .bool false), (10, .int .i64 s_4), (11, .int .i64 s_5), (49, .bool false)] rfl ⟨rfl, rfl, rfl, rfl, rfl, rfl, rfl, trivial⟩ ?_
          refine WO_skip rfl rfl ?_
          refine WO_pure tbok 2 [(0, .slice a_z0 z0.length c_z0), (1, .int .i64 p1), (8, .int .i64 0), (9, .bool false), (10, .int .i64 s_4), (11, .int .i64 s_5), (60, .bool false)] rfl ⟨rfl, rfl, rfl, rfl, rfl, rfl, rfl, trivial⟩ ?_
          refine WO_tail ?_
          refine WO_end ?_
          cases hx108
          refine WK.sub ?_ (WK.cls (fun _ h => h) hk109)
          exact ⟨rfl, rfl, rfl, rfl, rfl, rfl, rfl, trivial⟩
  · refine WK_block ?_
    refine WK_loop (S := Int) (G := Unit) (fun s => slices_partitionOrdered_uint64_s1 z0 p1 p2 p3 v_1 v_2 s) (fun s g => [(0, .slice a_z0 z0.length c_z0), (1, .int .i64 p1), (8, .int .i64 0), (9, .bool false), (10, .int .i64 s), (11, .int .i64 (w64 (p2 - 1)))]) (fun s g => St w0 m mc [L8, LR]) (fun s g => True) FUEL (w64 (p1 + 1)) () x9 hx10 trivial ⟨rfl, rfl, rfl, rfl, rfl, rfl, trivial⟩ (fun _ h => h) ?_
    rintro s_3 ⟨⟩ o13 fl14 hm12 - hn15 hd16
    have hm12 : slices_partitionOrdered_uint64_s1 z0 p1 p2 p3 v_1 v_2 s_3 = some o13 := hm12
    unfold slices_partitionOrdered_uint64_s1 at hm12
    refine WK.sub (e' := [(0, .slice a_z0 z0.length c_z0), (1, .int .i64 p1), (8, .int .i64 0), (9, .bool false), (10, .int .i64 s_3), (11, .int .i64 (w64 (p2 - 1)))]) ⟨rfl, rfl, rfl, rfl, rfl, rfl, trivial⟩ (WK.cls (C' := St w0 m mc [L8, LR]) (fun _ h => h) ?_)
    refine WK_seq ?_
    refine WK_seq ?_
    obtain ⟨s_36, hx117, hm12⟩ := bind_some hm12
    refine WK_meet [(0, .slice a_z0 z0.length c_z0), (1, .int .i64 p1), (8, .int .i64 0), (9, .bool false), (10, .int .i64 s_3), (11, .int .i64 (w64 (p2 - 1))), (43, .bool s_36)] (St w0 m mc [L8, LR]) ?_ (fun hk118 => ?_)
    · refine WK_cond (b := s_36) rfl (fun hb119 => ?_) (fun hb119 => ?_)
      · have hm12 := ifT hb119 hm12
        refine WK_skip ?_
        refine WK_block ?_
        refine WK_region ?_
        refine WO_pure tbok 3 [(0, .slice a_z0 z0.length c_z0), (1, .int .i64 p1), (8, .int .i64 0), (9, .bool false), (10, .int .i64 (w64 (s_3 + 1))), (11, .int .i64 (w64 (p2 - 1)))] rfl ⟨rfl, rfl, rfl, rfl, rfl, rfl, trivial⟩ ?_
        refine WO_end ?_
        refine WK_blk ?_
        cases hm12
        refine WK.sub ?_ (WK.cls (fun _ h => h) (hn15 _ () rfl trivial))
        exact ⟨rfl, rfl, rfl, rfl, rfl, rfl, trivial⟩
      · have hm12 := ifF hb119 hm12
        refine WK_exit rfl ?_
        cases hm12
        refine WK.sub ?_ (WK.cls (fun _ h => h) (hk11 (s_3, ()) (hd16 _ rfl)))
        exact ⟨rfl, rfl, rfl, rfl, rfl, rfl, trivial⟩
    · refine WK_draw 14 [0, 1, 2, 3, 4, 5, 6, 7, 8, 9, 10, 11, 12, 13] follows_ok (by kernel_rfl) St_closed ?_
      refine WO_pure tbok 4 [(0, .slice a_z0 z0.length c_z0), (1, .int .i64 p1), (8, .int .i64 0), (9, .bool false), (10, .int .i64 s_3), (11, .int .i64 (w64 (p2 - 1))), (33, .bool (decide (s_3 ≤ (w64 (p2 - 1)))))] rfl ⟨rfl, rfl, rfl, rfl, rfl, rfl, rfl, trivial⟩ ?_
      refine WO_split (d := 33) (b := decide (s_3 ≤ (w64 (p2 - 1)))) rfl (fun hb120 => ?_) (fun hb120 => ?_)
      · have hx117 := ifT hb120 hx117
        refine WO_pure tbok 2 [(0, .slice a_z0 z0.length c_z0), (1, .int .i64 p1), (8, .int .i64 0), (9, .bool false), (10, .int .i64 s_3), (11, .int .i64 (w64 (p2 - 1))), (33, .bool true), (34, .slice a_z0 z0.length c_z0), (35, .int .i64 s_3)] rfl ⟨rfl, rfl, rfl, rfl, rfl, rfl, rfl, rfl, rfl, trivial⟩ ?_
        obtain ⟨v_37, hy121, hx117⟩ := bind_some hx117
        obtain ⟨hc122, hy121⟩ := ix_some hy121
        refine WO_index tbok rfl rfl rfl rfl rfl rfl rfl rfl (OwnE.addr hL8) (by simpa using hc122) ?_
        refine WO_loadO (E := (I1 .u64)) tbok (fun _ => rfl) 0 rfl rfl rfl rfl (fun _ h => h) hL8 rfl hy121 rfl ?_
        refine WO_pure tbok 2 [(0, .slice a_z0 z0.length c_z0), (1, .int .i64 p1), (8, .int .i64 0), (9, .bool false), (10, .int .i64 s_3), (11, .int .i64 (w64 (p2 - 1))), (33, .bool true), (37, .int .u64 v_37), (38, .slice a_z0 z0.length c_z0), (39, .int .i64 p1)] rfl ⟨rfl, rfl, rfl, rfl, rfl, rfl, rfl, rfl, rfl, rfl, trivial⟩ ?_
        obtain ⟨v_38, hy123, hx117⟩ := bind_some hx117
        obtain ⟨hc124, hy123⟩ := ix_some hy123
        refine WO_index tbok rfl rfl rfl rfl rfl rfl rfl rfl (OwnE.addr hL8) (by simpa using hc124) ?_
        refine WO_loadO (E := (I1 .u64)) tbok (fun _ => rfl) 0 rfl rfl rfl rfl (fun _ h => h) hL8 rfl hy123 rfl ?_
        obtain ⟨y_39, hc125, hx117⟩ := bind_some hx117
        refine WO_call0 (.bool y_39) rfl rfl St_closed rfl rfl rfl rfl St_closed ⟨93, #[], #[], rfl, callable_93, fun w hw => ⟨_, hw.sat, cmp_Less_uint64_walk hc125⟩⟩ ?_
        refine WO_pure tbok 1 [(0, .slice a_z0 z0.length c_z0), (1, .int .i64 p1), (8, .int .i64 0), (9, .bool false), (10, .int .i64 s_3), (11, .int .i64 (w64 (p2 - 1))), (43, .bool y_39)] rfl ⟨rfl, rfl, rfl, rfl, rfl, rfl, rfl, trivial⟩ ?_
        refine WO_tail ?_
        refine WO_end ?_
        cases hx117
        refine WK.sub ?_ (WK.cls (fun _ h => h) hk118)
        exact ⟨rfl, rfl, rfl, rfl, rfl, rfl, rfl, trivial⟩
      · have hx117 := ifF hb120 hx117
        refine WO_pure tbok 8 [(0, .slice a_z0 z0.length c_z0), (1, .int .i64 p1), (8, .int .i64 0), (9, .bool false), (10, .int .i64 s_3), (11, .int .i64 (w64 (p2 - 1))), (33, .bool false)] rfl ⟨rfl, rfl, rfl, rfl, rfl, rfl, rfl, trivial⟩ ?_
        refine WO_skip rfl rfl ?_
        refine WO_pure tbok 1 [(0, .slice a_z0 z0.length c_z0), (1, .int .i64 p1), (8, .int .i64 0), (9, .bool false), (10, .int .i64 s_3), (11, .int .i64 (w64 (p2 - 1))), (43, .bool false)] rfl ⟨rfl, rfl, rfl, rfl, rfl, rfl, rfl, trivial⟩ ?_
        refine WO_tail ?_
        refine WO_end ?_
        cases hx117
        refine WK.sub ?_ (WK.cls (fun _ h => h) hk118)
        exact ⟨rfl, rfl, rfl, rfl, rfl, rfl, rfl, trivial⟩
end Go.Proofs.Ytbolefkhmfbnlaa
