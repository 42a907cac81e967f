import Derived.Test.YtbolefkhmfbnlaaTab
import Derived.Test.YtbolefkhmfbnlaaM
import Derived.Test.YtbolefkhmfbnlaaIt
import Derived.Test.YtbolefkhmfbnlaaW1
set_option linter.unusedVariables false
set_option maxRecDepth 100000
set_option maxHeartbeats 4000000
namespace Go.Proofs.Ytbolefkhmfbnlaa
open Go.E Go.RowKit
attribute [local irreducible] Go.E.WO Go.E.WK
theorem bits_Len64_walk {m : Mu} {p0 : Int}   {r : Int} (hm : bits_Len64 p0 = some r) :
    Go.E.Spec Try.prog 97 [.int .u64 p0] m (fun v _ _ => v = .int .i64 r) := by
  refine Spec_enter Try.func97 rfl rfl rfl (fun w0 => ?_)
  refine WK.sub (e' := [(0, .int .u64 p0)]) ⟨rfl, trivial⟩ ?_
  refine WK.sub (e' := [(0, .int .u64 p0)]) ⟨rfl, trivial⟩ ?_
  unfold bits_Len64 at hm
  refine WK_seq ?_
  refine WK_region ?_
  refine WO_pure tbok 1 [(0, .int .u64 p0), (2, .int .i64 0)] rfl ⟨rfl, rfl, trivial⟩ ?_
  refine WO_end ?_
  refine WK_seq ?_
  refine WK_seq ?_
  refine WK_region ?_
  refine WO_pure tbok 2 [(0, .int .u64 p0), (2, .int .i64 0), (4, .bool (decide (4294967296 ≤ p0)))] rfl ⟨rfl, rfl, rfl, trivial⟩ ?_
  refine WO_end ?_
  obtain ⟨⟨s_1, s_2⟩, hx1, hm⟩ := bind_some hm
  refine WK_meet [(0, .int .u64 s_1), (2, .int .i64 s_2)] (St w0 m m []) ?_ (fun hk2 => ?_)
  · refine WK_seq ?_
    refine WK_seq ?_
    refine WK_region ?_
    refine WO_pure tbok 2 [(0, .int .u64 s_1), (2, .int .i64 s_2), (8, .bool (decide (65536 ≤ s_1)))] rfl ⟨rfl, rfl, rfl, trivial⟩ ?_
    refine WO_end ?_
    obtain ⟨⟨s_3, s_4⟩, hx3, hm⟩ := bind_some hm
    refine WK_meet [(0, .int .u64 s_3), (2, .int .i64 s_4)] (St w0 m m []) ?_ (fun hk4 => ?_)
    · refine WK_seq ?_
      refine WK_seq ?_
      refine WK_region ?_
      refine WO_pure tbok 2 [(0, .int .u64 s_3), (2, .int .i64 s_4), (14, .bool (decide (256 ≤ s_3)))] rfl ⟨rfl, rfl, rfl, trivial⟩ ?_
      refine WO_end ?_
      refine WK_cond (b := decide (256 ≤ s_3)) rfl (fun hb5 => ?_) (fun hb5 => ?_)
      · have hm := ifT hb5 hm
        refine WK_seq ?_
        refine WK_region ?_
        refine WO_pure tbok 1 [(0, .int .u64 s_3), (2, .int .i64 s_4), (15, .int .u64 s_3)] rfl ⟨rfl, rfl, rfl, trivial⟩ ?_
        refine WO_shr rfl rfl rfl rfl rfl (by decide) ?_
        refine WO_pure tbok 1 [(0, .int .u64 (Int.fdiv s_3 (2 ^ (min (8 : Int).toNat 64)))), (2, .int .i64 s_4)] rfl ⟨rfl, rfl, trivial⟩ ?_
        refine WO_end ?_
        refine WK_region ?_
        refine WO_pure tbok 3 [(0, .int .u64 (Int.fdiv s_3 (2 ^ (min (8 : Int).toNat 64)))), (2, .int .i64 (w64 (s_4 + 8)))] rfl ⟨rfl, rfl, trivial⟩ ?_
        refine WO_end ?_
        refine WK_seq ?_
        refine WK_region ?_
        refine WO_pure tbok 3 [(2, .int .i64 (w64 (s_4 + 8))), (19, .int .i64 (w64 (s_4 + 8))), (21, .int .u8 (IntKind.wrap .u8 (Int.fdiv s_3 (2 ^ (min (8 : Int).toNat 64)))))] rfl ⟨rfl, rfl, rfl, trivial⟩ ?_
        obtain ⟨hc6, hm⟩ := chk_some hm
        obtain ⟨b8, hb7, hb7e⟩ := str0_ok (IntKind.wrap .u8 (Int.fdiv s_3 (2 ^ (min (8 : Int).toNat 64)))).toNat (by have := hc6; omega)
        refine WO_indexS rfl rfl trivial rfl rfl rfl str0_und hc6.1 hb7 ?_
        rw [show ((b8.toNat : Nat) : Int) = (str0T.getD (IntKind.wrap .u8 (Int.fdiv s_3 (2 ^ (min (8 : Int).toNat 64)))).toNat 0) from hb7e]
        refine WO_pure tbok 3 [(2, .int .i64 (w64 ((w64 (s_4 + 8)) + (w64 ((str0T.getD (IntKind.wrap .u8 (Int.fdiv s_3 (2 ^ (min (8 : Int).toNat 64)))).toNat 0))))))] rfl ⟨rfl, trivial⟩ ?_
        refine WO_end ?_
        cases hm
        exact WK_ret (ret_out (L := []) (RLc_tmp rfl RLc_nil) (List.nil_sublist _) rfl)
      · have hm := ifF hb5 hm
        refine WK_skip ?_
        refine WK_seq ?_
        refine WK_region ?_
        refine WO_pure tbok 3 [(2, .int .i64 s_4), (19, .int .i64 s_4), (21, .int .u8 (IntKind.wrap .u8 (s_3)))] rfl ⟨rfl, rfl, rfl, trivial⟩ ?_
        obtain ⟨hc9, hm⟩ := chk_some hm
        obtain ⟨b11, hb10, hb10e⟩ := str0_ok (IntKind.wrap .u8 (s_3)).toNat (by have := hc9; omega)
        refine WO_indexS rfl rfl trivial rfl rfl rfl str0_und hc9.1 hb10 ?_
        rw [show ((b11.toNat : Nat) : Int) = (str0T.getD (IntKind.wrap .u8 (s_3)).toNat 0) from hb10e]
        refine WO_pure tbok 3 [(2, .int .i64 (w64 (s_4 + (w64 ((str0T.getD (IntKind.wrap .u8 (s_3)).toNat 0))))))] rfl ⟨rfl, trivial⟩ ?_
        refine WO_end ?_
        cases hm
        exact WK_ret (ret_out (L := []) (RLc_tmp rfl RLc_nil) (List.nil_sublist _) rfl)
    · refine WK_cond (b := decide (65536 ≤ s_1)) rfl (fun hb12 => ?_) (fun hb12 => ?_)
      · have hx3 := ifT hb12 hx3
        refine WK_seq ?_
        refine WK_region ?_
        refine WO_pure tbok 1 [(0, .int .u64 s_1), (2, .int .i64 s_2), (9, .int .u64 s_1)] rfl ⟨rfl, rfl, rfl, trivial⟩ ?_
        refine WO_shr rfl rfl rfl rfl rfl (by decide) ?_
        refine WO_pure tbok 1 [(0, .int .u64 (Int.fdiv s_1 (2 ^ (min (16 : Int).toNat 64)))), (2, .int .i64 s_2)] rfl ⟨rfl, rfl, trivial⟩ ?_
        refine WO_end ?_
        refine WK_region ?_
        refine WO_pure tbok 3 [(0, .int .u64 (Int.fdiv s_1 (2 ^ (min (16 : Int).toNat 64)))), (2, .int .i64 (w64 (s_2 + 16)))] rfl ⟨rfl, rfl, trivial⟩ ?_
        refine WO_end ?_
        cases hx3
        refine WK.sub ?_ (WK.cls (fun _ h => h) hk4)
        exact ⟨rfl, rfl, trivial⟩
      · have hx3 := ifF hb12 hx3
        refine WK_skip ?_
        cases hx3
        refine WK.sub ?_ (WK.cls (fun _ h => h) hk4)
        exact ⟨rfl, rfl, trivial⟩
  · refine WK_cond (b := decide (4294967296 ≤ p0)) rfl (fun hb13 => ?_) (fun hb13 => ?_)
    · have hx1 := ifT hb13 hx1
      refine WK_seq ?_
      refine WK_region ?_
      refine WO_pure tbok 1 [(0, .int .u64 p0), (2, .int .i64 0), (5, .int .u64 p0)] rfl ⟨rfl, rfl, rfl, trivial⟩ ?_
      refine WO_shr rfl rfl rfl rfl rfl (by decide) ?_
      refine WO_pure tbok 1 [(0, .int .u64 (Int.fdiv p0 (2 ^ (min (32 : Int).toNat 64)))), (2, .int .i64 0)] rfl ⟨rfl, rfl, trivial⟩ ?_
      refine WO_end ?_
      refine WK_region ?_
      refine WO_pure tbok 1 [(0, .int .u64 (Int.fdiv p0 (2 ^ (min (32 : Int).toNat 64)))), (2, .int .i64 32)] rfl ⟨rfl, rfl, trivial⟩ ?_
      refine WO_end ?_
      cases hx1
      refine WK.sub ?_ (WK.cls (fun _ h => h) hk2)
      exact ⟨rfl, rfl, trivial⟩
    · have hx1 := ifF hb13 hx1
      refine WK_skip ?_
      cases hx1
      refine WK.sub ?_ (WK.cls (fun _ h => h) hk2)
      exact ⟨rfl, rfl, trivial⟩
theorem bits_Len_walk {m : Mu} {p0 : Int}   {r : Int} (hm : bits_Len p0 = some r) :
    Go.E.Spec Try.prog 83 [.int .u64 p0] m (fun v _ _ => v = .int .i64 r) := by
  refine Spec_enter Try.func83 rfl rfl rfl (fun w0 => ?_)
  refine WK.sub (e' := [(0, .int .u64 p0)]) ⟨rfl, trivial⟩ ?_
  refine WK.sub (e' := [(0, .int .u64 p0)]) ⟨rfl, trivial⟩ ?_
  unfold bits_Len at hm
  refine WK_seq ?_
  refine WK_region ?_
  refine WO_pure tbok 1 [(0, .int .u64 p0), (2, .int .i64 0)] rfl ⟨rfl, rfl, trivial⟩ ?_
  refine WO_end ?_
  refine WK_seq ?_
  refine WK_condF rfl ?_
  refine WK_skip ?_
  refine WK_seq ?_
  refine WK_region ?_
  refine WO_pure tbok 1 [(2, .int .i64 0), (6, .int .u64 p0)] rfl ⟨rfl, rfl, trivial⟩ ?_
  obtain ⟨y_1, hc1, hm⟩ := bind_some hm
  refine WO_call0 (.int .i64 y_1) rfl rfl trivial rfl rfl rfl rfl St_closed ⟨97, #[], #[], rfl, callable_97, fun w hw => ⟨_, hw.sat, bits_Len64_walk hc1⟩⟩ ?_
  refine WO_pure tbok 1 [(2, .int .i64 y_1)] rfl ⟨rfl, trivial⟩ ?_
  refine WO_end ?_
  cases hm
  exact WK_ret (ret_out (L := []) (RLc_tmp rfl RLc_nil) (List.nil_sublist _) rfl)
theorem slices_nextPowerOfTwo_walk {m : Mu} {p0 : Int}   {r : Int} (hm : slices_nextPowerOfTwo p0 = some r) :
    Go.E.Spec Try.prog 100 [.int .i64 p0] m (fun v _ _ => v = .int .u64 r) := by
  refine Spec_enter Try.func100 rfl rfl rfl (fun w0 => ?_)
  refine WK.sub (e' := [(0, .int .i64 p0)]) ⟨rfl, trivial⟩ ?_
  refine WK.sub (e' := [(0, .int .i64 p0)]) ⟨rfl, trivial⟩ ?_
  unfold slices_nextPowerOfTwo at hm
  refine WK_seq ?_
  refine WK_region ?_
  refine WO_pure tbok 1 [(0, .int .i64 p0), (2, .int .u64 0)] rfl ⟨rfl, rfl, trivial⟩ ?_
  refine WO_end ?_
  refine WK_seq ?_
  refine WK_region ?_
  refine WO_pure tbok 2 [(2, .int .u64 0), (4, .int .u64 (wu64 (p0)))] rfl ⟨rfl, rfl, trivial⟩ ?_
  obtain ⟨y_1, hc1, hm⟩ := bind_some hm
  refine WO_call0 (.int .i64 y_1) rfl rfl trivial rfl rfl rfl rfl St_closed ⟨83, #[], #[], rfl, callable_83, fun w hw => ⟨_, hw.sat, bits_Len_walk hc1⟩⟩ ?_
  obtain ⟨hc2, hm⟩ := chk_some hm
  refine WO_shl rfl rfl rfl rfl rfl hc2 ?_
  refine WO_pure tbok 1 [(2, .int .u64 (wu64 (1 * 2 ^ (min (y_1 : Int).toNat 64))))] rfl ⟨rfl, trivial⟩ ?_
  refine WO_end ?_
  cases hm
  exact WK_ret (ret_out (L := []) (RLc_tmp rfl RLc_nil) (List.nil_sublist _) rfl)
theorem slices_breakPatternsOrdered_uint64_walk {w0 : World} {m mc : Mu} {LR : List Ent} {z0 : List Int} {a_z0 : Option Addr} {n_z0 c_z0 : Nat} {L_z0 : List Ent} {p1 : Int} {p2 : Int} {r : List Int} (hle0 : Le m mc) (h_z0 : OwnE 95 1 (I1 .u64) (.slice a_z0 n_z0 c_z0) z0 L_z0) (hm : slices_breakPatternsOrdered_uint64 z0 p1 p2 = some r) :
    SpecS Try.prog 89 [.slice a_z0 n_z0 c_z0, .int .i64 p1, .int .i64 p2] (St w0 m mc [L_z0, LR]) (fun v w => ∃ g : List Ent, v = .tuple #[] ∧ (OwnE 95 1 (I1 .u64) (.slice a_z0 n_z0 c_z0) r g) ∧ St w0 m mc [g, LR] w) := by
  refine SpecS_enter Try.func89 rfl rfl rfl ?_
  refine WK.sub (e' := [(0, .slice a_z0 n_z0 c_z0), (1, .int .i64 p1), (2, .int .i64 p2)]) ⟨rfl, rfl, rfl, trivial⟩ ?_
  obtain rfl := OwnE.qlen h_z0
  refine WK.sub (e' := [(0, .slice a_z0 z0.length c_z0), (1, .int .i64 p1), (2, .int .i64 p2)]) ⟨rfl, rfl, rfl, trivial⟩ (WK.cls (C' := St w0 m mc [L_z0, LR]) (fun _ h => h) ?_)
  unfold slices_breakPatternsOrdered_uint64 at hm
  refine WK_seq ?_
  refine WK_region ?_
  refine WO_pure tbok 4 [(0, .slice a_z0 z0.length c_z0), (1, .int .i64 p1), (6, .int .i64 (w64 (p2 - p1)))] rfl ⟨rfl, rfl, rfl, trivial⟩ ?_
  refine WO_end ?_
  refine WK_seq ?_
  refine WK_region ?_
  refine WO_pure tbok 2 [(0, .slice a_z0 z0.length c_z0), (1, .int .i64 p1), (6, .int .i64 (w64 (p2 - p1))), (15, .bool (decide (8 ≤ (w64 (p2 - p1)))))] rfl ⟨rfl, rfl, rfl, rfl, trivial⟩ ?_
  refine WO_end ?_
  refine WK_cond (b := decide (8 ≤ (w64 (p2 - p1)))) rfl (fun hb1 => ?_) (fun hb1 => ?_)
  · have hm := ifT hb1 hm
    refine WK_seq ?_
    refine WK_region ?_
    refine WO_pure tbok 2 [(0, .slice a_z0 z0.length c_z0), (1, .int .i64 p1), (6, .int .i64 (w64 (p2 - p1))), (17, .int .u64 (wu64 (w64 (p2 - p1))))] rfl ⟨rfl, rfl, rfl, rfl, trivial⟩ ?_
    refine WO_alloc tbok [.int .u64 0] rfl rfl trivial rfl rfl rfl rfl (fun b2 => ?_)
    refine WO.cls (C' := St w0 m mc [L_z0, LR, [⟨b2, 147, [.int .u64 0]⟩]]) (fun _ h => h) ?_
    refine WO_storeB tbok 2 [.int .u64 (wu64 (w64 (p2 - p1)))] rfl rfl rfl rfl rfl rfl rfl ?_
    refine WO.cls (C' := St w0 m mc [L_z0, LR, [⟨b2, 147, [.int .u64 (wu64 (w64 (p2 - p1)))]⟩]]) (fun _ h => h) ?_
    refine WO_end ?_
    refine WK_seq ?_
    refine WK_region ?_
    refine WO_pure tbok 1 [(0, .slice a_z0 z0.length c_z0), (1, .int .i64 p1), (6, .int .i64 (w64 (p2 - p1))), (7, .pointer (some ⟨b2, 0, none⟩)), (18, .int .i64 (w64 (p2 - p1)))] rfl ⟨rfl, rfl, rfl, rfl, rfl, trivial⟩ ?_
    obtain ⟨y_1, hc3, hm⟩ := bind_some hm
    refine WO_call0 (.int .u64 y_1) rfl rfl trivial rfl rfl rfl rfl St_closed ⟨100, #[], #[], rfl, callable_100, fun w hw => ⟨_, hw.sat, slices_nextPowerOfTwo_walk hc3⟩⟩ ?_
    refine WO_pure tbok 1 [(0, .slice a_z0 z0.length c_z0), (1, .int .i64 p1), (6, .int .i64 (w64 (p2 - p1))), (7, .pointer (some ⟨b2, 0, none⟩)), (8, .int .u64 y_1)] rfl ⟨rfl, rfl, rfl, rfl, rfl, trivial⟩ ?_
    refine WO_end ?_
    refine WK_seq ?_
    refine WK_region ?_
    refine WO_pure tbok 7 [(0, .slice a_z0 z0.length c_z0), (1, .int .i64 p1), (6, .int .i64 (w64 (p2 - p1))), (7, .pointer (some ⟨b2, 0, none⟩)), (8, .int .u64 y_1), (9, .int .i64 (w64 ((w64 (p1 + (w64 ((w64 (Int.tdiv (w64 (p2 - p1)) 4)) * 2)))) - 1)))] rfl ⟨rfl, rfl, rfl, rfl, rfl, rfl, trivial⟩ ?_
    refine WO_end ?_
    obtain ⟨x6, hx7, hm⟩ := bind_some hm
    refine WK_join (β := (List Int × Int) × (List Ent)) (fun p => p.1 = x6 ∧ OwnE 95 1 (I1 .u64) (.slice a_z0 z0.length c_z0) p.1.1 p.2) (fun p => []) (fun p => St w0 m mc [p.2, LR, [⟨b2, 147, [.int .u64 p.1.2]⟩]]) ?_ (fun hk8 => ?_)
    · rintro ⟨⟨l_5, s_6⟩, L5⟩ ⟨hq14, hL5⟩
      subst hq14
      refine WK.sub (e' := []) trivial (WK.cls (C' := St w0 m mc [L5, LR, [⟨b2, 147, [.int .u64 s_6]⟩]]) (fun _ h => h) ?_)
      cases hm
      exact WK_nilS RLc_nil (fun _ h => ⟨L5, rfl, hL5, St.take 2 h⟩)
    · refine WK_block ?_
      refine WK_loop (S := List Int × Int × Int) (G := List Ent) (fun s => slices_breakPatternsOrdered_uint64_s1 p1 p2 y_1 s.1 s.2.1 s.2.2) (fun s g => [(0, .slice a_z0 z0.length c_z0), (1, .int .i64 p1), (6, .int .i64 (w64 (p2 - p1))), (7, .pointer (some ⟨b2, 0, none⟩)), (8, .int .u64 y_1), (9, .int .i64 s.2.1)]) (fun s g => St w0 m mc [g, LR, [⟨b2, 147, [.int .u64 s.2.2]⟩]]) (fun s g => OwnE 95 1 (I1 .u64) (.slice a_z0 z0.length c_z0) s.1 g) FUEL (z0, w64 ((w64 (p1 + (w64 ((w64 (Int.tdiv (w64 (p2 - p1)) 4)) * 2)))) - 1), wu64 (w64 (p2 - p1))) L_z0 x6 hx7 h_z0 ⟨rfl, rfl, rfl, rfl, rfl, rfl, trivial⟩ (fun _ h => h) ?_
      rintro ⟨l_2, s_3, s_4⟩ L4 o10 fl11 hm9 hL4 hn12 hd13
      have hm9 : slices_breakPatternsOrdered_uint64_s1 p1 p2 y_1 l_2 s_3 s_4 = some o10 := hm9
      unfold slices_breakPatternsOrdered_uint64_s1 at hm9
      refine WK.sub (e' := [(0, .slice a_z0 z0.length c_z0), (1, .int .i64 p1), (6, .int .i64 (w64 (p2 - p1))), (7, .pointer (some ⟨b2, 0, none⟩)), (8, .int .u64 y_1), (9, .int .i64 s_3)]) ⟨rfl, rfl, rfl, rfl, rfl, rfl, trivial⟩ (WK.cls (C' := St w0 m mc [L4, LR, [⟨b2, 147, [.int .u64 s_4]⟩]]) (fun _ h => h) ?_)
      refine WK_seq ?_
      refine WK_seq ?_
      refine WK_region ?_
      refine WO_pure tbok 8 [(0, .slice a_z0 z0.length c_z0), (1, .int .i64 p1), (6, .int .i64 (w64 (p2 - p1))), (7, .pointer (some ⟨b2, 0, none⟩)), (8, .int .u64 y_1), (9, .int .i64 s_3), (33, .bool (decide (s_3 ≤ (w64 ((w64 (p1 + (w64 ((w64 (Int.tdiv (w64 (p2 - p1)) 4)) * 2)))) + 1)))))] rfl ⟨rfl, rfl, rfl, rfl, rfl, rfl, rfl, trivial⟩ ?_
      refine WO_end ?_
      refine WK_cond (b := decide (s_3 ≤ (w64 ((w64 (p1 + (w64 ((w64 (Int.tdiv (w64 (p2 - p1)) 4)) * 2)))) + 1)))) rfl (fun hb15 => ?_) (fun hb15 => ?_)
      · have hm9 := ifT hb15 hm9
        refine WK_skip ?_
        refine WK_seq ?_
        refine WK_block ?_
        refine WK_seq ?_
        refine WK_region ?_
        refine WO_inline rfl rfl rfl rfl rfl rfl callable_101 Try.func101 rfl rfl rfl ?_
        refine WK.sub (e' := [(0, .pointer (some ⟨b2, 0, none⟩))]) ⟨rfl, trivial⟩ ?_
        refine WK_seq ?_
        refine WK_region ?_
        refine WO_pure tbok 1 [(0, .pointer (some ⟨b2, 0, none⟩)), (2, .int .u64 0)] rfl ⟨rfl, rfl, trivial⟩ ?_
        refine WO_end ?_
        refine WK_seq ?_
        refine WK_draw 9 [0, 1, 2, 3, 4, 5, 6, 7, 8] follows_ok (by kernel_rfl) St_closed ?_
        refine WO_pure tbok 2 [(0, .pointer (some ⟨b2, 0, none⟩)), (2, .int .u64 0), (3, .pointer (some ⟨b2, 0, none⟩)), (4, .pointer (some ⟨b2, 0, none⟩))] rfl ⟨rfl, rfl, rfl, rfl, trivial⟩ ?_
        refine WO_loadB tbok 2 rfl rfl rfl rfl (fun _ h => h) rfl rfl ?_
        refine WO_pure tbok 2 [(0, .pointer (some ⟨b2, 0, none⟩)), (2, .int .u64 0), (3, .pointer (some ⟨b2, 0, none⟩)), (5, .int .u64 s_4), (7, .pointer (some ⟨b2, 0, none⟩))] rfl ⟨rfl, rfl, rfl, rfl, rfl, trivial⟩ ?_
        refine WO_loadB tbok 2 rfl rfl rfl rfl (fun _ h => h) rfl rfl ?_
        refine WO_shl rfl rfl rfl rfl rfl (by decide) ?_
        refine WO_pure tbok 2 [(0, .pointer (some ⟨b2, 0, none⟩)), (2, .int .u64 0), (10, .int .u64 (wu64 (((BitVec.ofInt 64 s_4 ^^^ BitVec.ofInt 64 (wu64 (s_4 * 2 ^ (min (13 : Int).toNat 64)))).toNat : Int)))), (11, .pointer (some ⟨b2, 0, none⟩))] rfl ⟨rfl, rfl, rfl, rfl, trivial⟩ ?_
        refine WO_tail ?_
        refine WO_storeB tbok 2 [.int .u64 (wu64 (((BitVec.ofInt 64 s_4 ^^^ BitVec.ofInt 64 (wu64 (s_4 * 2 ^ (min (13 : Int).toNat 64)))).toNat : Int)))] rfl rfl rfl rfl rfl rfl rfl ?_
        refine WO.cls (C' := St w0 m mc [L4, LR, [⟨b2, 147, [.int .u64 (wu64 (((BitVec.ofInt 64 s_4 ^^^ BitVec.ofInt 64 (wu64 (s_4 * 2 ^ (min (13 : Int).toNat 64)))).toNat : Int)))]⟩]]) (fun _ h => h) ?_
        refine WO_end ?_
        refine WK_seq ?_
        refine WK_draw 9 [0, 1, 2, 3, 4, 5, 6, 7, 8] follows_ok (by kernel_rfl) St_closed ?_
        refine WO_pure tbok 2 [(0, .pointer (some ⟨b2, 0, none⟩)), (2, .int .u64 0), (12, .pointer (some ⟨b2, 0, none⟩)), (13, .pointer (some ⟨b2, 0, none⟩))] rfl ⟨rfl, rfl, rfl, rfl, trivial⟩ ?_
        refine WO_loadB tbok 2 rfl rfl rfl rfl (fun _ h => h) rfl rfl ?_
        refine WO_pure tbok 2 [(0, .pointer (some ⟨b2, 0, none⟩)), (2, .int .u64 0), (12, .pointer (some ⟨b2, 0, none⟩)), (14, .int .u64 (wu64 (((BitVec.ofInt 64 s_4 ^^^ BitVec.ofInt 64 (wu64 (s_4 * 2 ^ (min (13 : Int).toNat 64)))).toNat : Int)))), (16, .pointer (some ⟨b2, 0, none⟩))] rfl ⟨rfl, rfl, rfl, rfl, rfl, trivial⟩ ?_
        refine WO_loadB tbok 2 rfl rfl rfl rfl (fun _ h => h) rfl rfl ?_
        refine WO_shr rfl rfl rfl rfl rfl (by decide) ?_
        refine WO_pure tbok 2 [(0, .pointer (some ⟨b2, 0, none⟩)), (2, .int .u64 0), (19, .int .u64 (wu64 (((BitVec.ofInt 64 (wu64 (((BitVec.ofInt 64 s_4 ^^^ BitVec.ofInt 64 (wu64 (s_4 * 2 ^ (min (13 : Int).toNat 64)))).toNat : Int))) ^^^ BitVec.ofInt 64 (Int.fdiv (wu64 (((BitVec.ofInt 64 s_4 ^^^ BitVec.ofInt 64 (wu64 (s_4 * 2 ^ (min (13 : Int).toNat 64)))).toNat : Int))) (2 ^ (min (7 : Int).toNat 64)))).toNat : Int)))), (20, .pointer (some ⟨b2, 0, none⟩))] rfl ⟨rfl, rfl, rfl, rfl, trivial⟩ ?_
        refine WO_tail ?_
        refine WO_storeB tbok 2 [.int .u64 (wu64 (((BitVec.ofInt 64 (wu64 (((BitVec.ofInt 64 s_4 ^^^ BitVec.ofInt 64 (wu64 (s_4 * 2 ^ (min (13 : Int).toNat 64)))).toNat : Int))) ^^^ BitVec.ofInt 64 (Int.fdiv (wu64 (((BitVec.ofInt 64 s_4 ^^^ BitVec.ofInt 64 (wu64 (s_4 * 2 ^ (min (13 : Int).toNat 64)))).toNat : Int))) (2 ^ (min (7 : Int).toNat 64)))).toNat : Int)))] rfl rfl rfl rfl rfl rfl rfl ?_
        refine WO.cls (C' := St w0 m mc [L4, LR, [⟨b2, 147, [.int .u64 (wu64 (((BitVec.ofInt 64 (wu64 (((BitVec.ofInt 64 s_4 ^^^ BitVec.ofInt 64 (wu64 (s_4 * 2 ^ (min (13 : Int).toNat 64)))).toNat : Int))) ^^^ BitVec.ofInt 64 (Int.fdiv (wu64 (((BitVec.ofInt 64 s_4 ^^^ BitVec.ofInt 64 (wu64 (s_4 * 2 ^ (min (13 : Int).toNat 64)))).toNat : Int))) (2 ^ (min (7 : Int).toNat 64)))).toNat : Int)))]⟩]]) (fun _ h => h) ?_
        refine WO_end ?_
        refine WK_seq ?_
        refine WK_draw 9 [0, 1, 2, 3, 4, 5, 6, 7, 8] follows_ok (by kernel_rfl) St_closed ?_
        refine WO_pure tbok 2 [(0, .pointer (some ⟨b2, 0, none⟩)), (2, .int .u64 0), (21, .pointer (some ⟨b2, 0, none⟩)), (22, .pointer (some ⟨b2, 0, none⟩))] rfl ⟨rfl, rfl, rfl, rfl, trivial⟩ ?_
        refine WO_loadB tbok 2 rfl rfl rfl rfl (fun _ h => h) rfl rfl ?_
        refine WO_pure tbok 2 [(0, .pointer (some ⟨b2, 0, none⟩)), (2, .int .u64 0), (21, .pointer (some ⟨b2, 0, none⟩)), (23, .int .u64 (wu64 (((BitVec.ofInt 64 (wu64 (((BitVec.ofInt 64 s_4 ^^^ BitVec.ofInt 64 (wu64 (s_4 * 2 ^ (min (13 : Int).toNat 64)))).toNat : Int))) ^^^ BitVec.ofInt 64 (Int.fdiv (wu64 (((BitVec.ofInt 64 s_4 ^^^ BitVec.ofInt 64 (wu64 (s_4 * 2 ^ (min (13 : Int).toNat 64)))).toNat : Int))) (2 ^ (min (7 : Int).toNat 64)))).toNat : Int)))), (25, .pointer (some ⟨b2, 0, none⟩))] rfl ⟨rfl, rfl, rfl, rfl, rfl, trivial⟩ ?_
        refine WO_loadB tbok 2 rfl rfl rfl rfl (fun _ h => h) rfl rfl ?_
        refine WO_shl rfl rfl rfl rfl rfl (by decide) ?_
        refine WO_pure tbok 2 [(0, .pointer (some ⟨b2, 0, none⟩)), (2, .int .u64 0), (28, .int .u64 (wu64 (((BitVec.ofInt 64 (wu64 (((BitVec.ofInt 64 (wu64 (((BitVec.ofInt 64 s_4 ^^^ BitVec.ofInt 64 (wu64 (s_4 * 2 ^ (min (13 : Int).toNat 64)))).toNat : Int))) ^^^ BitVec.ofInt 64 (Int.fdiv (wu64 (((BitVec.ofInt 64 s_4 ^^^ BitVec.ofInt 64 (wu64 (s_4 * 2 ^ (min (13 : Int).toNat 64)))).toNat : Int))) (2 ^ (min (7 : Int).toNat 64)))).toNat : Int))) ^^^ BitVec.ofInt 64 (wu64 ((wu64 (((BitVec.ofInt 64 (wu64 (((BitVec.ofInt 64 s_4 ^^^ BitVec.ofInt 64 (wu64 (s_4 * 2 ^ (min (13 : Int).toNat 64)))).toNat : Int))) ^^^ BitVec.ofInt 64 (Int.fdiv (wu64 (((BitVec.ofInt 64 s_4 ^^^ BitVec.ofInt 64 (wu64 (s_4 * 2 ^ (min (13 : Int).toNat 64)))).toNat : Int))) (2 ^ (min (7 : Int).toNat 64)))).toNat : Int))) * 2 ^ (min (17 : Int).toNat 64)))).toNat : Int)))), (29, .pointer (some ⟨b2, 0, none⟩))] rfl ⟨rfl, rfl, rfl, rfl, trivial⟩ ?_
        refine WO_tail ?_
        refine WO_storeB tbok 2 [.int .u64 (wu64 (((BitVec.ofInt 64 (wu64 (((BitVec.ofInt 64 (wu64 (((BitVec.ofInt 64 s_4 ^^^ BitVec.ofInt 64 (wu64 (s_4 * 2 ^ (min (13 : Int).toNat 64)))).toNat : Int))) ^^^ BitVec.ofInt 64 (Int.fdiv (wu64 (((BitVec.ofInt 64 s_4 ^^^ BitVec.ofInt 64 (wu64 (s_4 * 2 ^ (min (13 : Int).toNat 64)))).toNat : Int))) (2 ^ (min (7 : Int).toNat 64)))).toNat : Int))) ^^^ BitVec.ofInt 64 (wu64 ((wu64 (((BitVec.ofInt 64 (wu64 (((BitVec.ofInt 64 s_4 ^^^ BitVec.ofInt 64 (wu64 (s_4 * 2 ^ (min (13 : Int).toNat 64)))).toNat : Int))) ^^^ BitVec.ofInt 64 (Int.fdiv (wu64 (((BitVec.ofInt 64 s_4 ^^^ BitVec.ofInt 64 (wu64 (s_4 * 2 ^ (min (13 : Int).toNat 64)))).toNat : Int))) (2 ^ (min (7 : Int).toNat 64)))).toNat : Int))) * 2 ^ (min (17 : Int).toNat 64)))).toNat : Int)))] rfl rfl rfl rfl rfl rfl rfl ?_
        refine WO.cls (C' := St w0 m mc [L4, LR, [⟨b2, 147, [.int .u64 (wu64 (((BitVec.ofInt 64 (wu64 (((BitVec.ofInt 64 (wu64 (((BitVec.ofInt 64 s_4 ^^^ BitVec.ofInt 64 (wu64 (s_4 * 2 ^ (min (13 : Int).toNat 64)))).toNat : Int))) ^^^ BitVec.ofInt 64 (Int.fdiv (wu64 (((BitVec.ofInt 64 s_4 ^^^ BitVec.ofInt 64 (wu64 (s_4 * 2 ^ (min (13 : Int).toNat 64)))).toNat : Int))) (2 ^ (min (7 : Int).toNat 64)))).toNat : Int))) ^^^ BitVec.ofInt 64 (wu64 ((wu64 (((BitVec.ofInt 64 (wu64 (((BitVec.ofInt 64 s_4 ^^^ BitVec.ofInt 64 (wu64 (s_4 * 2 ^ (min (13 : Int).toNat 64)))).toNat : Int))) ^^^ BitVec.ofInt 64 (Int.fdiv (wu64 (((BitVec.ofInt 64 s_4 ^^^ BitVec.ofInt 64 (wu64 (s_4 * 2 ^ (min (13 : Int).toNat 64)))).toNat : Int))) (2 ^ (min (7 : Int).toNat 64)))).toNat : Int))) * 2 ^ (min (17 : Int).toNat 64)))).toNat : Int)))]⟩]]) (fun _ h => h) ?_
        refine WO_end ?_
        refine WK_seq ?_
        refine WK_region ?_
        refine WO_pure tbok 2 [(2, .int .u64 0), (31, .pointer (some ⟨b2, 0, none⟩))] rfl ⟨rfl, rfl, trivial⟩ ?_
        refine WO_loadB tbok 2 rfl rfl rfl rfl (fun _ h => h) rfl rfl ?_
        refine WO_pure tbok 1 [(2, .int .u64 (wu64 (((BitVec.ofInt 64 (wu64 (((BitVec.ofInt 64 (wu64 (((BitVec.ofInt 64 s_4 ^^^ BitVec.ofInt 64 (wu64 (s_4 * 2 ^ (min (13 : Int).toNat 64)))).toNat : Int))) ^^^ BitVec.ofInt 64 (Int.fdiv (wu64 (((BitVec.ofInt 64 s_4 ^^^ BitVec.ofInt 64 (wu64 (s_4 * 2 ^ (min (13 : Int).toNat 64)))).toNat : Int))) (2 ^ (min (7 : Int).toNat 64)))).toNat : Int))) ^^^ BitVec.ofInt 64 (wu64 ((wu64 (((BitVec.ofInt 64 (wu64 (((BitVec.ofInt 64 s_4 ^^^ BitVec.ofInt 64 (wu64 (s_4 * 2 ^ (min (13 : Int).toNat 64)))).toNat : Int))) ^^^ BitVec.ofInt 64 (Int.fdiv (wu64 (((BitVec.ofInt 64 s_4 ^^^ BitVec.ofInt 64 (wu64 (s_4 * 2 ^ (min (13 : Int).toNat 64)))).toNat : Int))) (2 ^ (min (7 : Int).toNat 64)))).toNat : Int))) * 2 ^ (min (17 : Int).toNat 64)))).toNat : Int))))] rfl ⟨rfl, trivial⟩ ?_
        refine WO_end ?_
        refine WK_retI (RLc_tmp rfl RLc_nil) (fun _ _ => trivial) ?_
        refine WO_pure tbok 5 [(0, .slice a_z0 z0.length c_z0), (1, .int .i64 p1), (6, .int .i64 (w64 (p2 - p1))), (7, .pointer (some ⟨b2, 0, none⟩)), (8, .int .u64 y_1), (9, .int .i64 s_3), (10, .int .i64 (w64 (wu64 (((BitVec.ofInt 64 (wu64 (((BitVec.ofInt 64 (wu64 (((BitVec.ofInt 64 (wu64 (((BitVec.ofInt 64 s_4 ^^^ BitVec.ofInt 64 (wu64 (s_4 * 2 ^ (min (13 : Int).toNat 64)))).toNat : Int))) ^^^ BitVec.ofInt 64 (Int.fdiv (wu64 (((BitVec.ofInt 64 s_4 ^^^ BitVec.ofInt 64 (wu64 (s_4 * 2 ^ (min (13 : Int).toNat 64)))).toNat : Int))) (2 ^ (min (7 : Int).toNat 64)))).toNat : Int))) ^^^ BitVec.ofInt 64 (wu64 ((wu64 (((BitVec.ofInt 64 (wu64 (((BitVec.ofInt 64 s_4 ^^^ BitVec.ofInt 64 (wu64 (s_4 * 2 ^ (min (13 : Int).toNat 64)))).toNat : Int))) ^^^ BitVec.ofInt 64 (Int.fdiv (wu64 (((BitVec.ofInt 64 s_4 ^^^ BitVec.ofInt 64 (wu64 (s_4 * 2 ^ (min (13 : Int).toNat 64)))).toNat : Int))) (2 ^ (min (7 : Int).toNat 64)))).toNat : Int))) * 2 ^ (min (17 : Int).toNat 64)))).toNat : Int))) &&& BitVec.ofInt 64 (wu64 (y_1 - 1))).toNat : Int)))))] rfl ⟨rfl, rfl, rfl, rfl, rfl, rfl, rfl, trivial⟩ ?_
        refine WO_end ?_
        refine WK_seq ?_
        refine WK_seq ?_
        refine WK_region ?_
        refine WO_pure tbok 3 [(0, .slice a_z0 z0.length c_z0), (1, .int .i64 p1), (6, .int .i64 (w64 (p2 - p1))), (7, .pointer (some ⟨b2, 0, none⟩)), (8, .int .u64 y_1), (9, .int .i64 s_3), (10, .int .i64 (w64 (wu64 (((BitVec.ofInt 64 (wu64 (((BitVec.ofInt 64 (wu64 (((BitVec.ofInt 64 (wu64 (((BitVec.ofInt 64 s_4 ^^^ BitVec.ofInt 64 (wu64 (s_4 * 2 ^ (min (13 : Int).toNat 64)))).toNat : Int))) ^^^ BitVec.ofInt 64 (Int.fdiv (wu64 (((BitVec.ofInt 64 s_4 ^^^ BitVec.ofInt 64 (wu64 (s_4 * 2 ^ (min (13 : Int).toNat 64)))).toNat : Int))) (2 ^ (min (7 : Int).toNat 64)))).toNat : Int))) ^^^ BitVec.ofInt 64 (wu64 ((wu64 (((BitVec.ofInt 64 (wu64 (((BitVec.ofInt 64 s_4 ^^^ BitVec.ofInt 64 (wu64 (s_4 * 2 ^ (min (13 : Int).toNat 64)))).toNat : Int))) ^^^ BitVec.ofInt 64 (Int.fdiv (wu64 (((BitVec.ofInt 64 s_4 ^^^ BitVec.ofInt 64 (wu64 (s_4 * 2 ^ (min (13 : Int).toNat 64)))).toNat : Int))) (2 ^ (min (7 : Int).toNat 64)))).toNat : Int))) * 2 ^ (min (17 : Int).toNat 64)))).toNat : Int))) &&& BitVec.ofInt 64 (wu64 (y_1 - 1))).toNat : Int))))), (43, .bool (decide ((w64 (p2 - p1)) ≤ (w64 (wu64 (((BitVec.ofInt 64 (wu64 (((BitVec.ofInt 64 (wu64 (((BitVec.ofInt 64 (wu64 (((BitVec.ofInt 64 s_4 ^^^ BitVec.ofInt 64 (wu64 (s_4 * 2 ^ (min (13 : Int).toNat 64)))).toNat : Int))) ^^^ BitVec.ofInt 64 (Int.fdiv (wu64 (((BitVec.ofInt 64 s_4 ^^^ BitVec.ofInt 64 (wu64 (s_4 * 2 ^ (min (13 : Int).toNat 64)))).toNat : Int))) (2 ^ (min (7 : Int).toNat 64)))).toNat : Int))) ^^^ BitVec.ofInt 64 (wu64 ((wu64 (((BitVec.ofInt 64 (wu64 (((BitVec.ofInt 64 s_4 ^^^ BitVec.ofInt 64 (wu64 (s_4 * 2 ^ (min (13 : Int).toNat 64)))).toNat : Int))) ^^^ BitVec.ofInt 64 (Int.fdiv (wu64 (((BitVec.ofInt 64 s_4 ^^^ BitVec.ofInt 64 (wu64 (s_4 * 2 ^ (min (13 : Int).toNat 64)))).toNat : Int))) (2 ^ (min (7 : Int).toNat 64)))).toNat : Int))) * 2 ^ (min (17 : Int).toNat 64)))).toNat : Int))) &&& BitVec.ofInt 64 (wu64 (y_1 - 1))).toNat : Int)))))))] rfl ⟨rfl, rfl, rfl, rfl, rfl, rfl, rfl, rfl, trivial⟩ ?_
        refine WO_end ?_
        obtain ⟨s_7, hx16, hm9⟩ := bind_some hm9
        refine WK_meet [(0, .slice a_z0 z0.length c_z0), (1, .int .i64 p1), (6, .int .i64 (w64 (p2 - p1))), (7, .pointer (some ⟨b2, 0, none⟩)), (8, .int .u64 y_1), (9, .int .i64 s_3), (10, .int .i64 s_7)] (St w0 m mc [L4, LR, [⟨b2, 147, [.int .u64 (wu64 (((BitVec.ofInt 64 (wu64 (((BitVec.ofInt 64 (wu64 (((BitVec.ofInt 64 s_4 ^^^ BitVec.ofInt 64 (wu64 (s_4 * 2 ^ (min (13 : Int).toNat 64)))).toNat : Int))) ^^^ BitVec.ofInt 64 (Int.fdiv (wu64 (((BitVec.ofInt 64 s_4 ^^^ BitVec.ofInt 64 (wu64 (s_4 * 2 ^ (min (13 : Int).toNat 64)))).toNat : Int))) (2 ^ (min (7 : Int).toNat 64)))).toNat : Int))) ^^^ BitVec.ofInt 64 (wu64 ((wu64 (((BitVec.ofInt 64 (wu64 (((BitVec.ofInt 64 s_4 ^^^ BitVec.ofInt 64 (wu64 (s_4 * 2 ^ (min (13 : Int).toNat 64)))).toNat : Int))) ^^^ BitVec.ofInt 64 (Int.fdiv (wu64 (((BitVec.ofInt 64 s_4 ^^^ BitVec.ofInt 64 (wu64 (s_4 * 2 ^ (min (13 : Int).toNat 64)))).toNat : Int))) (2 ^ (min (7 : Int).toNat 64)))).toNat : Int))) * 2 ^ (min (17 : Int).toNat 64)))).toNat : Int)))]⟩]]) ?_ (fun hk17 => ?_)
        · refine WK_plan 17 [0, 1, 2, 3, 4, 5, 6, 7, 8, 9, 10, 12, 13, 14] (.run [11, 15, 16] .fin) follows_ok (by kernel_rfl) St_closed ?_
          refine WO_pure tbok 10 [(0, .slice a_z0 z0.length c_z0), (1, .int .i64 p1), (6, .int .i64 (w64 (p2 - p1))), (7, .pointer (some ⟨b2, 0, none⟩)), (8, .int .u64 y_1), (9, .int .i64 s_3), (47, .slice a_z0 z0.length c_z0), (48, .int .i64 s_3), (49, .slice a_z0 z0.length c_z0), (52, .int .i64 (w64 (p1 + s_7))), (53, .slice a_z0 z0.length c_z0), (56, .int .i64 (w64 (p1 + s_7)))] rfl ⟨rfl, rfl, rfl, rfl, rfl, rfl, rfl, rfl, rfl, rfl, rfl, rfl, trivial⟩ ?_
          obtain ⟨v_8, hy18, hm9⟩ := bind_some hm9
          obtain ⟨hc19, hy18⟩ := ix_some hy18
          refine WO_index tbok rfl rfl rfl rfl rfl rfl rfl rfl (OwnE.addr hL4) (by simpa using hc19) ?_
          refine WO_pure tbok 2 [(0, .slice a_z0 z0.length c_z0), (1, .int .i64 p1), (6, .int .i64 (w64 (p2 - p1))), (7, .pointer (some ⟨b2, 0, none⟩)), (8, .int .u64 y_1), (9, .int .i64 s_3), (47, .slice a_z0 z0.length c_z0), (48, .int .i64 s_3), (49, .slice a_z0 z0.length c_z0), (52, .int .i64 (w64 (p1 + s_7))), (57, .pointer (some (eAddr (.slice a_z0 z0.length c_z0) 1 (w64 (p1 + s_7)).toNat))), (59, .slice a_z0 z0.length c_z0), (60, .int .i64 s_3)] rfl ⟨rfl, rfl, rfl, rfl, rfl, rfl, rfl, rfl, rfl, rfl, rfl, rfl, rfl, trivial⟩ ?_
          obtain ⟨v_9, hy20, hm9⟩ := bind_some hm9
          obtain ⟨hc21, hy20⟩ := ix_some hy20
          refine WO_index tbok rfl rfl rfl rfl rfl rfl rfl rfl (OwnE.addr hL4) (by simpa using hc21) ?_
          refine WO_plan ?_
          refine WT_run ?_
          refine WO_loadO (E := (I1 .u64)) tbok (fun _ => rfl) 0 rfl rfl rfl rfl (fun _ h => h) hL4 rfl hy18 rfl ?_
          refine WO_loadO (E := (I1 .u64)) tbok (fun _ => rfl) 0 rfl rfl rfl rfl (fun _ h => h) hL4 rfl hy20 rfl ?_
          obtain ⟨hc22, hm9⟩ := chk_some hm9
          refine WO_index tbok rfl rfl rfl rfl rfl rfl rfl rfl (OwnE.addr hL4) (by simpa using hc22) ?_
          refine WO_tree rfl ?_
          refine WT_fin ?_
          refine WO_storeO (E := (I1 .u64)) tbok (fun _ => rfl) 0 v_8 rfl rfl rfl rfl rfl hL4 rfl (by simpa using idx_lt hc22) rfl rfl rfl rfl (fun L23 hL23 => ?_)
          refine WO.cls (C' := St w0 m mc [L23, LR, [⟨b2, 147, [.int .u64 (wu64 (((BitVec.ofInt 64 (wu64 (((BitVec.ofInt 64 (wu64 (((BitVec.ofInt 64 s_4 ^^^ BitVec.ofInt 64 (wu64 (s_4 * 2 ^ (min (13 : Int).toNat 64)))).toNat : Int))) ^^^ BitVec.ofInt 64 (Int.fdiv (wu64 (((BitVec.ofInt 64 s_4 ^^^ BitVec.ofInt 64 (wu64 (s_4 * 2 ^ (min (13 : Int).toNat 64)))).toNat : Int))) (2 ^ (min (7 : Int).toNat 64)))).toNat : Int))) ^^^ BitVec.ofInt 64 (wu64 ((wu64 (((BitVec.ofInt 64 (wu64 (((BitVec.ofInt 64 s_4 ^^^ BitVec.ofInt 64 (wu64 (s_4 * 2 ^ (min (13 : Int).toNat 64)))).toNat : Int))) ^^^ BitVec.ofInt 64 (Int.fdiv (wu64 (((BitVec.ofInt 64 s_4 ^^^ BitVec.ofInt 64 (wu64 (s_4 * 2 ^ (min (13 : Int).toNat 64)))).toNat : Int))) (2 ^ (min (7 : Int).toNat 64)))).toNat : Int))) * 2 ^ (min (17 : Int).toNat 64)))).toNat : Int)))]⟩]]) (fun _ h => h) ?_
          obtain ⟨hc24, hm9⟩ := chk_some hm9
          refine WO_index tbok rfl rfl rfl rfl rfl rfl rfl rfl (OwnE.addr hL23) (by simpa using hc24) ?_
          refine WO_storeO (E := (I1 .u64)) tbok (fun _ => rfl) 0 v_9 rfl rfl rfl rfl rfl hL23 rfl (by simpa using idx_lt hc24) rfl rfl rfl rfl (fun L25 hL25 => ?_)
          refine WO.cls (C' := St w0 m mc [L25, LR, [⟨b2, 147, [.int .u64 (wu64 (((BitVec.ofInt 64 (wu64 (((BitVec.ofInt 64 (wu64 (((BitVec.ofInt 64 s_4 ^^^ BitVec.ofInt 64 (wu64 (s_4 * 2 ^ (min (13 : Int).toNat 64)))).toNat : Int))) ^^^ BitVec.ofInt 64 (Int.fdiv (wu64 (((BitVec.ofInt 64 s_4 ^^^ BitVec.ofInt 64 (wu64 (s_4 * 2 ^ (min (13 : Int).toNat 64)))).toNat : Int))) (2 ^ (min (7 : Int).toNat 64)))).toNat : Int))) ^^^ BitVec.ofInt 64 (wu64 ((wu64 (((BitVec.ofInt 64 (wu64 (((BitVec.ofInt 64 s_4 ^^^ BitVec.ofInt 64 (wu64 (s_4 * 2 ^ (min (13 : Int).toNat 64)))).toNat : Int))) ^^^ BitVec.ofInt 64 (Int.fdiv (wu64 (((BitVec.ofInt 64 s_4 ^^^ BitVec.ofInt 64 (wu64 (s_4 * 2 ^ (min (13 : Int).toNat 64)))).toNat : Int))) (2 ^ (min (7 : Int).toNat 64)))).toNat : Int))) * 2 ^ (min (17 : Int).toNat 64)))).toNat : Int)))]⟩]]) (fun _ h => h) ?_
          refine WO_end ?_
          refine WK_blk ?_
          refine WK_region ?_
          refine WO_pure tbok 3 [(0, .slice a_z0 z0.length c_z0), (1, .int .i64 p1), (6, .int .i64 (w64 (p2 - p1))), (7, .pointer (some ⟨b2, 0, none⟩)), (8, .int .u64 y_1), (9, .int .i64 (w64 (s_3 + 1)))] rfl ⟨rfl, rfl, rfl, rfl, rfl, rfl, trivial⟩ ?_
          refine WO_end ?_
          cases hm9
          refine WK.sub ?_ (WK.cls (fun _ h => h) (hn12 _ L25 rfl hL25))
          exact ⟨rfl, rfl, rfl, rfl, rfl, rfl, trivial⟩
        · refine WK_cond (b := decide ((w64 (p2 - p1)) ≤ (w64 (wu64 (((BitVec.ofInt 64 (wu64 (((BitVec.ofInt 64 (wu64 (((BitVec.ofInt 64 (wu64 (((BitVec.ofInt 64 s_4 ^^^ BitVec.ofInt 64 (wu64 (s_4 * 2 ^ (min (13 : Int).toNat 64)))).toNat : Int))) ^^^ BitVec.ofInt 64 (Int.fdiv (wu64 (((BitVec.ofInt 64 s_4 ^^^ BitVec.ofInt 64 (wu64 (s_4 * 2 ^ (min (13 : Int).toNat 64)))).toNat : Int))) (2 ^ (min (7 : Int).toNat 64)))).toNat : Int))) ^^^ BitVec.ofInt 64 (wu64 ((wu64 (((BitVec.ofInt 64 (wu64 (((BitVec.ofInt 64 s_4 ^^^ BitVec.ofInt 64 (wu64 (s_4 * 2 ^ (min (13 : Int).toNat 64)))).toNat : Int))) ^^^ BitVec.ofInt 64 (Int.fdiv (wu64 (((BitVec.ofInt 64 s_4 ^^^ BitVec.ofInt 64 (wu64 (s_4 * 2 ^ (min (13 : Int).toNat 64)))).toNat : Int))) (2 ^ (min (7 : Int).toNat 64)))).toNat : Int))) * 2 ^ (min (17 : Int).toNat 64)))).toNat : Int))) &&& BitVec.ofInt 64 (wu64 (y_1 - 1))).toNat : Int)))))) rfl (fun hb26 => ?_) (fun hb26 => ?_)
          · have hx16 := ifT hb26 hx16
            refine WK_region ?_
            refine WO_pure tbok 4 [(0, .slice a_z0 z0.length c_z0), (1, .int .i64 p1), (6, .int .i64 (w64 (p2 - p1))), (7, .pointer (some ⟨b2, 0, none⟩)), (8, .int .u64 y_1), (9, .int .i64 s_3), (10, .int .i64 (w64 ((w64 (wu64 (((BitVec.ofInt 64 (wu64 (((BitVec.ofInt 64 (wu64 (((BitVec.ofInt 64 (wu64 (((BitVec.ofInt 64 s_4 ^^^ BitVec.ofInt 64 (wu64 (s_4 * 2 ^ (min (13 : Int).toNat 64)))).toNat : Int))) ^^^ BitVec.ofInt 64 (Int.fdiv (wu64 (((BitVec.ofInt 64 s_4 ^^^ BitVec.ofInt 64 (wu64 (s_4 * 2 ^ (min (13 : Int).toNat 64)))).toNat : Int))) (2 ^ (min (7 : Int).toNat 64)))).toNat : Int))) ^^^ BitVec.ofInt 64 (wu64 ((wu64 (((BitVec.ofInt 64 (wu64 (((BitVec.ofInt 64 s_4 ^^^ BitVec.ofInt 64 (wu64 (s_4 * 2 ^ (min (13 : Int).toNat 64)))).toNat : Int))) ^^^ BitVec.ofInt 64 (Int.fdiv (wu64 (((BitVec.ofInt 64 s_4 ^^^ BitVec.ofInt 64 (wu64 (s_4 * 2 ^ (min (13 : Int).toNat 64)))).toNat : Int))) (2 ^ (min (7 : Int).toNat 64)))).toNat : Int))) * 2 ^ (min (17 : Int).toNat 64)))).toNat : Int))) &&& BitVec.ofInt 64 (wu64 (y_1 - 1))).toNat : Int)))) - (w64 (p2 - p1)))))] rfl ⟨rfl, rfl, rfl, rfl, rfl, rfl, rfl, trivial⟩ ?_
            refine WO_end ?_
            cases hx16
            refine WK.sub ?_ (WK.cls (fun _ h => h) hk17)
            exact ⟨rfl, rfl, rfl, rfl, rfl, rfl, rfl, trivial⟩
          · have hx16 := ifF hb26 hx16
            refine WK_skip ?_
            cases hx16
            refine WK.sub ?_ (WK.cls (fun _ h => h) hk17)
            exact ⟨rfl, rfl, rfl, rfl, rfl, rfl, rfl, trivial⟩
      · have hm9 := ifF hb15 hm9
        refine WK_exit rfl ?_
        cases hm9
        refine WK.sub ?_ (WK.cls (fun _ h => h) (hk8 ((l_2, s_4), L4) ⟨(hd13 _ rfl), hL4⟩))
        exact trivial
  · have hm := ifF hb1 hm
    refine WK_skip ?_
    cases hm
    exact WK_nilS RLc_nil (fun _ h => ⟨L_z0, rfl, h_z0, h⟩)
theorem slices_pdqsortOrdered_uint64_walk : ∀ (N : Nat) {w0 : World} {m mc : Mu} {LR : List Ent} {z0 : List Int} {a_z0 : Option Addr} {n_z0 c_z0 : Nat} {L_z0 : List Ent} {p1 : Int} {p2 : Int} {p3 : Int} {r : List Int} (hle0 : Le m mc) (h_z0 : OwnE 95 1 (I1 .u64) (.slice a_z0 n_z0 c_z0) z0 L_z0) (hm : slices_pdqsortOrdered_uint64 N z0 p1 p2 p3 = some r),
    SpecS Try.prog 82 [.slice a_z0 n_z0 c_z0, .int .i64 p1, .int .i64 p2, .int .i64 p3] (St w0 m mc [L_z0, LR]) (fun v w => ∃ g : List Ent, v = .tuple #[] ∧ (OwnE 95 1 (I1 .u64) (.slice a_z0 n_z0 c_z0) r g) ∧ St w0 m mc [g, LR] w) := by
  intro N
  induction N with
  | zero =>
    intros
    rename_i hm
    unfold slices_pdqsortOrdered_uint64 at hm
    cases hm
  | succ N ih =>
    intro w0 m mc LR z0 a_z0 n_z0 c_z0 L_z0 p1 p2 p3 r hle0 h_z0 hm
    refine SpecS_enter Try.func82 rfl rfl rfl ?_
    refine WK.sub (e' := [(0, .slice a_z0 n_z0 c_z0), (1, .int .i64 p1), (2, .int .i64 p2), (3, .int .i64 p3)]) ⟨rfl, rfl, rfl, rfl, trivial⟩ ?_
    obtain rfl := OwnE.qlen h_z0
    refine WK.sub (e' := [(0, .slice a_z0 z0.length c_z0), (1, .int .i64 p1), (2, .int .i64 p2), (3, .int .i64 p3)]) ⟨rfl, rfl, rfl, rfl, trivial⟩ (WK.cls (C' := St w0 m mc [L_z0, LR]) (fun _ h => h) ?_)
    unfold slices_pdqsortOrdered_uint64 at hm
    refine WK_seq ?_
    refine WK_region ?_
    refine WO_pure tbok 1 [(0, .slice a_z0 z0.length c_z0), (1, .int .i64 p1), (2, .int .i64 p2), (3, .int .i64 p3), (8, .bool true)] rfl ⟨rfl, rfl, rfl, rfl, rfl, trivial⟩ ?_
    refine WO_end ?_
    refine WK_seq ?_
    refine WK_region ?_
    refine WO_pure tbok 1 [(0, .slice a_z0 z0.length c_z0), (1, .int .i64 p1), (2, .int .i64 p2), (3, .int .i64 p3), (8, .bool true), (9, .bool true)] rfl ⟨rfl, rfl, rfl, rfl, rfl, rfl, trivial⟩ ?_
    refine WO_end ?_
    obtain ⟨x3, hx4, hm⟩ := bind_some hm
    refine WK_join (β := (List Int) × (List Ent)) (fun p => Sum.inr p.1 = x3 ∧ OwnE 95 1 (I1 .u64) (.slice a_z0 z0.length c_z0) p.1 p.2) (fun p => []) (fun p => St w0 m mc [p.2, LR]) ?_ (fun hk5 => ?_)
    · rintro ⟨l_7, L2⟩ ⟨hq11, hL2⟩
      subst hq11
      refine WK.sub (e' := []) trivial (WK.cls (C' := St w0 m mc [L2, LR]) (fun _ h => h) ?_)
      cases hm
      exact WK_nilS RLc_nil (fun _ h => ⟨L2, rfl, hL2, h⟩)
    · refine WK_block ?_
      refine WK_loop (S := List Int × Int × Int × Bool × Bool × Int) (G := List Ent) (fun s => slices_pdqsortOrdered_uint64_s1 (slices_pdqsortOrdered_uint64 N) s.1 s.2.1 s.2.2.1 s.2.2.2.1 s.2.2.2.2.1 s.2.2.2.2.2) (fun s g => [(0, .slice a_z0 z0.length c_z0), (1, .int .i64 s.2.1), (2, .int .i64 s.2.2.1), (3, .int .i64 s.2.2.2.2.2), (8, .bool s.2.2.2.1), (9, .bool s.2.2.2.2.1)]) (fun s g => St w0 m mc [g, LR]) (fun s g => OwnE 95 1 (I1 .u64) (.slice a_z0 z0.length c_z0) s.1 g) FUEL (z0, p1, p2, true, true, p3) L_z0 x3 hx4 h_z0 ⟨rfl, rfl, rfl, rfl, rfl, rfl, trivial⟩ (fun _ h => h) ?_
      rintro ⟨l_1, s_2, s_3, s_4, s_5, s_6⟩ L1 o7 fl8 hm6 hL1 hn9 hd10
      have hm6 : slices_pdqsortOrdered_uint64_s1 (slices_pdqsortOrdered_uint64 N) l_1 s_2 s_3 s_4 s_5 s_6 = some o7 := hm6
      unfold slices_pdqsortOrdered_uint64_s1 at hm6
      refine WK.sub (e' := [(0, .slice a_z0 z0.length c_z0), (1, .int .i64 s_2), (2, .int .i64 s_3), (3, .int .i64 s_6), (8, .bool s_4), (9, .bool s_5)]) ⟨rfl, rfl, rfl, rfl, rfl, rfl, trivial⟩ (WK.cls (C' := St w0 m mc [L1, LR]) (fun _ h => h) ?_)
      refine WK_block ?_
      refine WK_seq ?_
      refine WK_region ?_
      refine WO_pure tbok 4 [(0, .slice a_z0 z0.length c_z0), (1, .int .i64 s_2), (2, .int .i64 s_3), (3, .int .i64 s_6), (8, .bool s_4), (9, .bool s_5), (10, .int .i64 (w64 (s_3 - s_2)))] rfl ⟨rfl, rfl, rfl, rfl, rfl, rfl, rfl, trivial⟩ ?_
      refine WO_end ?_
      refine WK_seq ?_
      refine WK_seq ?_
      refine WK_region ?_
      refine WO_pure tbok 2 [(0, .slice a_z0 z0.length c_z0), (1, .int .i64 s_2), (2, .int .i64 s_3), (3, .int .i64 s_6), (8, .bool s_4), (9, .bool s_5), (10, .int .i64 (w64 (s_3 - s_2))), (23, .bool (decide ((w64 (s_3 - s_2)) ≤ 12)))] rfl ⟨rfl, rfl, rfl, rfl, rfl, rfl, rfl, rfl, trivial⟩ ?_
      refine WO_end ?_
      refine WK_cond (b := decide ((w64 (s_3 - s_2)) ≤ 12)) rfl (fun hb12 => ?_) (fun hb12 => ?_)
      · have hm6 := ifT hb12 hm6
        refine WK_seq ?_
        refine WK_region ?_
        refine WO_pure tbok 3 [(0, .slice a_z0 z0.length c_z0), (1, .int .i64 s_2), (2, .int .i64 s_3), (3, .int .i64 s_6), (8, .bool s_4), (9, .bool s_5), (10, .int .i64 (w64 (s_3 - s_2))), (24, .slice a_z0 z0.length c_z0), (25, .int .i64 s_2), (26, .int .i64 s_3)] rfl ⟨rfl, rfl, rfl, rfl, rfl, rfl, rfl, rfl, rfl, rfl, trivial⟩ ?_
        obtain ⟨y_8, hc13, hm6⟩ := bind_some hm6
        refine WO_callS (G := List Ent) (fun g => .tuple #[]) (fun g => OwnE 95 1 (I1 .u64) (.slice a_z0 z0.length c_z0) y_8 g) (fun g => St w0 m mc [g, LR]) rfl rfl rfl rfl rfl rfl callable_87 (slices_insertionSortOrdered_uint64_walk hle0 hL1 hc13) ?_
        rintro L14 hL14
        refine WO.cls (C' := St w0 m mc [L14, LR]) (fun _ h => h) ?_
        refine WO_end ?_
        cases hm6
        have hq := hd10 _ rfl
        subst hq
        have hm : some _ = some _ := hm
        cases hm
        exact WK_retS RLc_nil (fun _ h => ⟨L14, rfl, hL14, h⟩)
      · have hm6 := ifF hb12 hm6
        refine WK_skip ?_
        refine WK_seq ?_
        refine WK_seq ?_
        refine WK_region ?_
        refine WO_pure tbok 2 [(0, .slice a_z0 z0.length c_z0), (1, .int .i64 s_2), (2, .int .i64 s_3), (3, .int .i64 s_6), (8, .bool s_4), (9, .bool s_5), (10, .int .i64 (w64 (s_3 - s_2))), (29, .bool (s_6 == 0))] rfl ⟨rfl, rfl, rfl, rfl, rfl, rfl, rfl, rfl, trivial⟩ ?_
        refine WO_end ?_
        refine WK_cond (b := s_6 == 0) rfl (fun hb15 => ?_) (fun hb15 => ?_)
        · have hm6 := ifT hb15 hm6
          refine WK_seq ?_
          refine WK_region ?_
          refine WO_pure tbok 3 [(0, .slice a_z0 z0.length c_z0), (1, .int .i64 s_2), (2, .int .i64 s_3), (3, .int .i64 s_6), (8, .bool s_4), (9, .bool s_5), (10, .int .i64 (w64 (s_3 - s_2))), (30, .slice a_z0 z0.length c_z0), (31, .int .i64 s_2), (32, .int .i64 s_3)] rfl ⟨rfl, rfl, rfl, rfl, rfl, rfl, rfl, rfl, rfl, rfl, trivial⟩ ?_
          obtain ⟨y_9, hc16, hm6⟩ := bind_some hm6
          refine WO_callS (G := List Ent) (fun g => .tuple #[]) (fun g => OwnE 95 1 (I1 .u64) (.slice a_z0 z0.length c_z0) y_9 g) (fun g => St w0 m mc [g, LR]) rfl rfl rfl rfl rfl rfl callable_88 (slices_heapSortOrdered_uint64_walk hle0 hL1 hc16) ?_
          rintro L17 hL17
          refine WO.cls (C' := St w0 m mc [L17, LR]) (fun _ h => h) ?_
          refine WO_end ?_
          cases hm6
          have hq := hd10 _ rfl
          subst hq
          have hm : some _ = some _ := hm
          cases hm
          exact WK_retS RLc_nil (fun _ h => ⟨L17, rfl, hL17, h⟩)
        · have hm6 := ifF hb15 hm6
          refine WK_skip ?_
          refine WK_seq ?_
          refine WK_seq ?_
          refine WK_region ?_
          refine WO_pure tbok 2 [(0, .slice a_z0 z0.length c_z0), (1, .int .i64 s_2), (2, .int .i64 s_3), (3, .int .i64 s_6), (8, .bool s_4), (9, .bool s_5), (10, .int .i64 (w64 (s_3 - s_2))), (35, .bool (!s_4))] rfl ⟨rfl, rfl, rfl, rfl, rfl, rfl, rfl, rfl, trivial⟩ ?_
          refine WO_end ?_
          obtain ⟨⟨l_10, s_11⟩, hx19, hm6⟩ := bind_some hm6
          refine WK_join (β := List Ent) (fun p => OwnE 95 1 (I1 .u64) (.slice a_z0 z0.length c_z0) l_10 p) (fun p => [(0, .slice a_z0 z0.length c_z0), (1, .int .i64 s_2), (2, .int .i64 s_3), (3, .int .i64 s_11), (8, .bool s_4), (9, .bool s_5), (10, .int .i64 (w64 (s_3 - s_2)))]) (fun p => St w0 m mc [p, LR]) ?_ (fun hk20 => ?_)
          · rintro L18 hL18
            refine WK.sub (e' := [(0, .slice a_z0 z0.length c_z0), (1, .int .i64 s_2), (2, .int .i64 s_3), (3, .int .i64 s_11), (8, .bool s_4), (9, .bool s_5), (10, .int .i64 (w64 (s_3 - s_2)))]) ⟨rfl, rfl, rfl, rfl, rfl, rfl, rfl, trivial⟩ (WK.cls (C' := St w0 m mc [L18, LR]) (fun _ h => h) ?_)
            refine WK_seq ?_
            refine WK_region ?_
            refine WO_pure tbok 3 [(0, .slice a_z0 z0.length c_z0), (1, .int .i64 s_2), (2, .int .i64 s_3), (3, .int .i64 s_11), (8, .bool s_4), (9, .bool s_5), (10, .int .i64 (w64 (s_3 - s_2))), (43, .slice a_z0 z0.length c_z0), (44, .int .i64 s_2), (45, .int .i64 s_3)] rfl ⟨rfl, rfl, rfl, rfl, rfl, rfl, rfl, rfl, rfl, rfl, trivial⟩ ?_
            obtain ⟨⟨y_12, y_13, y_14⟩, hc21, hm6⟩ := bind_some hm6
            refine WO_callS (G := List Ent) (fun g => .tuple #[.int .i64 y_12, .int .i64 y_13]) (fun g => OwnE 95 1 (I1 .u64) (.slice a_z0 z0.length c_z0) y_14 g) (fun g => St w0 m mc [g, LR]) rfl rfl rfl rfl rfl rfl callable_90 (slices_choosePivotOrdered_uint64_walk hle0 hL18 hc21) ?_
            rintro L22 hL22
            refine WO.cls (C' := St w0 m mc [L22, LR]) (fun _ h => h) ?_
            refine WO_pure tbok 5 [(0, .slice a_z0 z0.length c_z0), (1, .int .i64 s_2), (2, .int .i64 s_3), (3, .int .i64 s_11), (8, .bool s_4), (9, .bool s_5), (10, .int .i64 (w64 (s_3 - s_2))), (11, .int .i64 y_12), (12, .int .i64 y_13)] rfl ⟨rfl, rfl, rfl, rfl, rfl, rfl, rfl, rfl, rfl, trivial⟩ ?_
            refine WO_end ?_
            refine WK_seq ?_
            refine WK_seq ?_
            refine WK_region ?_
            refine WO_pure tbok 2 [(0, .slice a_z0 z0.length c_z0), (1, .int .i64 s_2), (2, .int .i64 s_3), (3, .int .i64 s_11), (8, .bool s_4), (9, .bool s_5), (10, .int .i64 (w64 (s_3 - s_2))), (11, .int .i64 y_12), (12, .int .i64 y_13), (50, .bool (y_13 == 2))] rfl ⟨rfl, rfl, rfl, rfl, rfl, rfl, rfl, rfl, rfl, rfl, trivial⟩ ?_
            refine WO_end ?_
            obtain ⟨⟨l_15, s_16, s_17⟩, hx24, hm6⟩ := bind_some hm6
            refine WK_join (β := List Ent) (fun p => OwnE 95 1 (I1 .u64) (.slice a_z0 z0.length c_z0) l_15 p) (fun p => [(0, .slice a_z0 z0.length c_z0), (1, .int .i64 s_2), (2, .int .i64 s_3), (3, .int .i64 s_11), (8, .bool s_4), (9, .bool s_5), (10, .int .i64 (w64 (s_3 - s_2))), (11, .int .i64 s_16), (12, .int .i64 s_17)]) (fun p => St w0 m mc [p, LR]) ?_ (fun hk25 => ?_)
            · rintro L23 hL23
              refine WK.sub (e' := [(0, .slice a_z0 z0.length c_z0), (1, .int .i64 s_2), (2, .int .i64 s_3), (3, .int .i64 s_11), (8, .bool s_4), (9, .bool s_5), (10, .int .i64 (w64 (s_3 - s_2))), (11, .int .i64 s_16), (12, .int .i64 s_17)]) ⟨rfl, rfl, rfl, rfl, rfl, rfl, rfl, rfl, rfl, trivial⟩ (WK.cls (C' := St w0 m mc [L23, LR]) (fun _ h => h) ?_)
              refine WK_seq ?_
              refine WK_seq ?_
              obtain ⟨s_18, hx26, hm6⟩ := bind_some hm6
              refine WK_meet [(0, .slice a_z0 z0.length c_z0), (1, .int .i64 s_2), (2, .int .i64 s_3), (3, .int .i64 s_11), (8, .bool s_4), (9, .bool s_5), (10, .int .i64 (w64 (s_3 - s_2))), (11, .int .i64 s_16), (68, .bool s_18)] (St w0 m mc [L23, LR]) ?_ (fun hk27 => ?_)
              · refine WK_cond (b := s_18) rfl (fun hb28 => ?_) (fun hb28 => ?_)
                · have hm6 := ifT hb28 hm6
                  refine WK_seq ?_
                  refine WK_region ?_
                  refine WO_pure tbok 3 [(0, .slice a_z0 z0.length c_z0), (1, .int .i64 s_2), (2, .int .i64 s_3), (3, .int .i64 s_11), (8, .bool s_4), (9, .bool s_5), (10, .int .i64 (w64 (s_3 - s_2))), (11, .int .i64 s_16), (69, .slice a_z0 z0.length c_z0), (70, .int .i64 s_2), (71, .int .i64 s_3)] rfl ⟨rfl, rfl, rfl, rfl, rfl, rfl, rfl, rfl, rfl, rfl, rfl, trivial⟩ ?_
                  obtain ⟨⟨y_19, y_20⟩, hc29, hm6⟩ := bind_some hm6
                  refine WO_callS (G := List Ent) (fun g => .bool y_19) (fun g => OwnE 95 1 (I1 .u64) (.slice a_z0 z0.length c_z0) y_20 g) (fun g => St w0 m mc [g, LR]) rfl rfl rfl rfl rfl rfl callable_92 (slices_partialInsertionSortOrdered_uint64_walk hle0 hL23 hc29) ?_
                  rintro L30 hL30
                  refine WO.cls (C' := St w0 m mc [L30, LR]) (fun _ h => h) ?_
                  refine WO_end ?_
                  refine WK_cond (b := y_19) rfl (fun hb31 => ?_) (fun hb31 => ?_)
                  · have hm6 := ifT hb31 hm6
                    cases hm6
                    have hq := hd10 _ rfl
                    subst hq
                    have hm : some _ = some _ := hm
                    cases hm
                    exact WK_retS RLc_nil (fun _ h => ⟨L30, rfl, hL30, h⟩)
                  · have hm6 := ifF hb31 hm6
                    refine WK_skip ?_
                    refine WK_seq ?_
                    refine WK_seq ?_
                    obtain ⟨s_21, hx32, hm6⟩ := bind_some hm6
                    refine WK_meet [(0, .slice a_z0 z0.length c_z0), (1, .int .i64 s_2), (2, .int .i64 s_3), (3, .int .i64 s_11), (8, .bool s_4), (9, .bool s_5), (10, .int .i64 (w64 (s_3 - s_2))), (11, .int .i64 s_16), (87, .bool s_21)] (St w0 m mc [L30, LR]) ?_ (fun hk33 => ?_)
                    · refine WK_cond (b := s_21) rfl (fun hb34 => ?_) (fun hb34 => ?_)
                      · have hm6 := ifT hb34 hm6
                        refine WK_seq ?_
                        refine WK_region ?_
                        refine WO_pure tbok 4 [(0, .slice a_z0 z0.length c_z0), (1, .int .i64 s_2), (2, .int .i64 s_3), (3, .int .i64 s_11), (8, .bool s_4), (9, .bool s_5), (10, .int .i64 (w64 (s_3 - s_2))), (11, .int .i64 s_16), (88, .slice a_z0 z0.length c_z0), (89, .int .i64 s_2), (90, .int .i64 s_3), (91, .int .i64 s_16)] rfl ⟨rfl, rfl, rfl, rfl, rfl, rfl, rfl, rfl, rfl, rfl, rfl, rfl, trivial⟩ ?_
                        obtain ⟨⟨y_22, y_23⟩, hc35, hm6⟩ := bind_some hm6
                        refine WO_callS (G := List Ent) (fun g => .int .i64 y_22) (fun g => OwnE 95 1 (I1 .u64) (.slice a_z0 z0.length c_z0) y_23 g) (fun g => St w0 m mc [g, LR]) rfl rfl rfl rfl rfl rfl callable_94 (slices_partitionEqualOrdered_uint64_walk hle0 hL30 hc35) ?_
                        rintro L36 hL36
                        refine WO.cls (C' := St w0 m mc [L36, LR]) (fun _ h => h) ?_
                        refine WO_pure tbok 1 [(0, .slice a_z0 z0.length c_z0), (1, .int .i64 s_2), (2, .int .i64 s_3), (3, .int .i64 s_11), (8, .bool s_4), (9, .bool s_5), (10, .int .i64 (w64 (s_3 - s_2))), (11, .int .i64 s_16), (13, .int .i64 y_22)] rfl ⟨rfl, rfl, rfl, rfl, rfl, rfl, rfl, rfl, rfl, trivial⟩ ?_
                        refine WO_end ?_
                        refine WK_seq ?_
                        refine WK_region ?_
                        refine WO_pure tbok 2 [(0, .slice a_z0 z0.length c_z0), (1, .int .i64 y_22), (2, .int .i64 s_3), (3, .int .i64 s_11), (8, .bool s_4), (9, .bool s_5), (10, .int .i64 (w64 (s_3 - s_2))), (11, .int .i64 s_16)] rfl ⟨rfl, rfl, rfl, rfl, rfl, rfl, rfl, rfl, trivial⟩ ?_
                        refine WO_end ?_
                        refine WK_exit rfl ?_
                        cases hm6
                        refine WK.sub ?_ (WK.cls (fun _ h => h) (hn9 _ L36 rfl hL36))
                        exact ⟨rfl, rfl, rfl, rfl, rfl, rfl, trivial⟩
                      · have hm6 := ifF hb34 hm6
                        refine WK_skip ?_
                        refine WK_seq ?_
                        refine WK_region ?_
                        refine WO_pure tbok 4 [(0, .slice a_z0 z0.length c_z0), (1, .int .i64 s_2), (2, .int .i64 s_3), (3, .int .i64 s_11), (8, .bool s_4), (9, .bool s_5), (10, .int .i64 (w64 (s_3 - s_2))), (95, .slice a_z0 z0.length c_z0), (96, .int .i64 s_2), (97, .int .i64 s_3), (98, .int .i64 s_16)] rfl ⟨rfl, rfl, rfl, rfl, rfl, rfl, rfl, rfl, rfl, rfl, rfl, trivial⟩ ?_
                        obtain ⟨⟨y_24, y_25, y_26⟩, hc37, hm6⟩ := bind_some hm6
                        refine WO_callS (G := List Ent) (fun g => .tuple #[.int .i64 y_24, .bool y_25]) (fun g => OwnE 95 1 (I1 .u64) (.slice a_z0 z0.length c_z0) y_26 g) (fun g => St w0 m mc [g, LR]) rfl rfl rfl rfl rfl rfl callable_95 (slices_partitionOrdered_uint64_walk hle0 hL30 hc37) ?_
                        rintro L38 hL38
                        refine WO.cls (C' := St w0 m mc [L38, LR]) (fun _ h => h) ?_
                        refine WO_pure tbok 5 [(0, .slice a_z0 z0.length c_z0), (1, .int .i64 s_2), (2, .int .i64 s_3), (3, .int .i64 s_11), (8, .bool s_4), (9, .bool s_5), (10, .int .i64 (w64 (s_3 - s_2))), (14, .int .i64 y_24), (15, .bool y_25)] rfl ⟨rfl, rfl, rfl, rfl, rfl, rfl, rfl, rfl, rfl, trivial⟩ ?_
                        refine WO_end ?_
                        refine WK_seq ?_
                        refine WK_region ?_
                        refine WO_pure tbok 2 [(0, .slice a_z0 z0.length c_z0), (1, .int .i64 s_2), (2, .int .i64 s_3), (3, .int .i64 s_11), (8, .bool s_4), (9, .bool y_25), (10, .int .i64 (w64 (s_3 - s_2))), (14, .int .i64 y_24)] rfl ⟨rfl, rfl, rfl, rfl, rfl, rfl, rfl, rfl, trivial⟩ ?_
                        refine WO_end ?_
                        refine WK_seq ?_
                        refine WK_region ?_
                        refine WO_pure tbok 8 [(0, .slice a_z0 z0.length c_z0), (1, .int .i64 s_2), (2, .int .i64 s_3), (3, .int .i64 s_11), (8, .bool s_4), (9, .bool y_25), (10, .int .i64 (w64 (s_3 - s_2))), (14, .int .i64 y_24), (16, .int .i64 (w64 (y_24 - s_2))), (17, .int .i64 (w64 (s_3 - y_24)))] rfl ⟨rfl, rfl, rfl, rfl, rfl, rfl, rfl, rfl, rfl, rfl, trivial⟩ ?_
                        refine WO_end ?_
                        refine WK_seq ?_
                        refine WK_region ?_
                        refine WO_pure tbok 3 [(0, .slice a_z0 z0.length c_z0), (1, .int .i64 s_2), (2, .int .i64 s_3), (3, .int .i64 s_11), (8, .bool s_4), (9, .bool y_25), (14, .int .i64 y_24), (16, .int .i64 (w64 (y_24 - s_2))), (17, .int .i64 (w64 (s_3 - y_24))), (18, .int .i64 (w64 (Int.tdiv (w64 (s_3 - s_2)) 8)))] rfl ⟨rfl, rfl, rfl, rfl, rfl, rfl, rfl, rfl, rfl, rfl, trivial⟩ ?_
                        refine WO_end ?_
                        refine WK_seq ?_
                        refine WK_region ?_
                        refine WO_pure tbok 3 [(0, .slice a_z0 z0.length c_z0), (1, .int .i64 s_2), (2, .int .i64 s_3), (3, .int .i64 s_11), (8, .bool s_4), (9, .bool y_25), (14, .int .i64 y_24), (16, .int .i64 (w64 (y_24 - s_2))), (17, .int .i64 (w64 (s_3 - y_24))), (18, .int .i64 (w64 (Int.tdiv (w64 (s_3 - s_2)) 8))), (113, .bool (decide ((w64 (y_24 - s_2)) < (w64 (s_3 - y_24)))))] rfl ⟨rfl, rfl, rfl, rfl, rfl, rfl, rfl, rfl, rfl, rfl, rfl, trivial⟩ ?_
                        refine WO_end ?_
                        refine WK_cond (b := decide ((w64 (y_24 - s_2)) < (w64 (s_3 - y_24)))) rfl (fun hb39 => ?_) (fun hb39 => ?_)
                        · have hm6 := ifT hb39 hm6
                          refine WK_seq ?_
                          refine WK_region ?_
                          refine WO_pure tbok 4 [(0, .slice a_z0 z0.length c_z0), (1, .int .i64 s_2), (2, .int .i64 s_3), (3, .int .i64 s_11), (8, .bool (decide ((w64 (Int.tdiv (w64 (s_3 - s_2)) 8)) ≤ (w64 (y_24 - s_2))))), (9, .bool y_25), (14, .int .i64 y_24)] rfl ⟨rfl, rfl, rfl, rfl, rfl, rfl, rfl, trivial⟩ ?_
                          refine WO_end ?_
                          refine WK_seq ?_
                          refine WK_region ?_
                          refine WO_pure tbok 4 [(0, .slice a_z0 z0.length c_z0), (1, .int .i64 s_2), (2, .int .i64 s_3), (3, .int .i64 s_11), (8, .bool (decide ((w64 (Int.tdiv (w64 (s_3 - s_2)) 8)) ≤ (w64 (y_24 - s_2))))), (9, .bool y_25), (14, .int .i64 y_24), (117, .slice a_z0 z0.length c_z0), (118, .int .i64 s_2), (119, .int .i64 y_24), (120, .int .i64 s_11)] rfl ⟨rfl, rfl, rfl, rfl, rfl, rfl, rfl, rfl, rfl, rfl, rfl, trivial⟩ ?_
                          obtain ⟨y_27, hc40, hm6⟩ := bind_some hm6
                          refine WO_callS (G := List Ent) (fun g => .tuple #[]) (fun g => OwnE 95 1 (I1 .u64) (.slice a_z0 z0.length c_z0) y_27 g) (fun g => St w0 m mc [g, LR]) rfl rfl rfl rfl rfl rfl callable_82 (ih hle0 hL38 hc40) ?_
                          rintro L41 hL41
                          refine WO.cls (C' := St w0 m mc [L41, LR]) (fun _ h => h) ?_
                          refine WO_end ?_
                          refine WK_region ?_
                          refine WO_pure tbok 3 [(0, .slice a_z0 z0.length c_z0), (1, .int .i64 (w64 (y_24 + 1))), (2, .int .i64 s_3), (3, .int .i64 s_11), (8, .bool (decide ((w64 (Int.tdiv (w64 (s_3 - s_2)) 8)) ≤ (w64 (y_24 - s_2))))), (9, .bool y_25)] rfl ⟨rfl, rfl, rfl, rfl, rfl, rfl, trivial⟩ ?_
                          refine WO_end ?_
                          refine WK_blk ?_
                          cases hm6
                          refine WK.sub ?_ (WK.cls (fun _ h => h) (hn9 _ L41 rfl hL41))
                          exact ⟨rfl, rfl, rfl, rfl, rfl, rfl, trivial⟩
                        · have hm6 := ifF hb39 hm6
                          refine WK_seq ?_
                          refine WK_region ?_
                          refine WO_pure tbok 4 [(0, .slice a_z0 z0.length c_z0), (1, .int .i64 s_2), (2, .int .i64 s_3), (3, .int .i64 s_11), (8, .bool (decide ((w64 (Int.tdiv (w64 (s_3 - s_2)) 8)) ≤ (w64 (s_3 - y_24))))), (9, .bool y_25), (14, .int .i64 y_24)] rfl ⟨rfl, rfl, rfl, rfl, rfl, rfl, rfl, trivial⟩ ?_
                          refine WO_end ?_
                          refine WK_seq ?_
                          refine WK_region ?_
                          refine WO_pure tbok 5 [(0, .slice a_z0 z0.length c_z0), (1, .int .i64 s_2), (2, .int .i64 s_3), (3, .int .i64 s_11), (8, .bool (decide ((w64 (Int.tdiv (w64 (s_3 - s_2)) 8)) ≤ (w64 (s_3 - y_24))))), (9, .bool y_25), (14, .int .i64 y_24), (127, .slice a_z0 z0.length c_z0), (129, .int .i64 (w64 (y_24 + 1))), (130, .int .i64 s_3), (131, .int .i64 s_11)] rfl ⟨rfl, rfl, rfl, rfl, rfl, rfl, rfl, rfl, rfl, rfl, rfl, trivial⟩ ?_
                          obtain ⟨y_28, hc42, hm6⟩ := bind_some hm6
                          refine WO_callS (G := List Ent) (fun g => .tuple #[]) (fun g => OwnE 95 1 (I1 .u64) (.slice a_z0 z0.length c_z0) y_28 g) (fun g => St w0 m mc [g, LR]) rfl rfl rfl rfl rfl rfl callable_82 (ih hle0 hL38 hc42) ?_
                          rintro L43 hL43
                          refine WO.cls (C' := St w0 m mc [L43, LR]) (fun _ h => h) ?_
                          refine WO_end ?_
                          refine WK_region ?_
                          refine WO_pure tbok 2 [(0, .slice a_z0 z0.length c_z0), (1, .int .i64 s_2), (2, .int .i64 y_24), (3, .int .i64 s_11), (8, .bool (decide ((w64 (Int.tdiv (w64 (s_3 - s_2)) 8)) ≤ (w64 (s_3 - y_24))))), (9, .bool y_25)] rfl ⟨rfl, rfl, rfl, rfl, rfl, rfl, trivial⟩ ?_
                          refine WO_end ?_
                          refine WK_blk ?_
                          cases hm6
                          refine WK.sub ?_ (WK.cls (fun _ h => h) (hn9 _ L43 rfl hL43))
                          exact ⟨rfl, rfl, rfl, rfl, rfl, rfl, trivial⟩
                    · refine WK_draw 15 [0, 1, 2, 3, 4, 5, 6, 7, 8, 9, 10, 11, 12, 13, 14] follows_ok (by kernel_rfl) St_closed ?_
                      refine WO_pure tbok 3 [(0, .slice a_z0 z0.length c_z0), (1, .int .i64 s_2), (2, .int .i64 s_3), (3, .int .i64 s_11), (8, .bool s_4), (9, .bool s_5), (10, .int .i64 (w64 (s_3 - s_2))), (11, .int .i64 s_16), (75, .bool (decide (0 < s_2)))] rfl ⟨rfl, rfl, rfl, rfl, rfl, rfl, rfl, rfl, rfl, trivial⟩ ?_
                      refine WO_split (d := 75) (b := decide (0 < s_2)) rfl (fun hb44 => ?_) (fun hb44 => ?_)
                      · have hx32 := ifT hb44 hx32
                        refine WO_pure tbok 3 [(0, .slice a_z0 z0.length c_z0), (1, .int .i64 s_2), (2, .int .i64 s_3), (3, .int .i64 s_11), (8, .bool s_4), (9, .bool s_5), (10, .int .i64 (w64 (s_3 - s_2))), (11, .int .i64 s_16), (75, .bool true), (76, .slice a_z0 z0.length c_z0), (78, .int .i64 (w64 (s_2 - 1)))] rfl ⟨rfl, rfl, rfl, rfl, rfl, rfl, rfl, rfl, rfl, rfl, rfl, trivial⟩ ?_
                        obtain ⟨v_29, hy45, hx32⟩ := bind_some hx32
                        obtain ⟨hc46, hy45⟩ := ix_some hy45
                        refine WO_index tbok rfl rfl rfl rfl rfl rfl rfl rfl (OwnE.addr hL30) (by simpa using hc46) ?_
                        refine WO_loadO (E := (I1 .u64)) tbok (fun _ => rfl) 0 rfl rfl rfl rfl (fun _ h => h) hL30 rfl hy45 rfl ?_
                        refine WO_pure tbok 2 [(0, .slice a_z0 z0.length c_z0), (1, .int .i64 s_2), (2, .int .i64 s_3), (3, .int .i64 s_11), (8, .bool s_4), (9, .bool s_5), (10, .int .i64 (w64 (s_3 - s_2))), (11, .int .i64 s_16), (75, .bool true), (80, .int .u64 v_29), (81, .slice a_z0 z0.length c_z0), (82, .int .i64 s_16)] rfl ⟨rfl, rfl, rfl, rfl, rfl, rfl, rfl, rfl, rfl, rfl, rfl, rfl, trivial⟩ ?_
                        obtain ⟨v_30, hy47, hx32⟩ := bind_some hx32
                        obtain ⟨hc48, hy47⟩ := ix_some hy47
                        refine WO_index tbok rfl rfl rfl rfl rfl rfl rfl rfl (OwnE.addr hL30) (by simpa using hc48) ?_
                        refine WO_loadO (E := (I1 .u64)) tbok (fun _ => rfl) 0 rfl rfl rfl rfl (fun _ h => h) hL30 rfl hy47 rfl ?_
                        obtain ⟨y_31, hc49, hx32⟩ := bind_some hx32
                        refine WO_call0 (.bool y_31) rfl rfl St_closed rfl rfl rfl rfl St_closed ⟨93, #[], #[], rfl, callable_93, fun w hw => ⟨_, hw.sat, cmp_Less_uint64_walk hc49⟩⟩ ?_
                        refine WO_pure tbok 2 [(0, .slice a_z0 z0.length c_z0), (1, .int .i64 s_2), (2, .int .i64 s_3), (3, .int .i64 s_11), (8, .bool s_4), (9, .bool s_5), (10, .int .i64 (w64 (s_3 - s_2))), (11, .int .i64 s_16), (87, .bool (!y_31))] rfl ⟨rfl, rfl, rfl, rfl, rfl, rfl, rfl, rfl, rfl, trivial⟩ ?_
                        refine WO_tail ?_
                        refine WO_end ?_
                        cases hx32
                        refine WK.sub ?_ (WK.cls (fun _ h => h) hk33)
                        exact ⟨rfl, rfl, rfl, rfl, rfl, rfl, rfl, rfl, rfl, trivial⟩
                      · have hx32 := ifF hb44 hx32
                        refine WO_pure tbok 9 [(0, .slice a_z0 z0.length c_z0), (1, .int .i64 s_2), (2, .int .i64 s_3), (3, .int .i64 s_11), (8, .bool s_4), (9, .bool s_5), (10, .int .i64 (w64 (s_3 - s_2))), (11, .int .i64 s_16), (75, .bool false)] rfl ⟨rfl, rfl, rfl, rfl, rfl, rfl, rfl, rfl, rfl, trivial⟩ ?_
                        refine WO_skip rfl rfl ?_
                        refine WO_pure tbok 2 [(0, .slice a_z0 z0.length c_z0), (1, .int .i64 s_2), (2, .int .i64 s_3), (3, .int .i64 s_11), (8, .bool s_4), (9, .bool s_5), (10, .int .i64 (w64 (s_3 - s_2))), (11, .int .i64 s_16), (87, .bool false)] rfl ⟨rfl, rfl, rfl, rfl, rfl, rfl, rfl, rfl, rfl, trivial⟩ ?_
                        refine WO_tail ?_
                        refine WO_end ?_
                        cases hx32
                        refine WK.sub ?_ (WK.cls (fun _ h => h) hk33)
                        exact ⟨rfl, rfl, rfl, rfl, rfl, rfl, rfl, rfl, rfl, trivial⟩
                · have hm6 := ifF hb28 hm6
                  refine WK_skip ?_
                  refine WK_seq ?_
                  refine WK_seq ?_
                  obtain ⟨s_32, hx50, hm6⟩ := bind_some hm6
                  refine WK_meet [(0, .slice a_z0 z0.length c_z0), (1, .int .i64 s_2), (2, .int .i64 s_3), (3, .int .i64 s_11), (8, .bool s_4), (9, .bool s_5), (10, .int .i64 (w64 (s_3 - s_2))), (11, .int .i64 s_16), (87, .bool s_32)] (St w0 m mc [L23, LR]) ?_ (fun hk51 => ?_)
                  · refine WK_cond (b := s_32) rfl (fun hb52 => ?_) (fun hb52 => ?_)
                    · have hm6 := ifT hb52 hm6
                      refine WK_seq ?_
                      refine WK_region ?_
                      refine WO_pure tbok 4 [(0, .slice a_z0 z0.length c_z0), (1, .int .i64 s_2), (2, .int .i64 s_3), (3, .int .i64 s_11), (8, .bool s_4), (9, .bool s_5), (10, .int .i64 (w64 (s_3 - s_2))), (11, .int .i64 s_16), (88, .slice a_z0 z0.length c_z0), (89, .int .i64 s_2), (90, .int .i64 s_3), (91, .int .i64 s_16)] rfl ⟨rfl, rfl, rfl, rfl, rfl, rfl, rfl, rfl, rfl, rfl, rfl, rfl, trivial⟩ ?_
                      obtain ⟨⟨y_33, y_34⟩, hc53, hm6⟩ := bind_some hm6
                      refine WO_callS (G := List Ent) (fun g => .int .i64 y_33) (fun g => OwnE 95 1 (I1 .u64) (.slice a_z0 z0.length c_z0) y_34 g) (fun g => St w0 m mc [g, LR]) rfl rfl rfl rfl rfl rfl callable_94 (slices_partitionEqualOrdered_uint64_walk hle0 hL23 hc53) ?_
                      rintro L54 hL54
                      refine WO.cls (C' := St w0 m mc [L54, LR]) (fun _ h => h) ?_
                      refine WO_pure tbok 1 [(0, .slice a_z0 z0.length c_z0), (1, .int .i64 s_2), (2, .int .i64 s_3), (3, .int .i64 s_11), (8, .bool s_4), (9, .bool s_5), (10, .int .i64 (w64 (s_3 - s_2))), (11, .int .i64 s_16), (13, .int .i64 y_33)] rfl ⟨rfl, rfl, rfl, rfl, rfl, rfl, rfl, rfl, rfl, trivial⟩ ?_
                      refine WO_end ?_
                      refine WK_seq ?_
                      refine WK_region ?_
                      refine WO_pure tbok 2 [(0, .slice a_z0 z0.length c_z0), (1, .int .i64 y_33), (2, .int .i64 s_3), (3, .int .i64 s_11), (8, .bool s_4), (9, .bool s_5), (10, .int .i64 (w64 (s_3 - s_2))), (11, .int .i64 s_16)] rfl ⟨rfl, rfl, rfl, rfl, rfl, rfl, rfl, rfl, trivial⟩ ?_
                      refine WO_end ?_
                      refine WK_exit rfl ?_
                      cases hm6
                      refine WK.sub ?_ (WK.cls (fun _ h => h) (hn9 _ L54 rfl hL54))
                      exact ⟨rfl, rfl, rfl, rfl, rfl, rfl, trivial⟩
                    · have hm6 := ifF hb52 hm6
                      refine WK_skip ?_
                      refine WK_seq ?_
                      refine WK_region ?_
                      refine WO_pure tbok 4 [(0, .slice a_z0 z0.length c_z0), (1, .int .i64 s_2), (2, .int .i64 s_3), (3, .int .i64 s_11), (8, .bool s_4), (9, .bool s_5), (10, .int .i64 (w64 (s_3 - s_2))), (95, .slice a_z0 z0.length c_z0), (96, .int .i64 s_2), (97, .int .i64 s_3), (98, .int .i64 s_16)] rfl ⟨rfl, rfl, rfl, rfl, rfl, rfl, rfl, rfl, rfl, rfl, rfl, trivial⟩ ?_
                      obtain ⟨⟨y_35, y_36, y_37⟩, hc55, hm6⟩ := bind_some hm6
                      refine WO_callS (G := List Ent) (fun g => .tuple #[.int .i64 y_35, .bool y_36]) (fun g => OwnE 95 1 (I1 .u64) (.slice a_z0 z0.length c_z0) y_37 g) (fun g => St w0 m mc [g, LR]) rfl rfl rfl rfl rfl rfl callable_95 (slices_partitionOrdered_uint64_walk hle0 hL23 hc55) ?_
                      rintro L56 hL56
                      refine WO.cls (C' := St w0 m mc [L56, LR]) (fun _ h => h) ?_
                      refine WO_pure tbok 5 [(0, .slice a_z0 z0.length c_z0), (1, .int .i64 s_2), (2, .int .i64 s_3), (3, .int .i64 s_11), (8, .bool s_4), (9, .bool s_5), (10, .int .i64 (w64 (s_3 - s_2))), (14, .int .i64 y_35), (15, .bool y_36)] rfl ⟨rfl, rfl, rfl, rfl, rfl, rfl, rfl, rfl, rfl, trivial⟩ ?_
                      refine WO_end ?_
                      refine WK_seq ?_
                      refine WK_region ?_
                      refine WO_pure tbok 2 [(0, .slice a_z0 z0.length c_z0), (1, .int .i64 s_2), (2, .int .i64 s_3), (3, .int .i64 s_11), (8, .bool s_4), (9, .bool y_36), (10, .int .i64 (w64 (s_3 - s_2))), (14, .int .i64 y_35)] rfl ⟨rfl, rfl, rfl, rfl, rfl, rfl, rfl, rfl, trivial⟩ ?_
                      refine WO_end ?_
                      refine WK_seq ?_
                      refine WK_region ?_
                      refine WO_pure tbok 8 [(0, .slice a_z0 z0.length c_z0), (1, .int .i64 s_2), (2, .int .i64 s_3), (3, .int .i64 s_11), (8, .bool s_4), (9, .bool y_36), (10, .int .i64 (w64 (s_3 - s_2))), (14, .int .i64 y_35), (16, .int .i64 (w64 (y_35 - s_2))), (17, .int .i64 (w64 (s_3 - y_35)))] rfl ⟨rfl, rfl, rfl, rfl, rfl, rfl, rfl, rfl, rfl, rfl, trivial⟩ ?_
                      refine WO_end ?_
                      refine WK_seq ?_
                      refine WK_region ?_
                      refine WO_pure tbok 3 [(0, .slice a_z0 z0.length c_z0), (1, .int .i64 s_2), (2, .int .i64 s_3), (3, .int .i64 s_11), (8, .bool s_4), (9, .bool y_36), (14, .int .i64 y_35), (16, .int .i64 (w64 (y_35 - s_2))), (17, .int .i64 (w64 (s_3 - y_35))), (18, .int .i64 (w64 (Int.tdiv (w64 (s_3 - s_2)) 8)))] rfl ⟨rfl, rfl, rfl, rfl, rfl, rfl, rfl, rfl, rfl, rfl, trivial⟩ ?_
                      refine WO_end ?_
                      refine WK_seq ?_
                      refine WK_region ?_
                      refine WO_pure tbok 3 [(0, .slice a_z0 z0.length c_z0), (1, .int .i64 s_2), (2, .int .i64 s_3), (3, .int .i64 s_11), (8, .bool s_4), (9, .bool y_36), (14, .int .i64 y_35), (16, .int .i64 (w64 (y_35 - s_2))), (17, .int .i64 (w64 (s_3 - y_35))), (18, .int .i64 (w64 (Int.tdiv (w64 (s_3 - s_2)) 8))), (113, .bool (decide ((w64 (y_35 - s_2)) < (w64 (s_3 - y_35)))))] rfl ⟨rfl, rfl, rfl, rfl, rfl, rfl, rfl, rfl, rfl, rfl, rfl, trivial⟩ ?_
                      refine WO_end ?_
                      refine WK_cond (b := decide ((w64 (y_35 - s_2)) < (w64 (s_3 - y_35)))) rfl (fun hb57 => ?_) (fun hb57 => ?_)
                      · have hm6 := ifT hb57 hm6
                        refine WK_seq ?_
                        refine WK_region ?_
                        refine WO_pure tbok 4 [(0, .slice a_z0 z0.length c_z0), (1, .int .i64 s_2), (2, .int .i64 s_3), (3, .int .i64 s_11), (8, .bool (decide ((w64 (Int.tdiv (w64 (s_3 - s_2)) 8)) ≤ (w64 (y_35 - s_2))))), (9, .bool y_36), (14, .int .i64 y_35)] rfl ⟨rfl, rfl, rfl, rfl, rfl, rfl, rfl, trivial⟩ ?_
                        refine WO_end ?_
                        refine WK_seq ?_
                        refine WK_region ?_
                        refine WO_pure tbok 4 [(0, .slice a_z0 z0.length c_z0), (1, .int .i64 s_2), (2, .int .i64 s_3), (3, .int .i64 s_11), (8, .bool (decide ((w64 (Int.tdiv (w64 (s_3 - s_2)) 8)) ≤ (w64 (y_35 - s_2))))), (9, .bool y_36), (14, .int .i64 y_35), (117, .slice a_z0 z0.length c_z0), (118, .int .i64 s_2), (119, .int .i64 y_35), (120, .int .i64 s_11)] rfl ⟨rfl, rfl, rfl, rfl, rfl, rfl, rfl, rfl, rfl, rfl, rfl, trivial⟩ ?_
                        obtain ⟨y_38, hc58, hm6⟩ := bind_some hm6
                        refine WO_callS (G := List Ent) (fun g => .tuple #[]) (fun g => OwnE 95 1 (I1 .u64) (.slice a_z0 z0.length c_z0) y_38 g) (fun g => St w0 m mc [g, LR]) rfl rfl rfl rfl rfl rfl callable_82 (ih hle0 hL56 hc58) ?_
                        rintro L59 hL59
                        refine WO.cls (C' := St w0 m mc [L59, LR]) (fun _ h => h) ?_
                        refine WO_end ?_
                        refine WK_region ?_
                        refine WO_pure tbok 3 [(0, .slice a_z0 z0.length c_z0), (1, .int .i64 (w64 (y_35 + 1))), (2, .int .i64 s_3), (3, .int .i64 s_11), (8, .bool (decide ((w64 (Int.tdiv (w64 (s_3 - s_2)) 8)) ≤ (w64 (y_35 - s_2))))), (9, .bool y_36)] rfl ⟨rfl, rfl, rfl, rfl, rfl, rfl, trivial⟩ ?_
                        refine WO_end ?_
                        refine WK_blk ?_
                        cases hm6
                        refine WK.sub ?_ (WK.cls (fun _ h => h) (hn9 _ L59 rfl hL59))
                        exact ⟨rfl, rfl, rfl, rfl, rfl, rfl, trivial⟩
                      · have hm6 := ifF hb57 hm6
                        refine WK_seq ?_
                        refine WK_region ?_
                        refine WO_pure tbok 4 [(0, .slice a_z0 z0.length c_z0), (1, .int .i64 s_2), (2, .int .i64 s_3), (3, .int .i64 s_11), (8, .bool (decide ((w64 (Int.tdiv (w64 (s_3 - s_2)) 8)) ≤ (w64 (s_3 - y_35))))), (9, .bool y_36), (14, .int .i64 y_35)] rfl ⟨rfl, rfl, rfl, rfl, rfl, rfl, rfl, trivial⟩ ?_
                        refine WO_end ?_
                        refine WK_seq ?_
                        refine WK_region ?_
                        refine WO_pure tbok 5 [(0, .slice a_z0 z0.length c_z0), (1, .int .i64 s_2), (2, .int .i64 s_3), (3, .int .i64 s_11), (8, .bool (decide ((w64 (Int.tdiv (w64 (s_3 - s_2)) 8)) ≤ (w64 (s_3 - y_35))))), (9, .bool y_36), (14, .int .i64 y_35), (127, .slice a_z0 z0.length c_z0), (129, .int .i64 (w64 (y_35 + 1))), (130, .int .i64 s_3), (131, .int .i64 s_11)] rfl ⟨rfl, rfl, rfl, rfl, rfl, rfl, rfl, rfl, rfl, rfl, rfl, trivial⟩ ?_
                        obtain ⟨y_39, hc60, hm6⟩ := bind_some hm6
                        refine WO_callS (G := List Ent) (fun g => .tuple #[]) (fun g => OwnE 95 1 (I1 .u64) (.slice a_z0 z0.length c_z0) y_39 g) (fun g => St w0 m mc [g, LR]) rfl rfl rfl rfl rfl rfl callable_82 (ih hle0 hL56 hc60) ?_
                        rintro L61 hL61
                        refine WO.cls (C' := St w0 m mc [L61, LR]) (fun _ h => h) ?_
                        refine WO_end ?_
                        refine WK_region ?_
                        refine WO_pure tbok 2 [(0, .slice a_z0 z0.length c_z0), (1, .int .i64 s_2), (2, .int .i64 y_35), (3, .int .i64 s_11), (8, .bool (decide ((w64 (Int.tdiv (w64 (s_3 - s_2)) 8)) ≤ (w64 (s_3 - y_35))))), (9, .bool y_36)] rfl ⟨rfl, rfl, rfl, rfl, rfl, rfl, trivial⟩ ?_
                        refine WO_end ?_
                        refine WK_blk ?_
                        cases hm6
                        refine WK.sub ?_ (WK.cls (fun _ h => h) (hn9 _ L61 rfl hL61))
                        exact ⟨rfl, rfl, rfl, rfl, rfl, rfl, trivial⟩
                  · refine WK_draw 15 [0, 1, 2, 3, 4, 5, 6, 7, 8, 9, 10, 11, 12, 13, 14] follows_ok (by kernel_rfl) St_closed ?_
                    refine WO_pure tbok 3 [(0, .slice a_z0 z0.length c_z0), (1, .int .i64 s_2), (2, .int .i64 s_3), (3, .int .i64 s_11), (8, .bool s_4), (9, .bool s_5), (10, .int .i64 (w64 (s_3 - s_2))), (11, .int .i64 s_16), (75, .bool (decide (0 < s_2)))] rfl ⟨rfl, rfl, rfl, rfl, rfl, rfl, rfl, rfl, rfl, trivial⟩ ?_
                    refine WO_split (d := 75) (b := decide (0 < s_2)) rfl (fun hb62 => ?_) (fun hb62 => ?_)
                    · have hx50 := ifT hb62 hx50
                      refine WO_pure tbok 3 [(0, .slice a_z0 z0.length c_z0), (1, .int .i64 s_2), (2, .int .i64 s_3), (3, .int .i64 s_11), (8, .bool s_4), (9, .bool s_5), (10, .int .i64 (w64 (s_3 - s_2))), (11, .int .i64 s_16), (75, .bool true), (76, .slice a_z0 z0.length c_z0), (78, .int .i64 (w64 (s_2 - 1)))] rfl ⟨rfl, rfl, rfl, rfl, rfl, rfl, rfl, rfl, rfl, rfl, rfl, trivial⟩ ?_
                      obtain ⟨v_40, hy63, hx50⟩ := bind_some hx50
                      obtain ⟨hc64, hy63⟩ := ix_some hy63
                      refine WO_index tbok rfl rfl rfl rfl rfl rfl rfl rfl (OwnE.addr hL23) (by simpa using hc64) ?_
                      refine WO_loadO (E := (I1 .u64)) tbok (fun _ => rfl) 0 rfl rfl rfl rfl (fun _ h => h) hL23 rfl hy63 rfl ?_
                      refine WO_pure tbok 2 [(0, .slice a_z0 z0.length c_z0), (1, .int .i64 s_2), (2, .int .i64 s_3), (3, .int .i64 s_11), (8, .bool s_4), (9, .bool s_5), (10, .int .i64 (w64 (s_3 - s_2))), (11, .int .i64 s_16), (75, .bool true), (80, .int .u64 v_40), (81, .slice a_z0 z0.length c_z0), (82, .int .i64 s_16)] rfl ⟨rfl, rfl, rfl, rfl, rfl, rfl, rfl, rfl, rfl, rfl, rfl, rfl, trivial⟩ ?_
                      obtain ⟨v_41, hy65, hx50⟩ := bind_some hx50
                      obtain ⟨hc66, hy65⟩ := ix_some hy65
                      refine WO_index tbok rfl rfl rfl rfl rfl rfl rfl rfl (OwnE.addr hL23) (by simpa using hc66) ?_
                      refine WO_loadO (E := (I1 .u64)) tbok (fun _ => rfl) 0 rfl rfl rfl rfl (fun _ h => h) hL23 rfl hy65 rfl ?_
                      obtain ⟨y_42, hc67, hx50⟩ := bind_some hx50
                      refine WO_call0 (.bool y_42) rfl rfl St_closed rfl rfl rfl rfl St_closed ⟨93, #[], #[], rfl, callable_93, fun w hw => ⟨_, hw.sat, cmp_Less_uint64_walk hc67⟩⟩ ?_
                      refine WO_pure tbok 2 [(0, .slice a_z0 z0.length c_z0), (1, .int .i64 s_2), (2, .int .i64 s_3), (3, .int .i64 s_11), (8, .bool s_4), (9, .bool s_5), (10, .int .i64 (w64 (s_3 - s_2))), (11, .int .i64 s_16), (87, .bool (!y_42))] rfl ⟨rfl, rfl, rfl, rfl, rfl, rfl, rfl, rfl, rfl, trivial⟩ ?_
                      refine WO_tail ?_
                      refine WO_end ?_
                      cases hx50
                      refine WK.sub ?_ (WK.cls (fun _ h => h) hk51)
                      exact ⟨rfl, rfl, rfl, rfl, rfl, rfl, rfl, rfl, rfl, trivial⟩
                    · have hx50 := ifF hb62 hx50
                      refine WO_pure tbok 9 [(0, .slice a_z0 z0.length c_z0), (1, .int .i64 s_2), (2, .int .i64 s_3), (3, .int .i64 s_11), (8, .bool s_4), (9, .bool s_5), (10, .int .i64 (w64 (s_3 - s_2))), (11, .int .i64 s_16), (75, .bool false)] rfl ⟨rfl, rfl, rfl, rfl, rfl, rfl, rfl, rfl, rfl, trivial⟩ ?_
                      refine WO_skip rfl rfl ?_
                      refine WO_pure tbok 2 [(0, .slice a_z0 z0.length c_z0), (1, .int .i64 s_2), (2, .int .i64 s_3), (3, .int .i64 s_11), (8, .bool s_4), (9, .bool s_5), (10, .int .i64 (w64 (s_3 - s_2))), (11, .int .i64 s_16), (87, .bool false)] rfl ⟨rfl, rfl, rfl, rfl, rfl, rfl, rfl, rfl, rfl, trivial⟩ ?_
                      refine WO_tail ?_
                      refine WO_end ?_
                      cases hx50
                      refine WK.sub ?_ (WK.cls (fun _ h => h) hk51)
                      exact ⟨rfl, rfl, rfl, rfl, rfl, rfl, rfl, rfl, rfl, trivial⟩
              · refine WK_region ?_
                refine WO_pure tbok 2 [(0, .slice a_z0 z0.length c_z0), (1, .int .i64 s_2), (2, .int .i64 s_3), (3, .int .i64 s_11), (8, .bool s_4), (9, .bool s_5), (10, .int .i64 (w64 (s_3 - s_2))), (11, .int .i64 s_16), (12, .int .i64 s_17), (62, .bool s_4)] rfl ⟨rfl, rfl, rfl, rfl, rfl, rfl, rfl, rfl, rfl, rfl, trivial⟩ ?_
                refine WO_split (d := 62) (b := s_4) rfl (fun hb68 => ?_) (fun hb68 => ?_)
                · have hx26 := ifT hb68 hx26
                  refine WO_pure tbok 3 [(0, .slice a_z0 z0.length c_z0), (1, .int .i64 s_2), (2, .int .i64 s_3), (3, .int .i64 s_11), (8, .bool s_4), (9, .bool s_5), (10, .int .i64 (w64 (s_3 - s_2))), (11, .int .i64 s_16), (12, .int .i64 s_17), (65, .bool s_5)] rfl ⟨rfl, rfl, rfl, rfl, rfl, rfl, rfl, rfl, rfl, rfl, trivial⟩ ?_
                  refine WO_split (d := 65) (b := s_5) rfl (fun hb69 => ?_) (fun hb69 => ?_)
                  · have hx26 := ifT hb69 hx26
                    refine WO_pure tbok 3 [(0, .slice a_z0 z0.length c_z0), (1, .int .i64 s_2), (2, .int .i64 s_3), (3, .int .i64 s_11), (8, .bool s_4), (9, .bool s_5), (10, .int .i64 (w64 (s_3 - s_2))), (11, .int .i64 s_16), (68, .bool (s_17 == 1))] rfl ⟨rfl, rfl, rfl, rfl, rfl, rfl, rfl, rfl, rfl, trivial⟩ ?_
                    refine WO_end ?_
                    cases hx26
                    refine WK.sub ?_ (WK.cls (fun _ h => h) hk27)
                    exact ⟨rfl, rfl, rfl, rfl, rfl, rfl, rfl, rfl, rfl, trivial⟩
                  · have hx26 := ifF hb69 hx26
                    refine WO_pure tbok 3 [(0, .slice a_z0 z0.length c_z0), (1, .int .i64 s_2), (2, .int .i64 s_3), (3, .int .i64 s_11), (8, .bool s_4), (9, .bool s_5), (10, .int .i64 (w64 (s_3 - s_2))), (11, .int .i64 s_16), (68, .bool false)] rfl ⟨rfl, rfl, rfl, rfl, rfl, rfl, rfl, rfl, rfl, trivial⟩ ?_
                    refine WO_end ?_
                    cases hx26
                    refine WK.sub ?_ (WK.cls (fun _ h => h) hk27)
                    exact ⟨rfl, rfl, rfl, rfl, rfl, rfl, rfl, rfl, rfl, trivial⟩
                · have hx26 := ifF hb68 hx26
                  refine WO_pure tbok 6 [(0, .slice a_z0 z0.length c_z0), (1, .int .i64 s_2), (2, .int .i64 s_3), (3, .int .i64 s_11), (8, .bool s_4), (9, .bool s_5), (10, .int .i64 (w64 (s_3 - s_2))), (11, .int .i64 s_16), (68, .bool false)] rfl ⟨rfl, rfl, rfl, rfl, rfl, rfl, rfl, rfl, rfl, trivial⟩ ?_
                  refine WO_end ?_
                  cases hx26
                  refine WK.sub ?_ (WK.cls (fun _ h => h) hk27)
                  exact ⟨rfl, rfl, rfl, rfl, rfl, rfl, rfl, rfl, rfl, trivial⟩
            · refine WK_cond (b := y_13 == 2) rfl (fun hb70 => ?_) (fun hb70 => ?_)
              · have hx24 := ifT hb70 hx24
                refine WK_seq ?_
                refine WK_region ?_
                refine WO_pure tbok 3 [(0, .slice a_z0 z0.length c_z0), (1, .int .i64 s_2), (2, .int .i64 s_3), (3, .int .i64 s_11), (8, .bool s_4), (9, .bool s_5), (10, .int .i64 (w64 (s_3 - s_2))), (11, .int .i64 y_12), (12, .int .i64 y_13), (51, .slice a_z0 z0.length c_z0), (52, .int .i64 s_2), (53, .int .i64 s_3)] rfl ⟨rfl, rfl, rfl, rfl, rfl, rfl, rfl, rfl, rfl, rfl, rfl, rfl, trivial⟩ ?_
                obtain ⟨y_43, hc71, hx24⟩ := bind_some hx24
                refine WO_callS (G := List Ent) (fun g => .tuple #[]) (fun g => OwnE 95 1 (I1 .u64) (.slice a_z0 z0.length c_z0) y_43 g) (fun g => St w0 m mc [g, LR]) rfl rfl rfl rfl rfl rfl callable_91 (slices_reverseRangeOrdered_uint64_walk hle0 hL22 hc71) ?_
                rintro L72 hL72
                refine WO.cls (C' := St w0 m mc [L72, LR]) (fun _ h => h) ?_
                refine WO_end ?_
                refine WK_seq ?_
                refine WK_region ?_
                refine WO_pure tbok 7 [(0, .slice a_z0 z0.length c_z0), (1, .int .i64 s_2), (2, .int .i64 s_3), (3, .int .i64 s_11), (8, .bool s_4), (9, .bool s_5), (10, .int .i64 (w64 (s_3 - s_2))), (11, .int .i64 (w64 ((w64 (s_3 - 1)) - (w64 (y_12 - s_2))))), (12, .int .i64 y_13)] rfl ⟨rfl, rfl, rfl, rfl, rfl, rfl, rfl, rfl, rfl, trivial⟩ ?_
                refine WO_end ?_
                refine WK_region ?_
                refine WO_pure tbok 1 [(0, .slice a_z0 z0.length c_z0), (1, .int .i64 s_2), (2, .int .i64 s_3), (3, .int .i64 s_11), (8, .bool s_4), (9, .bool s_5), (10, .int .i64 (w64 (s_3 - s_2))), (11, .int .i64 (w64 ((w64 (s_3 - 1)) - (w64 (y_12 - s_2))))), (12, .int .i64 1)] rfl ⟨rfl, rfl, rfl, rfl, rfl, rfl, rfl, rfl, rfl, trivial⟩ ?_
                refine WO_end ?_
                cases hx24
                refine WK.sub ?_ (WK.cls (fun _ h => h) (hk25 L72 hL72))
                exact ⟨rfl, rfl, rfl, rfl, rfl, rfl, rfl, rfl, rfl, trivial⟩
              · have hx24 := ifF hb70 hx24
                refine WK_skip ?_
                cases hx24
                refine WK.sub ?_ (WK.cls (fun _ h => h) (hk25 L22 hL22))
                exact ⟨rfl, rfl, rfl, rfl, rfl, rfl, rfl, rfl, rfl, trivial⟩
          · refine WK_cond (b := !s_4) rfl (fun hb73 => ?_) (fun hb73 => ?_)
            · have hx19 := ifT hb73 hx19
              refine WK_seq ?_
              refine WK_region ?_
              refine WO_pure tbok 3 [(0, .slice a_z0 z0.length c_z0), (1, .int .i64 s_2), (2, .int .i64 s_3), (3, .int .i64 s_6), (8, .bool s_4), (9, .bool s_5), (10, .int .i64 (w64 (s_3 - s_2))), (36, .slice a_z0 z0.length c_z0), (37, .int .i64 s_2), (38, .int .i64 s_3)] rfl ⟨rfl, rfl, rfl, rfl, rfl, rfl, rfl, rfl, rfl, rfl, trivial⟩ ?_
              obtain ⟨y_44, hc74, hx19⟩ := bind_some hx19
              refine WO_callS (G := List Ent) (fun g => .tuple #[]) (fun g => OwnE 95 1 (I1 .u64) (.slice a_z0 z0.length c_z0) y_44 g) (fun g => St w0 m mc [g, LR]) rfl rfl rfl rfl rfl rfl callable_89 (slices_breakPatternsOrdered_uint64_walk hle0 hL1 hc74) ?_
              rintro L75 hL75
              refine WO.cls (C' := St w0 m mc [L75, LR]) (fun _ h => h) ?_
              refine WO_end ?_
              refine WK_region ?_
              refine WO_pure tbok 3 [(0, .slice a_z0 z0.length c_z0), (1, .int .i64 s_2), (2, .int .i64 s_3), (3, .int .i64 (w64 (s_6 - 1))), (8, .bool s_4), (9, .bool s_5), (10, .int .i64 (w64 (s_3 - s_2)))] rfl ⟨rfl, rfl, rfl, rfl, rfl, rfl, rfl, trivial⟩ ?_
              refine WO_end ?_
              cases hx19
              refine WK.sub ?_ (WK.cls (fun _ h => h) (hk20 L75 hL75))
              exact ⟨rfl, rfl, rfl, rfl, rfl, rfl, rfl, trivial⟩
            · have hx19 := ifF hb73 hx19
              refine WK_skip ?_
              cases hx19
              refine WK.sub ?_ (WK.cls (fun _ h => h) (hk20 L1 hL1))
              exact ⟨rfl, rfl, rfl, rfl, rfl, rfl, rfl, trivial⟩
theorem slices_Sort_suint64_walk {w0 : World} {m mc : Mu} {LR : List Ent} {z0 : List Int} {a_z0 : Option Addr} {n_z0 c_z0 : Nat} {L_z0 : List Ent} {r : List Int} (hle0 : Le m mc) (h_z0 : OwnE 95 1 (I1 .u64) (.slice a_z0 n_z0 c_z0) z0 L_z0) (hm : slices_Sort_suint64 z0 = some r) :
    SpecS Try.prog 76 [.slice a_z0 n_z0 c_z0] (St w0 m mc [L_z0, LR]) (fun v w => ∃ g : List Ent, v = .tuple #[] ∧ (OwnE 95 1 (I1 .u64) (.slice a_z0 n_z0 c_z0) r g) ∧ St w0 m mc [g, LR] w) := by
  refine SpecS_enter Try.func76 rfl rfl rfl ?_
  refine WK.sub (e' := [(0, .slice a_z0 n_z0 c_z0)]) ⟨rfl, trivial⟩ ?_
  obtain rfl := OwnE.qlen h_z0
  refine WK.sub (e' := [(0, .slice a_z0 z0.length c_z0)]) ⟨rfl, trivial⟩ (WK.cls (C' := St w0 m mc [L_z0, LR]) (fun _ h => h) ?_)
  unfold slices_Sort_suint64 at hm
  refine WK_seq ?_
  refine WK_region ?_
  refine WO_pure tbok 3 [(0, .slice a_z0 z0.length c_z0), (2, .int .i64 (z0.length : Int))] rfl ⟨rfl, rfl, trivial⟩ ?_
  refine WO_end ?_
  refine WK_region ?_
  refine WO_pure tbok 4 [(5, .slice a_z0 z0.length c_z0), (6, .int .i64 (z0.length : Int)), (8, .int .u64 (wu64 ((z0.length : Int))))] rfl ⟨rfl, rfl, rfl, trivial⟩ ?_
  obtain ⟨y_1, hc1, hm⟩ := bind_some hm
  refine WO_call0 (.int .i64 y_1) rfl rfl trivial rfl rfl rfl rfl St_closed ⟨83, #[], #[], rfl, callable_83, fun w hw => ⟨_, hw.sat, bits_Len_walk hc1⟩⟩ ?_
  obtain ⟨y_2, hc2, hm⟩ := bind_some hm
  refine WO_callS (G := List Ent) (fun g => .tuple #[]) (fun g => OwnE 95 1 (I1 .u64) (.slice a_z0 z0.length c_z0) y_2 g) (fun g => St w0 m mc [g, LR]) rfl rfl rfl rfl rfl rfl callable_82 (slices_pdqsortOrdered_uint64_walk FUEL hle0 h_z0 hc2) ?_
  rintro L3 hL3
  refine WO.cls (C' := St w0 m mc [L3, LR]) (fun _ h => h) ?_
  refine WO_end ?_
  cases hm
  exact WK_nilS RLc_nil (fun _ h => ⟨L3, rfl, hL3, h⟩)
theorem slices_Compact_suint64_walk {w0 : World} {m mc : Mu} {LR : List Ent} {z0 : List Int} {a_z0 : Option Addr} {n_z0 c_z0 : Nat} {L_z0 : List Ent} {r : Nat × List Int} (hle0 : Le m mc) (h_z0 : OwnE 95 1 (I1 .u64) (.slice a_z0 n_z0 c_z0) z0 L_z0) (hm : slices_Compact_suint64 z0 = some r) :
    SpecS Try.prog 60 [.slice a_z0 n_z0 c_z0] (St w0 m mc [L_z0, LR]) (fun v w => ∃ g : List Ent × Option Addr × Nat, v = .slice g.2.1 r.1 g.2.2 ∧ (OwnE 95 1 (I1 .u64) (.slice a_z0 n_z0 c_z0) r.2 g.1) ∧ St w0 m mc [g.1, LR] w) := by
  refine SpecS_enter Try.func60 rfl rfl rfl ?_
  refine WK.sub (e' := [(0, .slice a_z0 n_z0 c_z0)]) ⟨rfl, trivial⟩ ?_
  obtain rfl := OwnE.qlen h_z0
  refine WK.sub (e' := [(0, .slice a_z0 z0.length c_z0)]) ⟨rfl, trivial⟩ (WK.cls (C' := St w0 m mc [L_z0, LR]) (fun _ h => h) ?_)
  unfold slices_Compact_suint64 at hm
  refine WK_seq ?_
  refine WK_region ?_
  refine WO_pure tbok 1 [(0, .slice a_z0 z0.length c_z0), (2, .slice none 0 0)] rfl ⟨rfl, rfl, trivial⟩ ?_
  refine WO_end ?_
  refine WK_seq ?_
  refine WK_seq ?_
  refine WK_region ?_
  refine WO_pure tbok 3 [(0, .slice a_z0 z0.length c_z0), (2, .slice none 0 0), (8, .bool (decide ((z0.length : Int) < 2)))] rfl ⟨rfl, rfl, rfl, trivial⟩ ?_
  refine WO_end ?_
  refine WK_cond (b := decide ((z0.length : Int) < 2)) rfl (fun hb1 => ?_) (fun hb1 => ?_)
  · have hm := ifT hb1 hm
    refine WK_seq ?_
    refine WK_region ?_
    refine WO_pure tbok 2 [(0, .slice a_z0 z0.length c_z0), (2, .slice a_z0 z0.length c_z0)] rfl ⟨rfl, rfl, trivial⟩ ?_
    refine WO_end ?_
    cases hm
    exact WK_retS (RLc_tmp rfl RLc_nil) (fun _ h => ⟨⟨L_z0, a_z0, c_z0⟩, rfl, h_z0, h⟩)
  · have hm := ifF hb1 hm
    refine WK_skip ?_
    refine WK_seq ?_
    refine WK_seq ?_
    refine WK_region ?_
    refine WO_pure tbok 1 [(0, .slice a_z0 z0.length c_z0), (2, .slice none 0 0), (3, .int .i64 1)] rfl ⟨rfl, rfl, rfl, trivial⟩ ?_
    refine WO_end ?_
    obtain ⟨x2, hx3, hm⟩ := bind_some hm
    refine WK_join (β := Unit × Unit) (fun p => Sum.inr p.1 = x2) (fun p => [(0, .slice a_z0 z0.length c_z0), (2, .slice none 0 0)]) (fun p => St w0 m mc [L_z0, LR]) ?_ (fun hk4 => ?_)
    · rintro ⟨⟨⟩, ⟨⟩⟩ hq10
      subst hq10
      refine WK.sub (e' := [(0, .slice a_z0 z0.length c_z0), (2, .slice none 0 0)]) ⟨rfl, rfl, trivial⟩ (WK.cls (C' := St w0 m mc [L_z0, LR]) (fun _ h => h) ?_)
      refine WK_seq ?_
      refine WK_region ?_
      refine WO_pure tbok 2 [(2, .slice a_z0 z0.length c_z0)] rfl ⟨rfl, trivial⟩ ?_
      refine WO_end ?_
      cases hm
      exact WK_retS (RLc_tmp rfl RLc_nil) (fun _ h => ⟨⟨L_z0, a_z0, c_z0⟩, rfl, h_z0, h⟩)
    · refine WK_block ?_
      refine WK_loop (S := Int) (G := Unit) (fun s => slices_Compact_suint64_s1 z0 s) (fun s g => [(0, .slice a_z0 z0.length c_z0), (2, .slice none 0 0), (3, .int .i64 s)]) (fun s g => St w0 m mc [L_z0, LR]) (fun s g => True) FUEL 1 () x2 hx3 trivial ⟨rfl, rfl, rfl, trivial⟩ (fun _ h => h) ?_
      rintro s_1 ⟨⟩ o6 fl7 hm5 - hn8 hd9
      have hm5 : slices_Compact_suint64_s1 z0 s_1 = some o6 := hm5
      unfold slices_Compact_suint64_s1 at hm5
      refine WK.sub (e' := [(0, .slice a_z0 z0.length c_z0), (2, .slice none 0 0), (3, .int .i64 s_1)]) ⟨rfl, rfl, rfl, trivial⟩ (WK.cls (C' := St w0 m mc [L_z0, LR]) (fun _ h => h) ?_)
      refine WK_seq ?_
      refine WK_seq ?_
      refine WK_region ?_
      refine WO_pure tbok 4 [(0, .slice a_z0 z0.length c_z0), (2, .slice none 0 0), (3, .int .i64 s_1), (13, .bool (decide (s_1 < (z0.length : Int))))] rfl ⟨rfl, rfl, rfl, rfl, trivial⟩ ?_
      refine WO_end ?_
      refine WK_cond (b := decide (s_1 < (z0.length : Int))) rfl (fun hb11 => ?_) (fun hb11 => ?_)
      · have hm5 := ifT hb11 hm5
        refine WK_skip ?_
        refine WK_seq ?_
        refine WK_block ?_
        refine WK_seq ?_
        refine WK_draw 10 [0, 1, 2, 3, 4, 5, 6, 7, 8, 9] follows_ok (by kernel_rfl) St_closed ?_
        refine WO_pure tbok 2 [(0, .slice a_z0 z0.length c_z0), (2, .slice none 0 0), (3, .int .i64 s_1), (16, .slice a_z0 z0.length c_z0), (17, .int .i64 s_1)] rfl ⟨rfl, rfl, rfl, rfl, rfl, trivial⟩ ?_
        obtain ⟨v_2, hy12, hm5⟩ := bind_some hm5
        obtain ⟨hc13, hy12⟩ := ix_some hy12
        refine WO_index tbok rfl rfl rfl rfl rfl rfl rfl rfl (OwnE.addr h_z0) (by simpa using hc13) ?_
        refine WO_loadO (E := (I1 .u64)) tbok (fun _ => rfl) 0 rfl rfl rfl rfl (fun _ h => h) h_z0 rfl hy12 rfl ?_
        refine WO_pure tbok 3 [(0, .slice a_z0 z0.length c_z0), (2, .slice none 0 0), (3, .int .i64 s_1), (19, .int .u64 v_2), (20, .slice a_z0 z0.length c_z0), (22, .int .i64 (w64 (s_1 - 1)))] rfl ⟨rfl, rfl, rfl, rfl, rfl, rfl, trivial⟩ ?_
        obtain ⟨v_3, hy14, hm5⟩ := bind_some hm5
        obtain ⟨hc15, hy14⟩ := ix_some hy14
        refine WO_index tbok rfl rfl rfl rfl rfl rfl rfl rfl (OwnE.addr h_z0) (by simpa using hc15) ?_
        refine WO_loadO (E := (I1 .u64)) tbok (fun _ => rfl) 0 rfl rfl rfl rfl (fun _ h => h) h_z0 rfl hy14 rfl ?_
        refine WO_pure tbok 1 [(0, .slice a_z0 z0.length c_z0), (2, .slice none 0 0), (3, .int .i64 s_1), (25, .bool (v_2 == v_3))] rfl ⟨rfl, rfl, rfl, rfl, trivial⟩ ?_
        refine WO_tail ?_
        refine WO_end ?_
        refine WK_cond (b := v_2 == v_3) rfl (fun hb16 => ?_) (fun hb16 => ?_)
        · have hm5 := ifT hb16 hm5
          refine WK_seq ?_
          refine WK_region ?_
          refine WO_pure tbok 2 [(0, .slice a_z0 z0.length c_z0), (2, .slice none 0 0), (3, .int .i64 s_1), (26, .slice a_z0 z0.length c_z0), (27, .int .i64 s_1)] rfl ⟨rfl, rfl, rfl, rfl, rfl, trivial⟩ ?_
          obtain ⟨k_4, hk17, hm5⟩ := bind_some hm5
          have hk17 := natOf_some hk17
          obtain ⟨k_5, hk18, hm5⟩ := bind_some hm5
          have hk18 := natOf_some hk18
          obtain ⟨hc19, hm5⟩ := chk_some hm5
          have hc19 : 0 < k_5 ∧ (z0.length : Int) ≤ (z0.length : Int) := hc19
          have hz23 : OwnE 95 1 (I1 .u64) (.slice a_z0 z0.length c_z0) z0 L_z0 := h_z0
          refine WO_sliceW tbok (some (s_1 : Int)) none none k_4 k_5 rfl rfl rfl rfl rfl rfl rfl rfl rfl rfl rfl hz23 (by simp only [Option.getD_some] <;> omega) (by have := OwnE.qlen hz23; simp only [Option.getD_none] <;> omega) (fun q hq => by cases hq) (by omega) (by omega) (fun hh => by cases hh) (fun a20 c21 h22 => ?_)
          refine WO_pure tbok 1 [(0, .slice a_z0 z0.length c_z0), (2, .slice none 0 0), (3, .int .i64 s_1), (4, .slice a20 k_5 c21)] rfl ⟨rfl, rfl, rfl, rfl, trivial⟩ ?_
          refine WO_end ?_
          refine WK_seq ?_
          refine WK_seq ?_
          refine WK_region ?_
          refine WO_pure tbok 1 [(0, .slice a_z0 z0.length c_z0), (2, .slice none 0 0), (3, .int .i64 s_1), (4, .slice a20 k_5 c21), (5, .int .i64 1)] rfl ⟨rfl, rfl, rfl, rfl, rfl, trivial⟩ ?_
          refine WO_end ?_
          obtain ⟨x26, hx27, hm5⟩ := bind_some hm5
          refine WK_join (β := (List Int × Int) × (List Ent)) (fun p => p.1 = x26 ∧ OwnE 95 1 (I1 .u64) (.slice a_z0 z0.length c_z0) p.1.1 p.2) (fun p => [(0, .slice a_z0 z0.length c_z0), (2, .slice none 0 0), (3, .int .i64 p.1.2)]) (fun p => St w0 m mc [p.2, LR]) ?_ (fun hk28 => ?_)
          · rintro ⟨⟨l_9, s_10⟩, L25⟩ ⟨hq34, hL25⟩
            subst hq34
            refine WK.sub (e' := [(0, .slice a_z0 z0.length c_z0), (2, .slice none 0 0), (3, .int .i64 s_10)]) ⟨rfl, rfl, rfl, trivial⟩ (WK.cls (C' := St w0 m mc [L25, LR]) (fun _ h => h) ?_)
            refine WK_seq ?_
            refine WK_region ?_
            refine WO_pure tbok 2 [(0, .slice a_z0 z0.length c_z0), (2, .slice none 0 0), (3, .int .i64 s_10), (54, .slice a_z0 z0.length c_z0), (55, .int .i64 s_10)] rfl ⟨rfl, rfl, rfl, rfl, rfl, trivial⟩ ?_
            obtain ⟨k_11, hk35, hm5⟩ := bind_some hm5
            have hk35 := natOf_some hk35
            obtain ⟨k_12, hk36, hm5⟩ := bind_some hm5
            have hk36 := natOf_some hk36
            obtain ⟨hc37, hm5⟩ := chk_some hm5
            have hc37 : 0 < k_12 ∧ (l_9.length : Int) ≤ (l_9.length : Int) := hc37
            have hz41 : OwnE 95 1 (I1 .u64) (.slice a_z0 z0.length c_z0) l_9 L25 := hL25
            refine WO_sliceW tbok (some (s_10 : Int)) none none k_11 k_12 rfl rfl rfl rfl rfl rfl rfl rfl rfl rfl rfl hz41 (by simp only [Option.getD_some] <;> omega) (by have := OwnE.qlen hz41; simp only [Option.getD_none] <;> omega) (fun q hq => by cases hq) (by omega) (by omega) (fun hh => by cases hh) (fun a38 c39 h40 => ?_)
            obtain ⟨hc42, hm5⟩ := chk_some hm5
            have hc42 : k_11 + k_12 ≤ l_9.length := hc42
            refine WO_clear (E := (I1 .u64)) tbok (fun _ => rfl) 0 k_11 (0 : Int) rfl rfl rfl rfl rfl rfl rfl rfl rfl rfl rfl rfl rfl hL25 h40 rfl hc42 (fun L43 hL43 => ?_)
            refine WO.cls (C' := St w0 m mc [L43, LR]) (fun _ h => h) ?_
            refine WO_end ?_
            refine WK_seq ?_
            refine WK_region ?_
            refine WO_pure tbok 2 [(0, .slice a_z0 z0.length c_z0), (2, .slice none 0 0), (3, .int .i64 s_10), (57, .slice a_z0 z0.length c_z0), (58, .int .i64 s_10)] rfl ⟨rfl, rfl, rfl, rfl, rfl, trivial⟩ ?_
            obtain ⟨k_13, hk44, hm5⟩ := bind_some hm5
            have hk44 := natOf_some hk44
            obtain ⟨k_14, hk45, hm5⟩ := bind_some hm5
            have hk45 := natOf_some hk45
            obtain ⟨hc46, hm5⟩ := chk_some hm5
            have hc46 : 0 < k_14 ∧ (s_10 : Int) ≤ ((clr l_9 k_11 k_12 (0 : Int)).length : Int) := hc46
            have hz50 : OwnE 95 1 (I1 .u64) (.slice a_z0 z0.length c_z0) (clr l_9 k_11 k_12 (0 : Int)) L43 := hL43
            refine WO_sliceW tbok none (some (s_10 : Int)) none k_13 k_14 rfl rfl rfl rfl rfl rfl rfl rfl rfl rfl rfl hz50 (by simp only [Option.getD_none] <;> omega) (by simp only [Option.getD_some] <;> omega) (fun q hq => by cases hq) (by omega) (by omega) (fun hh => by cases hh) (fun a47 c48 h49 => ?_)
            refine WO_pure tbok 1 [(0, .slice a_z0 z0.length c_z0), (2, .slice a47 k_14 c48), (3, .int .i64 s_10)] rfl ⟨rfl, rfl, rfl, trivial⟩ ?_
            refine WO_end ?_
            cases hm5
            have hq := hd9 _ rfl
            subst hq
            have hm : some _ = some _ := hm
            cases hm
            exact WK_retS (RLc_tmp rfl RLc_nil) (fun _ h => ⟨⟨L43, a47, c48⟩, rfl, hL43, h⟩)
          · refine WK_block ?_
            refine WK_loop (S := List Int × Int × Int) (G := List Ent) (fun s => slices_Compact_suint64_s2 k_4 k_5 s.1 s.2.1 s.2.2) (fun s g => [(0, .slice a_z0 z0.length c_z0), (2, .slice none 0 0), (3, .int .i64 s.2.1), (4, .slice a20 k_5 c21), (5, .int .i64 s.2.2)]) (fun s g => St w0 m mc [g, LR]) (fun s g => OwnE 95 1 (I1 .u64) (.slice a_z0 z0.length c_z0) s.1 g) FUEL (z0, s_1, 1) L_z0 x26 hx27 h_z0 ⟨rfl, rfl, rfl, rfl, rfl, trivial⟩ (fun _ h => h) ?_
            rintro ⟨l_6, s_7, s_8⟩ L24 o30 fl31 hm29 hL24 hn32 hd33
            have hm29 : slices_Compact_suint64_s2 k_4 k_5 l_6 s_7 s_8 = some o30 := hm29
            unfold slices_Compact_suint64_s2 at hm29
            refine WK.sub (e' := [(0, .slice a_z0 z0.length c_z0), (2, .slice none 0 0), (3, .int .i64 s_7), (4, .slice a20 k_5 c21), (5, .int .i64 s_8)]) ⟨rfl, rfl, rfl, rfl, rfl, trivial⟩ (WK.cls (C' := St w0 m mc [L24, LR]) (fun _ h => h) ?_)
            refine WK_seq ?_
            refine WK_seq ?_
            refine WK_region ?_
            refine WO_pure tbok 4 [(0, .slice a_z0 z0.length c_z0), (2, .slice none 0 0), (3, .int .i64 s_7), (4, .slice a20 k_5 c21), (5, .int .i64 s_8), (32, .bool (decide (s_8 < ((k_5 : Nat) : Int))))] rfl ⟨rfl, rfl, rfl, rfl, rfl, rfl, trivial⟩ ?_
            refine WO_end ?_
            refine WK_cond (b := decide (s_8 < ((k_5 : Nat) : Int))) rfl (fun hb51 => ?_) (fun hb51 => ?_)
            · have hm29 := ifT hb51 hm29
              refine WK_skip ?_
              refine WK_seq ?_
              refine WK_block ?_
              refine WK_seq ?_
              refine WK_draw 10 [0, 1, 2, 3, 4, 5, 6, 7, 8, 9] follows_ok (by kernel_rfl) St_closed ?_
              refine WO_pure tbok 2 [(0, .slice a_z0 z0.length c_z0), (2, .slice none 0 0), (3, .int .i64 s_7), (4, .slice a20 k_5 c21), (5, .int .i64 s_8), (35, .slice a20 k_5 c21), (36, .int .i64 s_8)] rfl ⟨rfl, rfl, rfl, rfl, rfl, rfl, rfl, trivial⟩ ?_
              obtain ⟨hc52, hm29⟩ := chk_some hm29
              have hc52 : 0 ≤ s_8 ∧ s_8 < ((k_5 : Nat) : Int) ∧ k_4 + k_5 ≤ l_6.length := hc52
              refine WO_index tbok rfl rfl rfl rfl rfl rfl rfl rfl (Vw.addr h22 hL24) ⟨hc52.1, hc52.2.1⟩ ?_
              refine WO_loadW (E := (I1 .u64)) tbok (fun _ => rfl) 0 rfl rfl rfl rfl (fun _ h => h) hL24 h22 rfl (getD_some (0 : Int) (show k_4 + s_8.toNat < l_6.length by have := hc52; omega)) rfl ?_
              refine WO_pure tbok 3 [(0, .slice a_z0 z0.length c_z0), (2, .slice none 0 0), (3, .int .i64 s_7), (4, .slice a20 k_5 c21), (5, .int .i64 s_8), (38, .int .u64 (l_6.getD (k_4 + s_8.toNat) (0 : Int))), (39, .slice a20 k_5 c21), (41, .int .i64 (w64 (s_8 - 1)))] rfl ⟨rfl, rfl, rfl, rfl, rfl, rfl, rfl, rfl, trivial⟩ ?_
              obtain ⟨hc53, hm29⟩ := chk_some hm29
              have hc53 : 0 ≤ (w64 (s_8 - 1)) ∧ (w64 (s_8 - 1)) < ((k_5 : Nat) : Int) ∧ k_4 + k_5 ≤ l_6.length := hc53
              refine WO_index tbok rfl rfl rfl rfl rfl rfl rfl rfl (Vw.addr h22 hL24) ⟨hc53.1, hc53.2.1⟩ ?_
              refine WO_loadW (E := (I1 .u64)) tbok (fun _ => rfl) 0 rfl rfl rfl rfl (fun _ h => h) hL24 h22 rfl (getD_some (0 : Int) (show k_4 + (w64 (s_8 - 1)).toNat < l_6.length by have := hc53; omega)) rfl ?_
              refine WO_pure tbok 1 [(0, .slice a_z0 z0.length c_z0), (2, .slice none 0 0), (3, .int .i64 s_7), (4, .slice a20 k_5 c21), (5, .int .i64 s_8), (44, .bool ((l_6.getD (k_4 + s_8.toNat) (0 : Int)) != (l_6.getD (k_4 + (w64 (s_8 - 1)).toNat) (0 : Int))))] rfl ⟨rfl, rfl, rfl, rfl, rfl, rfl, trivial⟩ ?_
              refine WO_tail ?_
              refine WO_end ?_
              obtain ⟨⟨l_15, s_16⟩, hx55, hm29⟩ := bind_some hm29
              refine WK_join (β := List Ent) (fun p => OwnE 95 1 (I1 .u64) (.slice a_z0 z0.length c_z0) l_15 p) (fun p => [(0, .slice a_z0 z0.length c_z0), (2, .slice none 0 0), (3, .int .i64 s_16), (4, .slice a20 k_5 c21), (5, .int .i64 s_8)]) (fun p => St w0 m mc [p, LR]) ?_ (fun hk56 => ?_)
              · rintro L54 hL54
                refine WK.sub (e' := [(0, .slice a_z0 z0.length c_z0), (2, .slice none 0 0), (3, .int .i64 s_16), (4, .slice a20 k_5 c21), (5, .int .i64 s_8)]) ⟨rfl, rfl, rfl, rfl, rfl, trivial⟩ (WK.cls (C' := St w0 m mc [L54, LR]) (fun _ h => h) ?_)
                refine WK_blk ?_
                refine WK_region ?_
                refine WO_pure tbok 3 [(0, .slice a_z0 z0.length c_z0), (2, .slice none 0 0), (3, .int .i64 s_16), (4, .slice a20 k_5 c21), (5, .int .i64 (w64 (s_8 + 1)))] rfl ⟨rfl, rfl, rfl, rfl, rfl, trivial⟩ ?_
                refine WO_end ?_
                cases hm29
                refine WK.sub ?_ (WK.cls (fun _ h => h) (hn32 _ L54 rfl hL54))
                exact ⟨rfl, rfl, rfl, rfl, rfl, trivial⟩
              · refine WK_cond (b := (l_6.getD (k_4 + s_8.toNat) (0 : Int)) != (l_6.getD (k_4 + (w64 (s_8 - 1)).toNat) (0 : Int))) rfl (fun hb57 => ?_) (fun hb57 => ?_)
                · have hx55 := ifT hb57 hx55
                  refine WK_seq ?_
                  refine WK_region ?_
                  refine WO_pure tbok 4 [(0, .slice a_z0 z0.length c_z0), (2, .slice none 0 0), (3, .int .i64 s_7), (4, .slice a20 k_5 c21), (5, .int .i64 s_8), (45, .slice a_z0 z0.length c_z0), (46, .int .i64 s_7), (47, .slice a20 k_5 c21), (48, .int .i64 s_8)] rfl ⟨rfl, rfl, rfl, rfl, rfl, rfl, rfl, rfl, rfl, trivial⟩ ?_
                  obtain ⟨hc58, hx55⟩ := chk_some hx55
                  have hc58 : 0 ≤ s_8 ∧ s_8 < ((k_5 : Nat) : Int) ∧ k_4 + k_5 ≤ l_6.length := hc58
                  refine WO_index tbok rfl rfl rfl rfl rfl rfl rfl rfl (Vw.addr h22 hL24) ⟨hc58.1, hc58.2.1⟩ ?_
                  refine WO_loadW (E := (I1 .u64)) tbok (fun _ => rfl) 0 rfl rfl rfl rfl (fun _ h => h) hL24 h22 rfl (getD_some (0 : Int) (show k_4 + s_8.toNat < l_6.length by have := hc58; omega)) rfl ?_
                  obtain ⟨hc59, hx55⟩ := chk_some hx55
                  refine WO_index tbok rfl rfl rfl rfl rfl rfl rfl rfl (OwnE.addr hL24) (by simpa using hc59) ?_
                  refine WO_storeO (E := (I1 .u64)) tbok (fun _ => rfl) 0 (l_6.getD (k_4 + s_8.toNat) (0 : Int)) rfl rfl rfl rfl rfl hL24 rfl (by simpa using idx_lt hc59) rfl rfl rfl rfl (fun L60 hL60 => ?_)
                  refine WO.cls (C' := St w0 m mc [L60, LR]) (fun _ h => h) ?_
                  refine WO_end ?_
                  refine WK_region ?_
                  refine WO_pure tbok 3 [(0, .slice a_z0 z0.length c_z0), (2, .slice none 0 0), (3, .int .i64 (w64 (s_7 + 1))), (4, .slice a20 k_5 c21), (5, .int .i64 s_8)] rfl ⟨rfl, rfl, rfl, rfl, rfl, trivial⟩ ?_
                  refine WO_end ?_
                  cases hx55
                  refine WK.sub ?_ (WK.cls (fun _ h => h) (hk56 L60 hL60))
                  exact ⟨rfl, rfl, rfl, rfl, rfl, trivial⟩
                · have hx55 := ifF hb57 hx55
                  refine WK_skip ?_
                  cases hx55
                  refine WK.sub ?_ (WK.cls (fun _ h => h) (hk56 L24 hL24))
                  exact ⟨rfl, rfl, rfl, rfl, rfl, trivial⟩
            · have hm29 := ifF hb51 hm29
              refine WK_exit rfl ?_
              cases hm29
              refine WK.sub ?_ (WK.cls (fun _ h => h) (hk28 ((l_6, s_7), L24) ⟨(hd33 _ rfl), hL24⟩))
              exact ⟨rfl, rfl, rfl, trivial⟩
        · have hm5 := ifF hb16 hm5
          refine WK_skip ?_
          refine WK_blk ?_
          refine WK_region ?_
          refine WO_pure tbok 3 [(0, .slice a_z0 z0.length c_z0), (2, .slice none 0 0), (3, .int .i64 (w64 (s_1 + 1)))] rfl ⟨rfl, rfl, rfl, trivial⟩ ?_
          refine WO_end ?_
          cases hm5
          refine WK.sub ?_ (WK.cls (fun _ h => h) (hn8 _ () rfl trivial))
          exact ⟨rfl, rfl, rfl, trivial⟩
      · have hm5 := ifF hb11 hm5
        refine WK_exit rfl ?_
        cases hm5
        refine WK.sub ?_ (WK.cls (fun _ h => h) (hk4 ((), ()) (hd9 _ rfl)))
        exact ⟨rfl, rfl, trivial⟩
def slices_AppendSeq_suint64_Q (r : List Int) : Value → List Ent → Prop := fun v L => ∃ (a0 : Option Addr) (q0 c0 : Nat), v = .slice a0 q0 c0 ∧ OwnE 95 1 (I1 .u64) (.slice a0 q0 c0) r L
theorem slices_AppendSeq_suint64_walk {m : Mu} {p1_0 : List Int} {a_p1_0 : Option Addr} {q_p1_0 c_p1_0 : Nat} {b_p1 : Nat} (hb_p1 : m b_p1 = some (Ent.obj ⟨b_p1, 55, [.slice a_p1_0 q_p1_0 c_p1_0]⟩)) (h_p1_0 : SlR (FE (I1 .u64)) 1 m (.slice a_p1_0 q_p1_0 c_p1_0) p1_0) {r : List Int} (hm : slices_AppendSeq_suint64 p1_0 = some r) :
    Go.E.Spec Try.prog 81 [.slice none 0 0, .func (.func 77) #[] #[.pointer (some ⟨b_p1, 0, none⟩)]] m (fun v _ L => slices_AppendSeq_suint64_Q r v L) := by
  refine Spec_enterM Try.func81 rfl rfl rfl (fun w0 => ?_)
  refine WK.sub (e' := [(0, .slice none 0 0), (1, .func (.func 77) #[] #[.pointer (some ⟨b_p1, 0, none⟩)])]) ⟨rfl, rfl, trivial⟩ ?_
  obtain rfl := SlR.qlen h_p1_0
  refine WK.sub (e' := [(0, .slice none 0 0), (1, .func (.func 77) #[] #[.pointer (some ⟨b_p1, 0, none⟩)])]) ⟨rfl, rfl, trivial⟩ ?_
  unfold slices_AppendSeq_suint64 at hm
  refine WK_seq ?_
  refine WK_region ?_
  refine WO_box [.slice none 0 0] rfl rfl trivial rfl rfl rfl (fun b1 => ?_)
  refine WO.cls (C' := St w0 m m [[⟨b1, 55, [.slice none 0 0]⟩]]) (fun _ h => h) ?_
  refine WO_pure tbok 1 [(1, .func (.func 77) #[] #[.pointer (some ⟨b_p1, 0, none⟩)]), (2, .pointer (some ⟨b1, 0, none⟩)), (4, .slice none 0 0)] rfl ⟨rfl, rfl, rfl, trivial⟩ ?_
  refine WO_end ?_
  refine WK_seq ?_
  refine WK_seq ?_
  refine WK_region ?_
  refine WO_pure tbok 1 [(2, .pointer (some ⟨b1, 0, none⟩)), (4, .slice none 0 0), (6, .func (.func 77) #[] #[.pointer (some ⟨b_p1, 0, none⟩)])] rfl ⟨rfl, rfl, rfl, trivial⟩ ?_
  refine WO_end ?_
  refine WK_block ?_
  obtain ⟨hc2, hm⟩ := chk_some hm
  refine WK_pad ?_
  obtain ⟨l_2, hx11, hm⟩ := bind_some hm
  refine WK.sub (e' := [(2, .pointer (some ⟨b1, 0, none⟩)), (4, .slice none 0 0), (6, .func (.func 77) #[] #[.pointer (some ⟨b_p1, 0, none⟩)])]) ⟨rfl, rfl, rfl, trivial⟩ (WK.cls (C' := St w0 m m [[⟨b1, 55, [.slice none 0 0]⟩], []]) (fun _ h => h) ?_)
  refine WK_range (S := List Int) (G := Option Addr × Nat × Nat × List Ent) (gf := 77) (lb := [.pointer (some ⟨b_p1, 0, none⟩)]) p1_0 (EvI .u64) (fun (s : List Int) (x : Int) => slices_AppendSeq_suint64_s1 s x) (fun s g => [[⟨b1, 55, [.slice g.1 ((s).length) g.2.2.1]⟩], g.2.2.2]) (fun s g => OwnE 95 1 (I1 .u64) (.slice g.1 g.2.1 g.2.2.1) s g.2.2.2) (fun v => [(2, .pointer (some ⟨b1, 0, none⟩)), (5, v)]) rfl callable_77 rfl (vals_iter hb_p1 h_p1_0 hc2) ([] : List Int) (none, 0, 0, []) l_2 hx11 (OwnE.nil (T := 95) (k := 1) (E := (I1 .u64)) none) ?_ ?_
  · rintro D12 m13 ⟨a8, q9, c10, L7⟩ hD14 hDn15 hle16 hmD17 hL7
    have hqq : q9 = l_2.length := OwnE.qlen hL7
    subst hqq
    refine WKx.sub (e' := [(2, .pointer (some ⟨b1, 0, none⟩)), (4, .slice none 0 0)]) ⟨rfl, rfl, trivial⟩ (WKx.cls (C' := St w0 m m13 [[⟨b1, 55, [.slice a8 ((l_2).length) c10]⟩], L7]) (fun _ h => h) ?_)
    refine WKx_blk ?_
    refine WKx_seq ?_
    refine WKx_region (by kernel_rfl) ?_
    refine WO_loadB tbok 0 rfl rfl rfl rfl (fun _ h => h) rfl rfl ?_
    refine WO_pure tbok 1 [(4, .slice a8 ((l_2).length) c10)] rfl ⟨rfl, trivial⟩ ?_
    refine WO_end ?_
    refine WK_back ?_
    cases hm
    exact WKx_ret (ret_outM (L := L7) hD14 hmD17 (none_le (Le.refl _) hDn15) (fun _ => (RLc_tmp rfl RLc_nil)) (seg_sub 1 rfl) (fun _ => ⟨a8, _, c10, rfl, hL7⟩))
  · rintro lp18 x_3 _ l_1 o ⟨a4, q5, c6, L3⟩ hmem22 rfl hs24 hL3
    have hs24 : slices_AppendSeq_suint64_s1 l_1 x_3 = some o := hs24
    unfold slices_AppendSeq_suint64_s1 at hs24
    have hqq : q5 = l_1.length := OwnE.qlen hL3
    subst hqq
    refine ⟨fun mb25 Ra hle26 hk27 => ?_, fun mb25 Rb hle26 hk27 => ?_⟩
    · refine WKx.sub (e' := [(2, .pointer (some ⟨b1, 0, none⟩)), (4, .slice none 0 0), (6, .func (.func 77) #[] #[.pointer (some ⟨b_p1, 0, none⟩)]), (7, .int .u64 x_3)]) ⟨rfl, rfl, rfl, rfl, trivial⟩ (WKx.cls (C' := St w0 m mb25 [[⟨b1, 55, [.slice a4 ((l_1).length) c6]⟩], L3]) (fun _ h => h) ?_)
      refine WKx_region (by kernel_rfl) ?_
      refine WO_pure tbok 1 [(2, .pointer (some ⟨b1, 0, none⟩)), (4, .slice none 0 0), (5, .int .u64 x_3)] rfl ⟨rfl, rfl, rfl, trivial⟩ ?_
      refine WO_end ?_
      refine WK_back ?_
      refine WKx.sub ?_ hk27
      exact ⟨rfl, rfl, trivial⟩
    · refine WKx.sub (e' := [(2, .pointer (some ⟨b1, 0, none⟩)), (5, .int .u64 x_3)]) ⟨rfl, rfl, trivial⟩ (WKx.cls (C' := St w0 m mb25 [[⟨b1, 55, [.slice a4 ((l_1).length) c6]⟩], L3]) (fun _ h => h) ?_)
      refine WKx_block ?_
      refine WKx_region (by kernel_rfl) ?_
      refine WO_loadB tbok 0 rfl rfl rfl rfl (fun _ h => h) rfl rfl ?_
      refine WO_pure tbok 1 [(2, .pointer (some ⟨b1, 0, none⟩)), (8, .slice a4 ((l_1).length) c6), (9, .int .u64 x_3)] rfl ⟨rfl, rfl, rfl, trivial⟩ ?_
      refine WO_bslice (E := (I1 .u64)) tbok (fun _ => rfl) (by decide) [.int .u64 x_3] ([x_3] : List Int) rfl rfl trivial rfl rfl rfl rfl rfl rfl rfl rfl rfl rfl rfl rfl (fun b28 hb28 => ?_)
      refine WO.cls (C' := St w0 m mb25 [[⟨b1, 55, [.slice a4 ((l_1).length) c6]⟩], L3, [⟨b28, 95, ([x_3] : List Int).flatMap (I1 .u64)⟩]]) (fun _ h => h) ?_
      obtain ⟨hc29, hs24⟩ := chk_some hs24
      refine WO_append (E := (I1 .u64)) tbok (fun _ => rfl) 1 ([x_3] : List Int) (fun _ _ => rfl) rfl rfl rfl rfl rfl rfl rfl rfl rfl rfl rfl rfl hL3 rfl (src_seg (j := 2) rfl) (ap_ok (by decide) hc29) (ap_max hc29) (fun a30 c31 L32 hL32 => ?_)
      refine WO.cls (C' := St w0 m mb25 [[⟨b1, 55, [.slice a4 ((l_1).length) c6]⟩], L32, [⟨b28, 95, ([x_3] : List Int).flatMap (I1 .u64)⟩]]) (fun _ h => h) ?_
      refine WO_storeB tbok 0 [.slice a30 ((l_1 ++ ([x_3] : List Int)).length) c31] rfl rfl rfl rfl rfl rfl rfl ?_
      refine WO.cls (C' := St w0 m mb25 [[⟨b1, 55, [.slice a30 ((l_1 ++ ([x_3] : List Int)).length) c31]⟩], L32, [⟨b28, 95, ([x_3] : List Int).flatMap (I1 .u64)⟩]]) (fun _ h => h) ?_
      refine WO_end ?_
      refine WK_back ?_
      refine WKx_blk ?_
      cases hs24
      refine WKx.sub ?_ (WKx.cls (fun _ h => St.take 2 h) (hk27 (a30, (l_1 ++ ([x_3] : List Int)).length, c31, L32) hL32))
      exact trivial
def slices_Collect_uint64_Q (r : List Int) : Value → List Ent → Prop := fun v L => ∃ (a0 : Option Addr) (q0 c0 : Nat), v = .slice a0 q0 c0 ∧ OwnE 95 1 (I1 .u64) (.slice a0 q0 c0) r L
theorem slices_Collect_uint64_walk {m : Mu} {p0_0 : List Int} {a_p0_0 : Option Addr} {q_p0_0 c_p0_0 : Nat} {b_p0 : Nat} (hb_p0 : m b_p0 = some (Ent.obj ⟨b_p0, 55, [.slice a_p0_0 q_p0_0 c_p0_0]⟩)) (h_p0_0 : SlR (FE (I1 .u64)) 1 m (.slice a_p0_0 q_p0_0 c_p0_0) p0_0) {r : List Int} (hm : slices_Collect_uint64 p0_0 = some r) :
    Go.E.Spec Try.prog 75 [.func (.func 77) #[] #[.pointer (some ⟨b_p0, 0, none⟩)]] m (fun v _ L => slices_Collect_uint64_Q r v L) := by
  refine Spec_enter Try.func75 rfl rfl rfl (fun w0 => ?_)
  refine WK.sub (e' := [(0, .func (.func 77) #[] #[.pointer (some ⟨b_p0, 0, none⟩)])]) ⟨rfl, trivial⟩ ?_
  obtain rfl := SlR.qlen h_p0_0
  refine WK.sub (e' := [(0, .func (.func 77) #[] #[.pointer (some ⟨b_p0, 0, none⟩)])]) ⟨rfl, trivial⟩ ?_
  unfold slices_Collect_uint64 at hm
  refine WK_seq ?_
  refine WK_region ?_
  refine WO_pure tbok 1 [(0, .func (.func 77) #[] #[.pointer (some ⟨b_p0, 0, none⟩)]), (2, .slice none 0 0)] rfl ⟨rfl, rfl, trivial⟩ ?_
  refine WO_end ?_
  refine WK_seq ?_
  refine WK_region ?_
  refine WO_pure tbok 1 [(2, .slice none 0 0), (3, .func (.func 77) #[] #[.pointer (some ⟨b_p0, 0, none⟩)])] rfl ⟨rfl, rfl, trivial⟩ ?_
  obtain ⟨y_1, hc1, hm⟩ := bind_some hm
  refine WO_call1 (slices_AppendSeq_suint64_Q y_1) rfl rfl trivial rfl rfl rfl rfl ⟨81, #[], #[], rfl, callable_81, fun w hw => ⟨_, hw.sat, slices_AppendSeq_suint64_walk hb_p0 h_p0_0 hc1⟩⟩ (fun v5 L4 hq => ?_)
  obtain ⟨a2, qa2, c3, rfl, hL4⟩ := hq
  obtain rfl := OwnE.qlen hL4
  refine WO.cls (C' := St w0 m m [L4]) (fun _ h => h) ?_
  refine WO_pure tbok 1 [(2, .slice a2 ((y_1).length) c3)] rfl ⟨rfl, trivial⟩ ?_
  refine WO_end ?_
  cases hm
  exact WK_ret (ret_out (L := L4) (RLc_tmp rfl RLc_nil) (seg_sub 0 rfl) ⟨a2, _, c3, rfl, hL4⟩)
def slices_Sorted_uint64_Q (r : List Int) : Value → List Ent → Prop := fun v L => ∃ (a0 : Option Addr) (q0 c0 : Nat), v = .slice a0 q0 c0 ∧ OwnE 95 1 (I1 .u64) (.slice a0 q0 c0) r L
theorem slices_Sorted_uint64_walk {m : Mu} {p0_0 : List Int} {a_p0_0 : Option Addr} {q_p0_0 c_p0_0 : Nat} {b_p0 : Nat} (hb_p0 : m b_p0 = some (Ent.obj ⟨b_p0, 55, [.slice a_p0_0 q_p0_0 c_p0_0]⟩)) (h_p0_0 : SlR (FE (I1 .u64)) 1 m (.slice a_p0_0 q_p0_0 c_p0_0) p0_0) {r : List Int} (hm : slices_Sorted_uint64 p0_0 = some r) :
    Go.E.Spec Try.prog 58 [.func (.func 77) #[] #[.pointer (some ⟨b_p0, 0, none⟩)]] m (fun v _ L => slices_Sorted_uint64_Q r v L) := by
  refine Spec_enter Try.func58 rfl rfl rfl (fun w0 => ?_)
  refine WK.sub (e' := [(0, .func (.func 77) #[] #[.pointer (some ⟨b_p0, 0, none⟩)])]) ⟨rfl, trivial⟩ ?_
  obtain rfl := SlR.qlen h_p0_0
  refine WK.sub (e' := [(0, .func (.func 77) #[] #[.pointer (some ⟨b_p0, 0, none⟩)])]) ⟨rfl, trivial⟩ ?_
  unfold slices_Sorted_uint64 at hm
  refine WK_seq ?_
  refine WK_region ?_
  refine WO_pure tbok 1 [(0, .func (.func 77) #[] #[.pointer (some ⟨b_p0, 0, none⟩)]), (2, .slice none 0 0)] rfl ⟨rfl, rfl, trivial⟩ ?_
  refine WO_end ?_
  refine WK_seq ?_
  refine WK_region ?_
  refine WO_pure tbok 1 [(2, .slice none 0 0), (4, .func (.func 77) #[] #[.pointer (some ⟨b_p0, 0, none⟩)])] rfl ⟨rfl, rfl, trivial⟩ ?_
  obtain ⟨y_1, hc1, hm⟩ := bind_some hm
  refine WO_call1 (slices_Collect_uint64_Q y_1) rfl rfl trivial rfl rfl rfl rfl ⟨75, #[], #[], rfl, callable_75, fun w hw => ⟨_, hw.sat, slices_Collect_uint64_walk hb_p0 h_p0_0 hc1⟩⟩ (fun v5 L4 hq => ?_)
  obtain ⟨a2, qa2, c3, rfl, hL4⟩ := hq
  obtain rfl := OwnE.qlen hL4
  refine WO.cls (C' := St w0 m m [L4]) (fun _ h => h) ?_
  refine WO_pure tbok 1 [(2, .slice none 0 0), (3, .slice a2 ((y_1).length) c3)] rfl ⟨rfl, rfl, trivial⟩ ?_
  refine WO_end ?_
  refine WK_seq ?_
  refine WK_region ?_
  refine WO_pure tbok 1 [(2, .slice none 0 0), (3, .slice a2 ((y_1).length) c3), (6, .slice a2 ((y_1).length) c3)] rfl ⟨rfl, rfl, rfl, trivial⟩ ?_
  refine WO.cls (C' := St w0 m m [L4, ([] : List (List Ent)).flatten]) (fun _ h => h.perm (perm_rest [L4] [])) ?_
  obtain ⟨y_2, hc6, hm⟩ := bind_some hm
  refine WO_callS (G := List Ent) (fun g => .tuple #[]) (fun g => OwnE 95 1 (I1 .u64) (.slice a2 ((y_1).length) c3) y_2 g) (fun g => St w0 m m [g, ([] : List (List Ent)).flatten]) rfl rfl rfl rfl rfl rfl callable_76 (slices_Sort_suint64_walk (Le.refl _) hL4 hc6) ?_
  rintro L7 hL7
  refine WO.cls (C' := St w0 m m [L7]) (fun _ h => h.perm (perm_rest [L7] []).symm) ?_
  refine WO.cls (C' := St w0 m m [L7]) (fun _ h => h) ?_
  refine WO_end ?_
  refine WK_seq ?_
  refine WK_region ?_
  refine WO_pure tbok 2 [(2, .slice a2 ((y_1).length) c3)] rfl ⟨rfl, trivial⟩ ?_
  refine WO_end ?_
  cases hm
  exact WK_ret (ret_out (L := L7) (RLc_tmp rfl RLc_nil) (seg_sub 0 rfl) ⟨a2, _, c3, rfl, hL7⟩)
theorem fiducialtop_bDistinct_walk {m : Mu} {p0 : List Int} {a_p0 : Option Addr} {q_p0 c_p0 : Nat} (h_p0 : SlR (FE (I1 .u64)) 1 m (.slice a_p0 q_p0 c_p0) p0) {r : Bool} (hm : fiducialtop_bDistinct p0 = some r) :
    Go.E.Spec Try.prog 24 [.slice a_p0 q_p0 c_p0] m (fun v _ _ => v = .bool r) := by
  refine Spec_enter Try.func24 rfl rfl rfl (fun w0 => ?_)
  refine WK.sub (e' := [(0, .slice a_p0 q_p0 c_p0)]) ⟨rfl, trivial⟩ ?_
  obtain rfl := SlR.qlen h_p0
  refine WK.sub (e' := [(0, .slice a_p0 p0.length c_p0)]) ⟨rfl, trivial⟩ ?_
  unfold fiducialtop_bDistinct at hm
  refine WK_seq ?_
  refine WK_region ?_
  refine WO_pure tbok 1 [(0, .slice a_p0 p0.length c_p0), (2, .bool false)] rfl ⟨rfl, rfl, trivial⟩ ?_
  refine WO_end ?_
  refine WK_seq ?_
  refine WK_region ?_
  refine WO_pure tbok 1 [(0, .slice a_p0 p0.length c_p0), (2, .bool false), (4, .slice a_p0 p0.length c_p0)] rfl ⟨rfl, rfl, rfl, trivial⟩ ?_
  refine WO_inline rfl rfl rfl rfl rfl rfl callable_59 Try.func59 rfl rfl rfl ?_
  refine WK.sub (e' := [(0, .slice a_p0 p0.length c_p0)]) ⟨rfl, trivial⟩ ?_
  refine WK_seq ?_
  refine WK_region ?_
  refine WO_box [.slice a_p0 p0.length c_p0] rfl rfl trivial rfl rfl rfl (fun b1 => ?_)
  refine WO.cls (C' := St w0 m m [[⟨b1, 55, [.slice a_p0 p0.length c_p0]⟩]]) (fun _ h => h) ?_
  refine WO_pure tbok 1 [(1, .pointer (some ⟨b1, 0, none⟩)), (2, .nilFunc)] rfl ⟨rfl, rfl, trivial⟩ ?_
  refine WO_end ?_
  refine WK_seq ?_
  refine WK_region ?_
  refine WO_pure tbok 2 [(2, .func (.func 77) #[] #[.pointer (some ⟨b1, 0, none⟩)])] rfl ⟨rfl, trivial⟩ ?_
  refine WO_end ?_
  refine WK_retI (RLc_tmp rfl RLc_nil) (fun _ _ => trivial) ?_
  obtain ⟨y_1, hc2, hm⟩ := bind_some hm
  refine WO_call1 (slices_Sorted_uint64_Q y_1) rfl rfl trivial rfl rfl rfl rfl ⟨58, #[], #[], rfl, callable_58, fun w hw => ⟨_, hw.satV, slices_Sorted_uint64_walk (hw.memV (i := 0) rfl (List.mem_singleton.2 rfl)) (h_p0.mono (mono_FE _) hw.leV) hc2⟩⟩ (fun v6 L5 hq => ?_)
  obtain ⟨a3, qa3, c4, rfl, hL5⟩ := hq
  obtain rfl := OwnE.qlen hL5
  refine WO.cls (C' := St w0 m m [[⟨b1, 55, [.slice a_p0 p0.length c_p0]⟩], L5]) (fun _ h => h) ?_
  refine WO_pure tbok 1 [(0, .slice a_p0 p0.length c_p0), (2, .bool false), (3, .slice a3 ((y_1).length) c4)] rfl ⟨rfl, rfl, rfl, trivial⟩ ?_
  refine WO_end ?_
  refine WK_seq ?_
  refine WK_region ?_
  refine WO_pure tbok 1 [(0, .slice a_p0 p0.length c_p0), (2, .bool false), (7, .slice a3 ((y_1).length) c4)] rfl ⟨rfl, rfl, rfl, trivial⟩ ?_
  refine WO.cls (C' := St w0 m m [L5, [⟨b1, 55, [.slice a_p0 p0.length c_p0]⟩]]) (fun _ h => h.perm (List.Perm.flatten (List.Perm.swap _ _ _))) ?_
  obtain ⟨⟨y_2, y_3⟩, hc7, hm⟩ := bind_some hm
  refine WO_callS (G := List Ent × Option Addr × Nat) (fun g => .slice g.2.1 y_2 g.2.2) (fun g => OwnE 95 1 (I1 .u64) (.slice a3 ((y_1).length) c4) y_3 g.1) (fun g => St w0 m m [g.1, [⟨b1, 55, [.slice a_p0 p0.length c_p0]⟩]]) rfl rfl rfl rfl rfl rfl callable_60 (slices_Compact_suint64_walk (Le.refl _) hL5 hc7) ?_
  rintro ⟨L8, a9, c10⟩ hL8
  refine WO.cls (C' := St w0 m m [[⟨b1, 55, [.slice a_p0 p0.length c_p0]⟩], L8]) (fun _ h => h.perm (List.Perm.flatten ((List.Perm.swap _ _ _)).symm)) ?_
  refine WO.cls (C' := St w0 m m [[⟨b1, 55, [.slice a_p0 p0.length c_p0]⟩], L8]) (fun _ h => h) ?_
  refine WO_pure tbok 5 [(2, .bool (((y_2 : Nat) : Int) == (p0.length : Int)))] rfl ⟨rfl, trivial⟩ ?_
  refine WO_end ?_
  cases hm
  exact WK_ret (ret_out (L := []) (RLc_tmp rfl RLc_nil) (List.nil_sublist _) rfl)
theorem slices_IndexFunc_sint_walk {m : Mu} {p0 : List Int} {p1 : Int → Option Bool} {a_p0 : Option Addr} {q_p0 c_p0 : Nat} {p1v : Value} (h_p0 : SlR (FE (I1 .i64)) 1 m (.slice a_p0 q_p0 c_p0) p0) (hp1 : ∀ (m1 : Mu), Le m m1 → ∀ (u1 : Int), ∀ (r : Bool), p1 u1 = some r → SpecV Try.prog p1v [.int .i64 u1] m1 (fun v _ _ => v = .bool r)) {r : Int} (hm : slices_IndexFunc_sint p0 p1 = some r) :
    Go.E.Spec Try.prog 70 [.slice a_p0 q_p0 c_p0, p1v] m (fun v _ _ => v = .int .i64 r) := by
  refine Spec_enter Try.func70 rfl rfl rfl (fun w0 => ?_)
  refine WK.sub (e' := [(0, .slice a_p0 q_p0 c_p0), (1, p1v)]) ⟨rfl, rfl, trivial⟩ ?_
  obtain rfl := SlR.qlen h_p0
  refine WK.sub (e' := [(0, .slice a_p0 p0.length c_p0), (1, p1v)]) ⟨rfl, rfl, trivial⟩ ?_
  unfold slices_IndexFunc_sint at hm
  refine WK_seq ?_
  refine WK_region ?_
  refine WO_pure tbok 1 [(0, .slice a_p0 p0.length c_p0), (1, p1v), (4, .int .i64 0)] rfl ⟨rfl, rfl, rfl, trivial⟩ ?_
  refine WO_end ?_
  refine WK_seq ?_
  refine WK_seq ?_
  refine WK_region ?_
  refine WO_pure tbok 3 [(0, .slice a_p0 p0.length c_p0), (1, p1v), (4, .int .i64 0), (7, .int .i64 (p0.length : Int)), (8, .int .i64 0)] rfl ⟨rfl, rfl, rfl, rfl, rfl, trivial⟩ ?_
  refine WO_end ?_
  obtain ⟨x1, hx2, hm⟩ := bind_some hm
  refine WK_join (β := Unit × Unit) (fun p => Sum.inr p.1 = x1) (fun p => [(4, .int .i64 0)]) (fun p => St w0 m m []) ?_ (fun hk3 => ?_)
  · rintro ⟨⟨⟩, ⟨⟩⟩ hq9
    subst hq9
    refine WK.sub (e' := [(4, .int .i64 0)]) ⟨rfl, trivial⟩ (WK.cls (C' := St w0 m m []) (fun _ h => h) ?_)
    refine WK_seq ?_
    refine WK_region ?_
    refine WO_pure tbok 1 [(4, .int .i64 (-1))] rfl ⟨rfl, trivial⟩ ?_
    refine WO_end ?_
    cases hm
    exact WK_ret (ret_out (L := []) (RLc_tmp rfl RLc_nil) (List.nil_sublist _) rfl)
  · refine WK_block ?_
    refine WK_loop (S := Int) (G := Unit) (fun s => slices_IndexFunc_sint_s1 p0 p1 s) (fun s g => [(0, .slice a_p0 p0.length c_p0), (1, p1v), (4, .int .i64 0), (7, .int .i64 (p0.length : Int)), (8, .int .i64 s)]) (fun s g => St w0 m m []) (fun s g => True) FUEL 0 () x1 hx2 trivial ⟨rfl, rfl, rfl, rfl, rfl, trivial⟩ (fun _ h => h) ?_
    rintro s_1 ⟨⟩ o5 fl6 hm4 - hn7 hd8
    have hm4 : slices_IndexFunc_sint_s1 p0 p1 s_1 = some o5 := hm4
    unfold slices_IndexFunc_sint_s1 at hm4
    refine WK.sub (e' := [(0, .slice a_p0 p0.length c_p0), (1, p1v), (4, .int .i64 0), (7, .int .i64 (p0.length : Int)), (8, .int .i64 s_1)]) ⟨rfl, rfl, rfl, rfl, rfl, trivial⟩ (WK.cls (C' := St w0 m m []) (fun _ h => h) ?_)
    refine WK_seq ?_
    refine WK_region ?_
    refine WO_pure tbok 1 [(0, .slice a_p0 p0.length c_p0), (1, p1v), (4, .int .i64 0), (7, .int .i64 (p0.length : Int)), (8, .int .i64 s_1), (9, .bool (decide (s_1 < (p0.length : Int))))] rfl ⟨rfl, rfl, rfl, rfl, rfl, rfl, trivial⟩ ?_
    refine WO_end ?_
    refine WK_seq ?_
    refine WK_cond (b := decide (s_1 < (p0.length : Int))) rfl (fun hb10 => ?_) (fun hb10 => ?_)
    · have hm4 := ifT hb10 hm4
      refine WK_skip ?_
      refine WK_seq ?_
      refine WK_block ?_
      refine WK_seq ?_
      refine WK_region ?_
      refine WO_pure tbok 2 [(0, .slice a_p0 p0.length c_p0), (1, p1v), (4, .int .i64 0), (5, .int .i64 s_1), (7, .int .i64 (p0.length : Int)), (8, .int .i64 s_1)] rfl ⟨rfl, rfl, rfl, rfl, rfl, rfl, trivial⟩ ?_
      refine WO_end ?_
      refine WK_seq ?_
      refine WK_region ?_
      refine WO_pure tbok 3 [(0, .slice a_p0 p0.length c_p0), (1, p1v), (4, .int .i64 0), (5, .int .i64 s_1), (7, .int .i64 (p0.length : Int)), (8, .int .i64 s_1), (11, p1v), (12, .slice a_p0 p0.length c_p0), (13, .int .i64 s_1)] rfl ⟨rfl, rfl, rfl, rfl, rfl, rfl, rfl, rfl, rfl, trivial⟩ ?_
      obtain ⟨v_2, hy11, hm4⟩ := bind_some hm4
      obtain ⟨hc12, hy11⟩ := ix_some hy11
      refine WO_index tbok rfl rfl rfl rfl rfl rfl rfl rfl (SlR.addr h_p0) hc12 ?_
      refine WO_loadE tbok rfl rfl rfl rfl (fun _ h => St.sat h) h_p0 hy11 rfl ?_
      obtain ⟨y_3, hc13, hm4⟩ := bind_some hm4
      obtain ⟨f0, first0, cap0, hf0, hcal0, hsp0⟩ := hp1 _ (Le.refl _) v_2 _ hc13
      refine WO_call0 (.bool y_3) rfl rfl trivial rfl rfl rfl rfl St_closed ⟨f0, first0, cap0, hf0, hcal0, fun w hw => ⟨m, hw.sat, hsp0⟩⟩ ?_
      refine WO_end ?_
      refine WK_cond (b := y_3) rfl (fun hb14 => ?_) (fun hb14 => ?_)
      · have hm4 := ifT hb14 hm4
        refine WK_seq ?_
        refine WK_region ?_
        refine WO_pure tbok 2 [(0, .slice a_p0 p0.length c_p0), (1, p1v), (4, .int .i64 s_1), (7, .int .i64 (p0.length : Int)), (8, .int .i64 s_1)] rfl ⟨rfl, rfl, rfl, rfl, rfl, trivial⟩ ?_
        refine WO_end ?_
        cases hm4
        have hq := hd8 _ rfl
        subst hq
        have hm : some _ = some _ := hm
        cases hm
        exact WK_ret (ret_out (L := []) (RLc_tmp rfl RLc_nil) (List.nil_sublist _) rfl)
      · have hm4 := ifF hb14 hm4
        refine WK_skip ?_
        refine WK_blk ?_
        refine WK_region ?_
        refine WO_pure tbok 2 [(0, .slice a_p0 p0.length c_p0), (1, p1v), (4, .int .i64 0), (7, .int .i64 (p0.length : Int)), (8, .int .i64 (w64 (s_1 + 1)))] rfl ⟨rfl, rfl, rfl, rfl, rfl, trivial⟩ ?_
        refine WO_end ?_
        cases hm4
        refine WK.sub ?_ (WK.cls (fun _ h => h) (hn7 _ () rfl trivial))
        exact ⟨rfl, rfl, rfl, rfl, rfl, trivial⟩
    · have hm4 := ifF hb10 hm4
      refine WK_exit rfl ?_
      cases hm4
      refine WK.sub ?_ (WK.cls (fun _ h => h) (hk3 ((), ()) (hd8 _ rfl)))
      exact ⟨rfl, trivial⟩
theorem slices_ContainsFunc_sint_walk {m : Mu} {p0 : List Int} {p1 : Int → Option Bool} {a_p0 : Option Addr} {q_p0 c_p0 : Nat} {p1v : Value} (h_p0 : SlR (FE (I1 .i64)) 1 m (.slice a_p0 q_p0 c_p0) p0) (hp1 : ∀ (m1 : Mu), Le m m1 → ∀ (u1 : Int), ∀ (r : Bool), p1 u1 = some r → SpecV Try.prog p1v [.int .i64 u1] m1 (fun v _ _ => v = .bool r)) {r : Bool} (hm : slices_ContainsFunc_sint p0 p1 = some r) :
    Go.E.Spec Try.prog 40 [.slice a_p0 q_p0 c_p0, p1v] m (fun v _ _ => v = .bool r) := by
  refine Spec_enter Try.func40 rfl rfl rfl (fun w0 => ?_)
  refine WK.sub (e' := [(0, .slice a_p0 q_p0 c_p0), (1, p1v)]) ⟨rfl, rfl, trivial⟩ ?_
  obtain rfl := SlR.qlen h_p0
  refine WK.sub (e' := [(0, .slice a_p0 p0.length c_p0), (1, p1v)]) ⟨rfl, rfl, trivial⟩ ?_
  unfold slices_ContainsFunc_sint at hm
  refine WK_seq ?_
  refine WK_region ?_
  refine WO_pure tbok 1 [(0, .slice a_p0 p0.length c_p0), (1, p1v), (4, .bool false)] rfl ⟨rfl, rfl, rfl, trivial⟩ ?_
  refine WO_end ?_
  refine WK_seq ?_
  refine WK_region ?_
  refine WO_pure tbok 2 [(4, .bool false), (5, .slice a_p0 p0.length c_p0), (6, p1v)] rfl ⟨rfl, rfl, rfl, trivial⟩ ?_
  obtain ⟨y_1, hc1, hm⟩ := bind_some hm
  refine WO_call0 (.int .i64 y_1) rfl rfl trivial rfl rfl rfl rfl St_closed ⟨70, #[], #[], rfl, callable_70, fun w hw => ⟨_, hw.sat, slices_IndexFunc_sint_walk h_p0 hp1 hc1⟩⟩ ?_
  refine WO_pure tbok 2 [(4, .bool (decide (0 ≤ y_1)))] rfl ⟨rfl, trivial⟩ ?_
  refine WO_end ?_
  cases hm
  exact WK_ret (ret_out (L := []) (RLc_tmp rfl RLc_nil) (List.nil_sublist _) rfl)
theorem raster_Check_c1_walk {m : Mu} {p0 : Int} {q0_0 : Int} {q0_1 : Int} {q0_2 : Int} {q0_3 : List Int} {a_q0_3 : Option Addr} {q_q0_3 c_q0_3 : Nat} {b_q0 : Nat} (hb_q0 : m b_q0 = some (Ent.obj ⟨b_q0, 24, [.int .i64 q0_0, .int .i64 q0_1, .int .i64 q0_2, .slice a_q0_3 q_q0_3 c_q0_3]⟩)) (h_q0_3 : SlR (FE (I1 .i64)) 1 m (.slice a_q0_3 q_q0_3 c_q0_3) q0_3) {r : Bool} (hm : raster_Check_c1 p0 q0_0 q0_1 q0_2 q0_3 = some r) :
    Go.E.Spec Try.prog 71 [.int .i64 p0, .pointer (some ⟨b_q0, 0, none⟩)] m (fun v _ _ => v = .bool r) := by
  refine Spec_enter Try.func71 rfl rfl rfl (fun w0 => ?_)
  refine WK.sub (e' := [(0, .int .i64 p0), (1, .pointer (some ⟨b_q0, 0, none⟩))]) ⟨rfl, rfl, trivial⟩ ?_
  obtain rfl := SlR.qlen h_q0_3
  refine WK.sub (e' := [(0, .int .i64 p0), (1, .pointer (some ⟨b_q0, 0, none⟩))]) ⟨rfl, rfl, trivial⟩ ?_
  unfold raster_Check_c1 at hm
  refine WK_seq ?_
  refine WK_region ?_
  refine WO_pure tbok 1 [(0, .int .i64 p0), (1, .pointer (some ⟨b_q0, 0, none⟩)), (3, .bool false)] rfl ⟨rfl, rfl, rfl, trivial⟩ ?_
  refine WO_end ?_
  refine WK_seq ?_
  refine WK_region ?_
  refine WO_pure tbok 3 [(0, .int .i64 p0), (1, .pointer (some ⟨b_q0, 0, none⟩)), (3, .bool false), (6, .bool (decide (p0 < 0)))] rfl ⟨rfl, rfl, rfl, rfl, trivial⟩ ?_
  refine WO_split (d := 6) (b := decide (p0 < 0)) rfl (fun hb1 => ?_) (fun hb1 => ?_)
  · have hm := ifT hb1 hm
    refine WO_pure tbok 6 [(3, .bool true)] rfl ⟨rfl, trivial⟩ ?_
    refine WO_end ?_
    cases hm
    exact WK_ret (ret_out (L := []) (RLc_tmp rfl RLc_nil) (List.nil_sublist _) rfl)
  · have hm := ifF hb1 hm
    refine WO_pure tbok 2 [(3, .bool false), (6, .bool false), (7, .int .i64 p0), (8, .pointer (some ⟨b_q0, 2, none⟩))] rfl ⟨rfl, rfl, rfl, rfl, trivial⟩ ?_
    refine WO_loadM tbok rfl rfl rfl rfl (fun _ h => St.sat h) hb_q0 rfl ?_
    refine WO_pure tbok 3 [(3, .bool (decide (q0_2 < p0)))] rfl ⟨rfl, trivial⟩ ?_
    refine WO_end ?_
    cases hm
    exact WK_ret (ret_out (L := []) (RLc_tmp rfl RLc_nil) (List.nil_sublist _) rfl)
theorem raster_Check_walk {m : Mu} {p0_0 : Int} {p0_1 : Int} {p0_2 : Int} {p0_3 : List Int} {a_p0_3 : Option Addr} {q_p0_3 c_p0_3 : Nat} (h_p0_3 : SlR (FE (I1 .i64)) 1 m (.slice a_p0_3 q_p0_3 c_p0_3) p0_3) {r : Int} (hm : raster_Check p0_0 p0_1 p0_2 p0_3 = some r) :
    Go.E.Spec Try.prog 43 [.agg #[.int .i64 p0_0, .int .i64 p0_1, .int .i64 p0_2, .slice a_p0_3 q_p0_3 c_p0_3]] m (fun v _ _ => v = .int .i64 r) := by
  refine Spec_enter Try.func43 rfl rfl rfl (fun w0 => ?_)
  refine WK.sub (e' := [(0, .agg #[.int .i64 p0_0, .int .i64 p0_1, .int .i64 p0_2, .slice a_p0_3 q_p0_3 c_p0_3])]) ⟨rfl, trivial⟩ ?_
  obtain rfl := SlR.qlen h_p0_3
  refine WK.sub (e' := [(0, .agg #[.int .i64 p0_0, .int .i64 p0_1, .int .i64 p0_2, .slice a_p0_3 p0_3.length c_p0_3])]) ⟨rfl, trivial⟩ ?_
  unfold raster_Check at hm
  refine WK_seq ?_
  refine WK_region ?_
  refine WO_box [.int .i64 p0_0, .int .i64 p0_1, .int .i64 p0_2, .slice a_p0_3 p0_3.length c_p0_3] rfl rfl trivial rfl rfl rfl (fun b1 => ?_)
  refine WO.cls (C' := St w0 m m [[⟨b1, 24, [.int .i64 p0_0, .int .i64 p0_1, .int .i64 p0_2, .slice a_p0_3 p0_3.length c_p0_3]⟩]]) (fun _ h => h) ?_
  refine WO_pure tbok 1 [(1, .pointer (some ⟨b1, 0, none⟩)), (2, .int .i64 0)] rfl ⟨rfl, rfl, trivial⟩ ?_
  refine WO_end ?_
  refine WK_seq ?_
  refine WK_seq ?_
  obtain ⟨s_1, hx2, hm⟩ := bind_some hm
  refine WK_meet [(1, .pointer (some ⟨b1, 0, none⟩)), (2, .int .i64 0), (34, .bool s_1)] (St w0 m m [[⟨b1, 24, [.int .i64 p0_0, .int .i64 p0_1, .int .i64 p0_2, .slice a_p0_3 p0_3.length c_p0_3]⟩]]) ?_ (fun hk3 => ?_)
  · refine WK_cond (b := s_1) rfl (fun hb4 => ?_) (fun hb4 => ?_)
    · have hm := ifT hb4 hm
      refine WK_seq ?_
      refine WK_region ?_
      refine WO_pure tbok 1 [(1, .pointer (some ⟨b1, 0, none⟩)), (2, .int .i64 1)] rfl ⟨rfl, rfl, trivial⟩ ?_
      refine WO_end ?_
      cases hm
      exact WK_ret (ret_out (L := []) (RLc_tmp rfl RLc_nil) (List.nil_sublist _) rfl)
    · have hm := ifF hb4 hm
      refine WK_skip ?_
      refine WK_seq ?_
      refine WK_seq ?_
      refine WK_region ?_
      refine WO_pure tbok 1 [(1, .pointer (some ⟨b1, 0, none⟩)), (2, .int .i64 0), (35, .pointer (some ⟨b1, 3, none⟩))] rfl ⟨rfl, rfl, rfl, trivial⟩ ?_
      refine WO_loadB tbok 0 rfl rfl rfl rfl (fun _ h => h) rfl rfl ?_
      refine WO_pure tbok 1 [(2, .int .i64 0), (36, .slice a_p0_3 p0_3.length c_p0_3), (37, .func (.func 71) #[] #[.pointer (some ⟨b1, 0, none⟩)])] rfl ⟨rfl, rfl, rfl, trivial⟩ ?_
      obtain ⟨y_3, hc5, hm⟩ := bind_some hm
      refine WO_call0 (.bool y_3) rfl rfl trivial rfl rfl rfl rfl St_closed ⟨40, #[], #[], rfl, callable_40, fun w hw => ⟨_, hw.satV, slices_ContainsFunc_sint_walk (h_p0_3.mono (mono_FE _) hw.leV) (fun m1 hm1 z_2 _ h => specV_cap callable_71 (raster_Check_c1_walk (hm1 _ _ (hw.memV (i := 0) rfl (List.mem_singleton.2 rfl))) ((h_p0_3.mono (mono_FE _) hw.leV).mono (mono_FE _) hm1) h)) hc5⟩⟩ ?_
      refine WO_end ?_
      refine WK_cond (b := y_3) rfl (fun hb6 => ?_) (fun hb6 => ?_)
      · have hm := ifT hb6 hm
        refine WK_seq ?_
        refine WK_region ?_
        refine WO_pure tbok 1 [(2, .int .i64 1)] rfl ⟨rfl, trivial⟩ ?_
        refine WO_end ?_
        cases hm
        exact WK_ret (ret_out (L := []) (RLc_tmp rfl RLc_nil) (List.nil_sublist _) rfl)
      · have hm := ifF hb6 hm
        refine WK_skip ?_
        refine WK_seq ?_
        refine WK_region ?_
        refine WO_pure tbok 1 [(2, .int .i64 0)] rfl ⟨rfl, trivial⟩ ?_
        refine WO_end ?_
        cases hm
        exact WK_ret (ret_out (L := []) (RLc_tmp rfl RLc_nil) (List.nil_sublist _) rfl)
  · refine WK_region ?_
    refine WO_pure tbok 1 [(1, .pointer (some ⟨b1, 0, none⟩)), (2, .int .i64 0), (3, .pointer (some ⟨b1, 0, none⟩))] rfl ⟨rfl, rfl, rfl, trivial⟩ ?_
    refine WO_loadB tbok 0 rfl rfl rfl rfl (fun _ h => h) rfl rfl ?_
    refine WO_pure tbok 1 [(1, .pointer (some ⟨b1, 0, none⟩)), (2, .int .i64 0), (4, .int .i64 p0_0), (5, .pointer (some ⟨b1, 1, none⟩))] rfl ⟨rfl, rfl, rfl, rfl, trivial⟩ ?_
    refine WO_loadB tbok 0 rfl rfl rfl rfl (fun _ h => h) rfl rfl ?_
    refine WO_pure tbok 1 [(1, .pointer (some ⟨b1, 0, none⟩)), (2, .int .i64 0), (4, .int .i64 p0_0), (6, .int .i64 p0_1), (7, .pointer (some ⟨b1, 2, none⟩))] rfl ⟨rfl, rfl, rfl, rfl, rfl, trivial⟩ ?_
    refine WO_loadB tbok 0 rfl rfl rfl rfl (fun _ h => h) rfl rfl ?_
    refine WO_pure tbok 3 [(1, .pointer (some ⟨b1, 0, none⟩)), (2, .int .i64 0), (11, .bool (decide ((if p0_2 < (if p0_1 < p0_0 then p0_1 else p0_0) then p0_2 else (if p0_1 < p0_0 then p0_1 else p0_0)) < 1)))] rfl ⟨rfl, rfl, rfl, trivial⟩ ?_
    refine WO_split (d := 11) (b := decide ((if p0_2 < (if p0_1 < p0_0 then p0_1 else p0_0) then p0_2 else (if p0_1 < p0_0 then p0_1 else p0_0)) < 1)) rfl (fun hb7 => ?_) (fun hb7 => ?_)
    · have hx2 := ifT hb7 hx2
      refine WO_pure tbok 23 [(1, .pointer (some ⟨b1, 0, none⟩)), (2, .int .i64 0), (34, .bool true)] rfl ⟨rfl, rfl, rfl, trivial⟩ ?_
      refine WO_end ?_
      cases hx2
      refine WK.sub ?_ (WK.cls (fun _ h => h) hk3)
      exact ⟨rfl, rfl, rfl, trivial⟩
    · have hx2 := ifF hb7 hx2
      refine WO_pure tbok 1 [(1, .pointer (some ⟨b1, 0, none⟩)), (2, .int .i64 0), (11, .bool false), (12, .pointer (some ⟨b1, 0, none⟩))] rfl ⟨rfl, rfl, rfl, rfl, trivial⟩ ?_
      refine WO_loadB tbok 0 rfl rfl rfl rfl (fun _ h => h) rfl rfl ?_
      refine WO_pure tbok 1 [(1, .pointer (some ⟨b1, 0, none⟩)), (2, .int .i64 0), (11, .bool false), (13, .int .i64 p0_0), (14, .pointer (some ⟨b1, 1, none⟩))] rfl ⟨rfl, rfl, rfl, rfl, rfl, trivial⟩ ?_
      refine WO_loadB tbok 0 rfl rfl rfl rfl (fun _ h => h) rfl rfl ?_
      refine WO_pure tbok 4 [(1, .pointer (some ⟨b1, 0, none⟩)), (2, .int .i64 0), (19, .bool (decide (64 < (if p0_0 < p0_1 then p0_1 else p0_0))))] rfl ⟨rfl, rfl, rfl, trivial⟩ ?_
      refine WO_split (d := 19) (b := decide (64 < (if p0_0 < p0_1 then p0_1 else p0_0))) rfl (fun hb8 => ?_) (fun hb8 => ?_)
      · have hx2 := ifT hb8 hx2
        refine WO_pure tbok 15 [(1, .pointer (some ⟨b1, 0, none⟩)), (2, .int .i64 0), (34, .bool true)] rfl ⟨rfl, rfl, rfl, trivial⟩ ?_
        refine WO_end ?_
        cases hx2
        refine WK.sub ?_ (WK.cls (fun _ h => h) hk3)
        exact ⟨rfl, rfl, rfl, trivial⟩
      · have hx2 := ifF hb8 hx2
        refine WO_pure tbok 1 [(1, .pointer (some ⟨b1, 0, none⟩)), (2, .int .i64 0), (19, .bool false), (20, .pointer (some ⟨b1, 2, none⟩))] rfl ⟨rfl, rfl, rfl, rfl, trivial⟩ ?_
        refine WO_loadB tbok 0 rfl rfl rfl rfl (fun _ h => h) rfl rfl ?_
        refine WO_pure tbok 3 [(1, .pointer (some ⟨b1, 0, none⟩)), (2, .int .i64 0), (24, .bool (decide (65535 < p0_2)))] rfl ⟨rfl, rfl, rfl, trivial⟩ ?_
        refine WO_split (d := 24) (b := decide (65535 < p0_2)) rfl (fun hb9 => ?_) (fun hb9 => ?_)
        · have hx2 := ifT hb9 hx2
          refine WO_pure tbok 10 [(1, .pointer (some ⟨b1, 0, none⟩)), (2, .int .i64 0), (34, .bool true)] rfl ⟨rfl, rfl, rfl, trivial⟩ ?_
          refine WO_end ?_
          cases hx2
          refine WK.sub ?_ (WK.cls (fun _ h => h) hk3)
          exact ⟨rfl, rfl, rfl, trivial⟩
        · have hx2 := ifF hb9 hx2
          refine WO_pure tbok 1 [(1, .pointer (some ⟨b1, 0, none⟩)), (2, .int .i64 0), (24, .bool false), (25, .pointer (some ⟨b1, 3, none⟩))] rfl ⟨rfl, rfl, rfl, rfl, trivial⟩ ?_
          refine WO_loadB tbok 0 rfl rfl rfl rfl (fun _ h => h) rfl rfl ?_
          refine WO_pure tbok 2 [(1, .pointer (some ⟨b1, 0, none⟩)), (2, .int .i64 0), (24, .bool false), (27, .int .i64 (p0_3.length : Int)), (28, .pointer (some ⟨b1, 0, none⟩))] rfl ⟨rfl, rfl, rfl, rfl, rfl, trivial⟩ ?_
          refine WO_loadB tbok 0 rfl rfl rfl rfl (fun _ h => h) rfl rfl ?_
          refine WO_pure tbok 1 [(1, .pointer (some ⟨b1, 0, none⟩)), (2, .int .i64 0), (24, .bool false), (27, .int .i64 (p0_3.length : Int)), (29, .int .i64 p0_0), (30, .pointer (some ⟨b1, 1, none⟩))] rfl ⟨rfl, rfl, rfl, rfl, rfl, rfl, trivial⟩ ?_
          refine WO_loadB tbok 0 rfl rfl rfl rfl (fun _ h => h) rfl rfl ?_
          refine WO_pure tbok 3 [(1, .pointer (some ⟨b1, 0, none⟩)), (2, .int .i64 0), (34, .bool ((p0_3.length : Int) != (w64 (p0_0 * p0_1))))] rfl ⟨rfl, rfl, rfl, trivial⟩ ?_
          refine WO_end ?_
          cases hx2
          refine WK.sub ?_ (WK.cls (fun _ h => h) hk3)
          exact ⟨rfl, rfl, rfl, trivial⟩
theorem raster_at_walk {m : Mu} {p0_0 : Int} {p0_1 : Int} {p0_2 : Int} {p0_3 : List Int} {p1 : Int} {p2 : Int} {a_p0_3 : Option Addr} {q_p0_3 c_p0_3 : Nat} (h_p0_3 : SlR (FE (I1 .i64)) 1 m (.slice a_p0_3 q_p0_3 c_p0_3) p0_3) {r : Int} (hm : raster_at p0_0 p0_1 p0_2 p0_3 p1 p2 = some r) :
    Go.E.Spec Try.prog 46 [.agg #[.int .i64 p0_0, .int .i64 p0_1, .int .i64 p0_2, .slice a_p0_3 q_p0_3 c_p0_3], .int .i64 p1, .int .i64 p2] m (fun v _ _ => v = .int .i64 r) := by
  refine Spec_enter Try.func46 rfl rfl rfl (fun w0 => ?_)
  refine WK.sub (e' := [(0, .agg #[.int .i64 p0_0, .int .i64 p0_1, .int .i64 p0_2, .slice a_p0_3 q_p0_3 c_p0_3]), (1, .int .i64 p1), (2, .int .i64 p2)]) ⟨rfl, rfl, rfl, trivial⟩ ?_
  obtain rfl := SlR.qlen h_p0_3
  refine WK.sub (e' := [(0, .agg #[.int .i64 p0_0, .int .i64 p0_1, .int .i64 p0_2, .slice a_p0_3 p0_3.length c_p0_3]), (1, .int .i64 p1), (2, .int .i64 p2)]) ⟨rfl, rfl, rfl, trivial⟩ ?_
  unfold raster_at at hm
  refine WK_seq ?_
  refine WK_region ?_
  refine WO_box [.int .i64 p0_0, .int .i64 p0_1, .int .i64 p0_2, .slice a_p0_3 p0_3.length c_p0_3] rfl rfl trivial rfl rfl rfl (fun b1 => ?_)
  refine WO.cls (C' := St w0 m m [[⟨b1, 24, [.int .i64 p0_0, .int .i64 p0_1, .int .i64 p0_2, .slice a_p0_3 p0_3.length c_p0_3]⟩]]) (fun _ h => h) ?_
  refine WO_pure tbok 1 [(1, .int .i64 p1), (2, .int .i64 p2), (3, .pointer (some ⟨b1, 0, none⟩)), (6, .int .i64 0)] rfl ⟨rfl, rfl, rfl, rfl, trivial⟩ ?_
  refine WO_end ?_
  refine WK_seq ?_
  refine WK_region ?_
  refine WO_pure tbok 1 [(1, .int .i64 p1), (2, .int .i64 p2), (3, .pointer (some ⟨b1, 0, none⟩)), (6, .int .i64 0), (7, .pointer (some ⟨b1, 3, none⟩))] rfl ⟨rfl, rfl, rfl, rfl, rfl, trivial⟩ ?_
  refine WO_loadB tbok 0 rfl rfl rfl rfl (fun _ h => h) rfl rfl ?_
  refine WO_pure tbok 2 [(1, .int .i64 p1), (6, .int .i64 0), (8, .slice a_p0_3 p0_3.length c_p0_3), (9, .int .i64 p2), (10, .pointer (some ⟨b1, 0, none⟩))] rfl ⟨rfl, rfl, rfl, rfl, rfl, trivial⟩ ?_
  refine WO_loadB tbok 0 rfl rfl rfl rfl (fun _ h => h) rfl rfl ?_
  refine WO_pure tbok 3 [(6, .int .i64 0), (8, .slice a_p0_3 p0_3.length c_p0_3), (14, .int .i64 (w64 ((w64 (p2 * p0_0)) + p1)))] rfl ⟨rfl, rfl, rfl, trivial⟩ ?_
  obtain ⟨v_1, hy2, hm⟩ := bind_some hm
  obtain ⟨hc3, hy2⟩ := ix_some hy2
  refine WO_index tbok rfl rfl rfl rfl rfl rfl rfl rfl (SlR.addr h_p0_3) hc3 ?_
  refine WO_loadE tbok rfl rfl rfl rfl (fun _ h => St.sat h) h_p0_3 hy2 rfl ?_
  refine WO_pure tbok 1 [(6, .int .i64 v_1)] rfl ⟨rfl, trivial⟩ ?_
  refine WO_end ?_
  cases hm
  exact WK_ret (ret_out (L := []) (RLc_tmp rfl RLc_nil) (List.nil_sublist _) rfl)
def raster_Integral_Q (r : List (List Int) × Int) : Value → Mu → List Ent → Prop := fun v m L => ∃ (a0 : Option Addr) (q0 c0 : Nat), v = .tuple #[.slice a0 q0 c0, .int .i64 r.2] ∧ SlR (RowE (FE (I1 .i64)) 1) 1 m (.slice a0 q0 c0) r.1
theorem raster_Integral_walk {m : Mu} {p0_0 : Int} {p0_1 : Int} {p0_2 : Int} {p0_3 : List Int} {a_p0_3 : Option Addr} {q_p0_3 c_p0_3 : Nat} (h_p0_3 : SlR (FE (I1 .i64)) 1 m (.slice a_p0_3 q_p0_3 c_p0_3) p0_3) {r : List (List Int) × Int} (hm : raster_Integral p0_0 p0_1 p0_2 p0_3 = some r) :
    Go.E.Spec Try.prog 79 [.agg #[.int .i64 p0_0, .int .i64 p0_1, .int .i64 p0_2, .slice a_p0_3 q_p0_3 c_p0_3]] m (raster_Integral_Q r) := by
  refine Spec_enter Try.func79 rfl rfl rfl (fun w0 => ?_)
  refine WK.sub (e' := [(0, .agg #[.int .i64 p0_0, .int .i64 p0_1, .int .i64 p0_2, .slice a_p0_3 q_p0_3 c_p0_3])]) ⟨rfl, trivial⟩ ?_
  obtain rfl := SlR.qlen h_p0_3
  refine WK.sub (e' := [(0, .agg #[.int .i64 p0_0, .int .i64 p0_1, .int .i64 p0_2, .slice a_p0_3 p0_3.length c_p0_3])]) ⟨rfl, trivial⟩ ?_
  unfold raster_Integral at hm
  refine WK_seq ?_
  refine WK_region ?_
  refine WO_box [.int .i64 p0_0, .int .i64 p0_1, .int .i64 p0_2, .slice a_p0_3 p0_3.length c_p0_3] rfl rfl trivial rfl rfl rfl (fun b1 => ?_)
  refine WO.cls (C' := St w0 m m [[⟨b1, 24, [.int .i64 p0_0, .int .i64 p0_1, .int .i64 p0_2, .slice a_p0_3 p0_3.length c_p0_3]⟩]]) (fun _ h => h) ?_
  refine WO_pure tbok 2 [(1, .pointer (some ⟨b1, 0, none⟩)), (2, .slice none 0 0), (3, .int .i64 0)] rfl ⟨rfl, rfl, rfl, trivial⟩ ?_
  refine WO_end ?_
  refine WK_seq ?_
  refine WK_seq ?_
  refine WK_region ?_
  refine WO_loadB tbok 0 rfl rfl rfl rfl (fun _ h => h) rfl rfl ?_
  obtain ⟨y_1, hc2, hm⟩ := bind_some hm
  refine WO_call0 (.int .i64 y_1) rfl rfl trivial rfl rfl rfl rfl St_closed ⟨43, #[], #[], rfl, callable_43, fun w hw => ⟨_, hw.sat, raster_Check_walk h_p0_3 hc2⟩⟩ ?_
  refine WO_pure tbok 1 [(1, .pointer (some ⟨b1, 0, none⟩)), (2, .slice none 0 0), (3, .int .i64 0), (4, .int .i64 y_1)] rfl ⟨rfl, rfl, rfl, rfl, trivial⟩ ?_
  refine WO_end ?_
  refine WK_seq ?_
  refine WK_region ?_
  refine WO_pure tbok 2 [(1, .pointer (some ⟨b1, 0, none⟩)), (2, .slice none 0 0), (3, .int .i64 0), (4, .int .i64 y_1), (11, .bool (y_1 != 0))] rfl ⟨rfl, rfl, rfl, rfl, rfl, trivial⟩ ?_
  refine WO_end ?_
  refine WK_cond (b := y_1 != 0) rfl (fun hb3 => ?_) (fun hb3 => ?_)
  · have hm := ifT hb3 hm
    refine WK_seq ?_
    refine WK_region ?_
    refine WO_pure tbok 3 [(1, .pointer (some ⟨b1, 0, none⟩)), (2, .slice none 0 0), (3, .int .i64 y_1)] rfl ⟨rfl, rfl, rfl, trivial⟩ ?_
    refine WO_end ?_
    cases hm
    exact WK_ret (ret_out (L := []) (RLc_tmp rfl (RLc_tmp rfl RLc_nil)) (List.nil_sublist _) ⟨none, 0, 0, rfl, SlR_nil⟩)
  · have hm := ifF hb3 hm
    refine WK_skip ?_
    refine WK_seq ?_
    refine WK_region ?_
    refine WO_pure tbok 1 [(1, .pointer (some ⟨b1, 0, none⟩)), (2, .slice none 0 0), (3, .int .i64 0), (13, .pointer (some ⟨b1, 1, none⟩))] rfl ⟨rfl, rfl, rfl, rfl, trivial⟩ ?_
    refine WO_loadB tbok 0 rfl rfl rfl rfl (fun _ h => h) rfl rfl ?_
    refine WO_pure tbok 1 [(1, .pointer (some ⟨b1, 0, none⟩)), (2, .slice none 0 0), (3, .int .i64 0), (15, .int .i64 (w64 (p0_1 + 1)))] rfl ⟨rfl, rfl, rfl, rfl, trivial⟩ ?_
    obtain ⟨hc4, hm⟩ := chk_some hm
    refine WO_makeT (E := (I1 .i64)) (k := 1) (T0 := 22) (T1 := 3) tbok rfl rfl trivial rfl rfl rfl rfl rfl rfl rfl rfl rfl rfl (mk_ok (by decide) hc4) (fun b5 c6 L7 hL7 => ?_)
    refine WO.cls (C' := St w0 m m [[⟨b1, 24, [.int .i64 p0_0, .int .i64 p0_1, .int .i64 p0_2, .slice a_p0_3 p0_3.length c_p0_3]⟩], L7]) (fun _ h => h) ?_
    refine WO_pure tbok 1 [(1, .pointer (some ⟨b1, 0, none⟩)), (2, .slice none 0 0), (3, .int .i64 0), (5, .slice (some ⟨b5, 0, none⟩) ((List.replicate (w64 (p0_1 + 1) : Int).toNat ([] : List Int)).length) c6)] rfl ⟨rfl, rfl, rfl, rfl, trivial⟩ ?_
    refine WO_end ?_
    refine WK_seq ?_
    refine WK_seq ?_
    refine WK_region ?_
    refine WO_pure tbok 3 [(1, .pointer (some ⟨b1, 0, none⟩)), (2, .slice none 0 0), (3, .int .i64 0), (5, .slice (some ⟨b5, 0, none⟩) ((List.replicate (w64 (p0_1 + 1) : Int).toNat ([] : List Int)).length) c6), (18, .int .i64 ((List.replicate (w64 (p0_1 + 1) : Int).toNat ([] : List Int)).length : Int)), (19, .int .i64 0)] rfl ⟨rfl, rfl, rfl, rfl, rfl, rfl, trivial⟩ ?_
    refine WO_end ?_
    obtain ⟨x12, hx13, hm⟩ := bind_some hm
    refine WK_join (β := (List (List Int)) × (List Value × List Ent)) (fun p => p.1 = x12 ∧ OwnT 22 3 1 (I1 .i64) (.slice (some ⟨b5, 0, none⟩) ((List.replicate (w64 (p0_1 + 1) : Int).toNat ([] : List Int)).length) c6) p.2.1 p.1 p.2.2) (fun p => [(2, .slice none 0 0), (3, .int .i64 0), (5, .slice (some ⟨b5, 0, none⟩) ((List.replicate (w64 (p0_1 + 1) : Int).toNat ([] : List Int)).length) c6)]) (fun p => St w0 m m [[⟨b1, 24, [.int .i64 p0_0, .int .i64 p0_1, .int .i64 p0_2, .slice a_p0_3 p0_3.length c_p0_3]⟩], p.2.2]) ?_ (fun hk14 => ?_)
    · rintro ⟨l_4, ⟨vs11, L10⟩⟩ ⟨hq20, hL10⟩
      subst hq20
      refine WK.sub (e' := [(2, .slice none 0 0), (3, .int .i64 0), (5, .slice (some ⟨b5, 0, none⟩) ((List.replicate (w64 (p0_1 + 1) : Int).toNat ([] : List Int)).length) c6)]) ⟨rfl, rfl, rfl, trivial⟩ (WK.cls (C' := St w0 m m [[⟨b1, 24, [.int .i64 p0_0, .int .i64 p0_1, .int .i64 p0_2, .slice a_p0_3 p0_3.length c_p0_3]⟩], L10]) (fun _ h => h) ?_)
      refine WK_seq ?_
      refine WK_region ?_
      refine WO_pure tbok 3 [(2, .slice (some ⟨b5, 0, none⟩) ((List.replicate (w64 (p0_1 + 1) : Int).toNat ([] : List Int)).length) c6), (3, .int .i64 0)] rfl ⟨rfl, rfl, trivial⟩ ?_
      refine WO_end ?_
      cases hm
      refine WK_freeze 1 rfl (fun m21 hle22 hmm23 => ?_)
      refine WK.cls (C' := St w0 m m21 [[⟨b1, 24, [.int .i64 p0_0, .int .i64 p0_1, .int .i64 p0_2, .slice a_p0_3 p0_3.length c_p0_3]⟩], []]) (fun _ h => h) ?_
      exact WK_ret (ret_out (L := []) (RLc_tmp rfl (RLc_tmp rfl RLc_nil)) (List.nil_sublist _) ⟨(some ⟨b5, 0, none⟩), ((List.replicate (w64 (p0_1 + 1) : Int).toNat ([] : List Int)).length), c6, rfl, (OwnT.rd (E := (I1 .i64)) (k := 1) (fun _ => rfl) hL10 hmm23)⟩)
    · refine WK_block ?_
      refine WK_loop (S := List (List Int) × Int) (G := List Value × List Ent) (fun s => raster_Integral_s1 p0_0 p0_1 p0_2 p0_3 s.1 s.2) (fun s g => [(1, .pointer (some ⟨b1, 0, none⟩)), (2, .slice none 0 0), (3, .int .i64 0), (5, .slice (some ⟨b5, 0, none⟩) ((List.replicate (w64 (p0_1 + 1) : Int).toNat ([] : List Int)).length) c6), (18, .int .i64 ((List.replicate (w64 (p0_1 + 1) : Int).toNat ([] : List Int)).length : Int)), (19, .int .i64 s.2)]) (fun s g => St w0 m m [[⟨b1, 24, [.int .i64 p0_0, .int .i64 p0_1, .int .i64 p0_2, .slice a_p0_3 p0_3.length c_p0_3]⟩], g.2]) (fun s g => OwnT 22 3 1 (I1 .i64) (.slice (some ⟨b5, 0, none⟩) ((List.replicate (w64 (p0_1 + 1) : Int).toNat ([] : List Int)).length) c6) g.1 s.1 g.2) FUEL ((List.replicate (w64 (p0_1 + 1) : Int).toNat ([] : List Int)), 0) ((List.replicate (w64 (p0_1 + 1) : Int).toNat (Value.slice none 0 0)), L7) x12 hx13 hL7 ⟨rfl, rfl, rfl, rfl, rfl, rfl, trivial⟩ (fun _ h => h) ?_
      rintro ⟨l_2, s_3⟩ ⟨vs9, L8⟩ o16 fl17 hm15 hL8 hn18 hd19
      have hm15 : raster_Integral_s1 p0_0 p0_1 p0_2 p0_3 l_2 s_3 = some o16 := hm15
      unfold raster_Integral_s1 at hm15
      refine WK.sub (e' := [(1, .pointer (some ⟨b1, 0, none⟩)), (2, .slice none 0 0), (3, .int .i64 0), (5, .slice (some ⟨b5, 0, none⟩) ((List.replicate (w64 (p0_1 + 1) : Int).toNat ([] : List Int)).length) c6), (18, .int .i64 ((List.replicate (w64 (p0_1 + 1) : Int).toNat ([] : List Int)).length : Int)), (19, .int .i64 s_3)]) ⟨rfl, rfl, rfl, rfl, rfl, rfl, trivial⟩ (WK.cls (C' := St w0 m m [[⟨b1, 24, [.int .i64 p0_0, .int .i64 p0_1, .int .i64 p0_2, .slice a_p0_3 p0_3.length c_p0_3]⟩], L8]) (fun _ h => h) ?_)
      refine WK_seq ?_
      refine WK_region ?_
      refine WO_pure tbok 1 [(1, .pointer (some ⟨b1, 0, none⟩)), (2, .slice none 0 0), (3, .int .i64 0), (5, .slice (some ⟨b5, 0, none⟩) ((List.replicate (w64 (p0_1 + 1) : Int).toNat ([] : List Int)).length) c6), (18, .int .i64 ((List.replicate (w64 (p0_1 + 1) : Int).toNat ([] : List Int)).length : Int)), (19, .int .i64 s_3), (20, .bool (decide (s_3 < ((List.replicate (w64 (p0_1 + 1) : Int).toNat ([] : List Int)).length : Int))))] rfl ⟨rfl, rfl, rfl, rfl, rfl, rfl, rfl, trivial⟩ ?_
      refine WO_end ?_
      refine WK_seq ?_
      refine WK_cond (b := decide (s_3 < ((List.replicate (w64 (p0_1 + 1) : Int).toNat ([] : List Int)).length : Int))) rfl (fun hb24 => ?_) (fun hb24 => ?_)
      · have hm15 := ifT hb24 hm15
        refine WK_skip ?_
        refine WK_seq ?_
        refine WK_block ?_
        refine WK_seq ?_
        refine WK_region ?_
        refine WO_pure tbok 2 [(1, .pointer (some ⟨b1, 0, none⟩)), (2, .slice none 0 0), (3, .int .i64 0), (5, .slice (some ⟨b5, 0, none⟩) ((List.replicate (w64 (p0_1 + 1) : Int).toNat ([] : List Int)).length) c6), (6, .int .i64 s_3), (18, .int .i64 ((List.replicate (w64 (p0_1 + 1) : Int).toNat ([] : List Int)).length : Int)), (19, .int .i64 s_3)] rfl ⟨rfl, rfl, rfl, rfl, rfl, rfl, rfl, trivial⟩ ?_
        refine WO_end ?_
        refine WK_seq ?_
        refine WK_region ?_
        refine WO_pure tbok 3 [(1, .pointer (some ⟨b1, 0, none⟩)), (2, .slice none 0 0), (3, .int .i64 0), (5, .slice (some ⟨b5, 0, none⟩) ((List.replicate (w64 (p0_1 + 1) : Int).toNat ([] : List Int)).length) c6), (6, .int .i64 s_3), (18, .int .i64 ((List.replicate (w64 (p0_1 + 1) : Int).toNat ([] : List Int)).length : Int)), (19, .int .i64 s_3), (22, .slice (some ⟨b5, 0, none⟩) ((List.replicate (w64 (p0_1 + 1) : Int).toNat ([] : List Int)).length) c6), (23, .int .i64 s_3), (24, .pointer (some ⟨b1, 0, none⟩))] rfl ⟨rfl, rfl, rfl, rfl, rfl, rfl, rfl, rfl, rfl, rfl, trivial⟩ ?_
        refine WO_loadB tbok 0 rfl rfl rfl rfl (fun _ h => h) rfl rfl ?_
        refine WO_pure tbok 1 [(1, .pointer (some ⟨b1, 0, none⟩)), (2, .slice none 0 0), (3, .int .i64 0), (5, .slice (some ⟨b5, 0, none⟩) ((List.replicate (w64 (p0_1 + 1) : Int).toNat ([] : List Int)).length) c6), (6, .int .i64 s_3), (18, .int .i64 ((List.replicate (w64 (p0_1 + 1) : Int).toNat ([] : List Int)).length : Int)), (19, .int .i64 s_3), (22, .slice (some ⟨b5, 0, none⟩) ((List.replicate (w64 (p0_1 + 1) : Int).toNat ([] : List Int)).length) c6), (23, .int .i64 s_3), (26, .int .i64 (w64 (p0_0 + 1)))] rfl ⟨rfl, rfl, rfl, rfl, rfl, rfl, rfl, rfl, rfl, rfl, trivial⟩ ?_
        obtain ⟨hc25, hm15⟩ := chk_some hm15
        refine WO_make (E := (I1 .i64)) tbok (fun _ => rfl) (by decide) (0 : Int) rfl rfl trivial rfl rfl rfl rfl rfl rfl rfl rfl rfl (mk_ok (by decide) hc25) (fun b26 c27 L28 hL28 => ?_)
        refine WO.cls (C' := St w0 m m [[⟨b1, 24, [.int .i64 p0_0, .int .i64 p0_1, .int .i64 p0_2, .slice a_p0_3 p0_3.length c_p0_3]⟩], L8, L28]) (fun _ h => h) ?_
        obtain ⟨hc29, hm15⟩ := chk_some hm15
        refine WO_index tbok rfl rfl rfl rfl rfl rfl rfl rfl (OwnT.addr hL8) (by simpa using hc29) ?_
        refine WO_storeTR tbok 1 2 rfl rfl rfl rfl rfl hL8 rfl hL28 rfl rfl (by simpa using idx_lt hc29) rfl rfl rfl rfl (fun L30 hL30 => ?_)
        refine WO.cls (C' := St w0 m m [[⟨b1, 24, [.int .i64 p0_0, .int .i64 p0_1, .int .i64 p0_2, .slice a_p0_3 p0_3.length c_p0_3]⟩], L30, []]) (fun _ h => h) ?_
        refine WO_end ?_
        refine WK_seq ?_
        refine WK_region ?_
        refine WO_pure tbok 1 [(1, .pointer (some ⟨b1, 0, none⟩)), (2, .slice none 0 0), (3, .int .i64 0), (5, .slice (some ⟨b5, 0, none⟩) ((List.replicate (w64 (p0_1 + 1) : Int).toNat ([] : List Int)).length) c6), (6, .int .i64 s_3), (7, .int .i64 1), (18, .int .i64 ((List.replicate (w64 (p0_1 + 1) : Int).toNat ([] : List Int)).length : Int)), (19, .int .i64 s_3)] rfl ⟨rfl, rfl, rfl, rfl, rfl, rfl, rfl, rfl, trivial⟩ ?_
        refine WO_end ?_
        obtain ⟨x35, hx36, hm15⟩ := bind_some hm15
        refine WK_join (β := (List (List Int)) × (List Value × List Ent)) (fun p => p.1 = x35 ∧ OwnT 22 3 1 (I1 .i64) (.slice (some ⟨b5, 0, none⟩) ((List.replicate (w64 (p0_1 + 1) : Int).toNat ([] : List Int)).length) c6) p.2.1 p.1 p.2.2) (fun p => [(1, .pointer (some ⟨b1, 0, none⟩)), (2, .slice none 0 0), (3, .int .i64 0), (5, .slice (some ⟨b5, 0, none⟩) ((List.replicate (w64 (p0_1 + 1) : Int).toNat ([] : List Int)).length) c6), (18, .int .i64 ((List.replicate (w64 (p0_1 + 1) : Int).toNat ([] : List Int)).length : Int)), (19, .int .i64 s_3)]) (fun p => St w0 m m [[⟨b1, 24, [.int .i64 p0_0, .int .i64 p0_1, .int .i64 p0_2, .slice a_p0_3 p0_3.length c_p0_3]⟩], p.2.2, []]) ?_ (fun hk37 => ?_)
        · rintro ⟨l_7, ⟨vs34, L33⟩⟩ ⟨hq43, hL33⟩
          subst hq43
          refine WK.sub (e' := [(1, .pointer (some ⟨b1, 0, none⟩)), (2, .slice none 0 0), (3, .int .i64 0), (5, .slice (some ⟨b5, 0, none⟩) ((List.replicate (w64 (p0_1 + 1) : Int).toNat ([] : List Int)).length) c6), (18, .int .i64 ((List.replicate (w64 (p0_1 + 1) : Int).toNat ([] : List Int)).length : Int)), (19, .int .i64 s_3)]) ⟨rfl, rfl, rfl, rfl, rfl, rfl, trivial⟩ (WK.cls (C' := St w0 m m [[⟨b1, 24, [.int .i64 p0_0, .int .i64 p0_1, .int .i64 p0_2, .slice a_p0_3 p0_3.length c_p0_3]⟩], L33, []]) (fun _ h => h) ?_)
          refine WK_blk ?_
          refine WK_region ?_
          refine WO_pure tbok 2 [(1, .pointer (some ⟨b1, 0, none⟩)), (2, .slice none 0 0), (3, .int .i64 0), (5, .slice (some ⟨b5, 0, none⟩) ((List.replicate (w64 (p0_1 + 1) : Int).toNat ([] : List Int)).length) c6), (18, .int .i64 ((List.replicate (w64 (p0_1 + 1) : Int).toNat ([] : List Int)).length : Int)), (19, .int .i64 (w64 (s_3 + 1)))] rfl ⟨rfl, rfl, rfl, rfl, rfl, rfl, trivial⟩ ?_
          refine WO_end ?_
          cases hm15
          refine WK.sub ?_ (WK.cls (fun _ h => St.take 2 h) (hn18 _ (vs34, L33) rfl hL33))
          exact ⟨rfl, rfl, rfl, rfl, rfl, rfl, trivial⟩
        · refine WK_block ?_
          refine WK_loop (S := List (List Int) × Int) (G := List Value × List Ent) (fun s => raster_Integral_s2 p0_0 p0_1 p0_2 p0_3 s_3 s.1 s.2) (fun s g => [(1, .pointer (some ⟨b1, 0, none⟩)), (2, .slice none 0 0), (3, .int .i64 0), (5, .slice (some ⟨b5, 0, none⟩) ((List.replicate (w64 (p0_1 + 1) : Int).toNat ([] : List Int)).length) c6), (6, .int .i64 s_3), (7, .int .i64 s.2), (18, .int .i64 ((List.replicate (w64 (p0_1 + 1) : Int).toNat ([] : List Int)).length : Int)), (19, .int .i64 s_3)]) (fun s g => St w0 m m [[⟨b1, 24, [.int .i64 p0_0, .int .i64 p0_1, .int .i64 p0_2, .slice a_p0_3 p0_3.length c_p0_3]⟩], g.2, []]) (fun s g => OwnT 22 3 1 (I1 .i64) (.slice (some ⟨b5, 0, none⟩) ((List.replicate (w64 (p0_1 + 1) : Int).toNat ([] : List Int)).length) c6) g.1 s.1 g.2) FUEL ((l_2.set s_3.toNat (List.replicate (w64 (p0_0 + 1)).toNat (0 : Int))), 1) ((vs9.set s_3.toNat (.slice (some ⟨b26, 0, none⟩) ((List.replicate (w64 (p0_0 + 1)).toNat (0 : Int)).length) c27)), L30) x35 hx36 hL30 ⟨rfl, rfl, rfl, rfl, rfl, rfl, rfl, rfl, trivial⟩ (fun _ h => h) ?_
          rintro ⟨l_5, s_6⟩ ⟨vs32, L31⟩ o39 fl40 hm38 hL31 hn41 hd42
          have hm38 : raster_Integral_s2 p0_0 p0_1 p0_2 p0_3 s_3 l_5 s_6 = some o39 := hm38
          unfold raster_Integral_s2 at hm38
          refine WK.sub (e' := [(1, .pointer (some ⟨b1, 0, none⟩)), (2, .slice none 0 0), (3, .int .i64 0), (5, .slice (some ⟨b5, 0, none⟩) ((List.replicate (w64 (p0_1 + 1) : Int).toNat ([] : List Int)).length) c6), (6, .int .i64 s_3), (7, .int .i64 s_6), (18, .int .i64 ((List.replicate (w64 (p0_1 + 1) : Int).toNat ([] : List Int)).length : Int)), (19, .int .i64 s_3)]) ⟨rfl, rfl, rfl, rfl, rfl, rfl, rfl, rfl, trivial⟩ (WK.cls (C' := St w0 m m [[⟨b1, 24, [.int .i64 p0_0, .int .i64 p0_1, .int .i64 p0_2, .slice a_p0_3 p0_3.length c_p0_3]⟩], L31, []]) (fun _ h => h) ?_)
          refine WK_seq ?_
          refine WK_seq ?_
          obtain ⟨s_8, hx44, hm38⟩ := bind_some hm38
          refine WK_meet [(1, .pointer (some ⟨b1, 0, none⟩)), (2, .slice none 0 0), (3, .int .i64 0), (5, .slice (some ⟨b5, 0, none⟩) ((List.replicate (w64 (p0_1 + 1) : Int).toNat ([] : List Int)).length) c6), (6, .int .i64 s_3), (7, .int .i64 s_6), (18, .int .i64 ((List.replicate (w64 (p0_1 + 1) : Int).toNat ([] : List Int)).length : Int)), (19, .int .i64 s_3), (36, .bool s_8)] (St w0 m m [[⟨b1, 24, [.int .i64 p0_0, .int .i64 p0_1, .int .i64 p0_2, .slice a_p0_3 p0_3.length c_p0_3]⟩], L31, []]) ?_ (fun hk45 => ?_)
          · refine WK_cond (b := s_8) rfl (fun hb46 => ?_) (fun hb46 => ?_)
            · have hm38 := ifT hb46 hm38
              refine WK_skip ?_
              refine WK_seq ?_
              refine WK_block ?_
              refine WK_draw 40 [0, 1, 2, 3, 4, 5, 6, 7, 8, 9, 10, 11, 12, 13, 14, 15, 16, 17, 18, 19, 20, 21, 22, 23, 24, 25, 26, 27, 28, 29, 30, 31, 32, 33, 34, 35, 36, 37, 38, 39] follows_ok (by kernel_rfl) St_closed ?_
              refine WO_pure tbok 2 [(1, .pointer (some ⟨b1, 0, none⟩)), (2, .slice none 0 0), (3, .int .i64 0), (5, .slice (some ⟨b5, 0, none⟩) ((List.replicate (w64 (p0_1 + 1) : Int).toNat ([] : List Int)).length) c6), (6, .int .i64 s_3), (7, .int .i64 s_6), (18, .int .i64 ((List.replicate (w64 (p0_1 + 1) : Int).toNat ([] : List Int)).length : Int)), (19, .int .i64 s_3), (39, .slice (some ⟨b5, 0, none⟩) ((List.replicate (w64 (p0_1 + 1) : Int).toNat ([] : List Int)).length) c6), (40, .int .i64 s_3)] rfl ⟨rfl, rfl, rfl, rfl, rfl, rfl, rfl, rfl, rfl, rfl, trivial⟩ ?_
              obtain ⟨v_9, hy47, hm38⟩ := bind_some hm38
              obtain ⟨hc48, hy47⟩ := ix_some hy47
              refine WO_index tbok rfl rfl rfl rfl rfl rfl rfl rfl (OwnT.addr hL31) (by simpa using hc48) ?_
              refine WO_loadT tbok 1 rfl rfl rfl rfl (fun _ h => h) hL31 rfl hy47 rfl rfl (fun a49 c50 L51 hv52 hr53 => ?_)
              refine WO_pure tbok 4 [(1, .pointer (some ⟨b1, 0, none⟩)), (2, .slice none 0 0), (3, .int .i64 0), (5, .slice (some ⟨b5, 0, none⟩) ((List.replicate (w64 (p0_1 + 1) : Int).toNat ([] : List Int)).length) c6), (6, .int .i64 s_3), (7, .int .i64 s_6), (18, .int .i64 ((List.replicate (w64 (p0_1 + 1) : Int).toNat ([] : List Int)).length : Int)), (19, .int .i64 s_3), (42, .slice a49 v_9.length c50), (43, .int .i64 s_6), (44, .slice (some ⟨b5, 0, none⟩) ((List.replicate (w64 (p0_1 + 1) : Int).toNat ([] : List Int)).length) c6), (46, .int .i64 (w64 (s_3 - 1)))] rfl ⟨rfl, rfl, rfl, rfl, rfl, rfl, rfl, rfl, rfl, rfl, rfl, rfl, trivial⟩ ?_
              obtain ⟨v_10, hy54, hm38⟩ := bind_some hm38
              obtain ⟨hc55, hy54⟩ := ix_some hy54
              refine WO_index tbok rfl rfl rfl rfl rfl rfl rfl rfl (OwnT.addr hL31) (by simpa using hc55) ?_
              refine WO_loadT tbok 1 rfl rfl rfl rfl (fun _ h => h) hL31 rfl hy54 rfl rfl (fun a56 c57 L58 hv59 hr60 => ?_)
              refine WO_pure tbok 1 [(1, .pointer (some ⟨b1, 0, none⟩)), (2, .slice none 0 0), (3, .int .i64 0), (5, .slice (some ⟨b5, 0, none⟩) ((List.replicate (w64 (p0_1 + 1) : Int).toNat ([] : List Int)).length) c6), (6, .int .i64 s_3), (7, .int .i64 s_6), (18, .int .i64 ((List.replicate (w64 (p0_1 + 1) : Int).toNat ([] : List Int)).length : Int)), (19, .int .i64 s_3), (42, .slice a49 v_9.length c50), (43, .int .i64 s_6), (48, .slice a56 v_10.length c57), (49, .int .i64 s_6)] rfl ⟨rfl, rfl, rfl, rfl, rfl, rfl, rfl, rfl, rfl, rfl, rfl, rfl, trivial⟩ ?_
              obtain ⟨v_11, hy61, hm38⟩ := bind_some hm38
              obtain ⟨hc62, hy61⟩ := ix_some hy61
              refine WO_index tbok rfl rfl rfl rfl rfl rfl rfl rfl (OwnE.addr hr60) (by simpa using hc62) ?_
              refine WO_loadTE (E := (I1 .i64)) tbok (fun _ => rfl) 1 rfl rfl rfl rfl (fun _ h => h) hL31 rfl hv59 hy54 hy61 rfl ?_
              refine WO_pure tbok 2 [(1, .pointer (some ⟨b1, 0, none⟩)), (2, .slice none 0 0), (3, .int .i64 0), (5, .slice (some ⟨b5, 0, none⟩) ((List.replicate (w64 (p0_1 + 1) : Int).toNat ([] : List Int)).length) c6), (6, .int .i64 s_3), (7, .int .i64 s_6), (18, .int .i64 ((List.replicate (w64 (p0_1 + 1) : Int).toNat ([] : List Int)).length : Int)), (19, .int .i64 s_3), (42, .slice a49 v_9.length c50), (43, .int .i64 s_6), (51, .int .i64 v_11), (52, .slice (some ⟨b5, 0, none⟩) ((List.replicate (w64 (p0_1 + 1) : Int).toNat ([] : List Int)).length) c6), (53, .int .i64 s_3)] rfl ⟨rfl, rfl, rfl, rfl, rfl, rfl, rfl, rfl, rfl, rfl, rfl, rfl, rfl, trivial⟩ ?_
              obtain ⟨v_12, hy63, hm38⟩ := bind_some hm38
              obtain ⟨hc64, hy63⟩ := ix_some hy63
              refine WO_index tbok rfl rfl rfl rfl rfl rfl rfl rfl (OwnT.addr hL31) (by simpa using hc64) ?_
              refine WO_loadT tbok 1 rfl rfl rfl rfl (fun _ h => h) hL31 rfl hy63 rfl rfl (fun a65 c66 L67 hv68 hr69 => ?_)
              refine WO_pure tbok 2 [(1, .pointer (some ⟨b1, 0, none⟩)), (2, .slice none 0 0), (3, .int .i64 0), (5, .slice (some ⟨b5, 0, none⟩) ((List.replicate (w64 (p0_1 + 1) : Int).toNat ([] : List Int)).length) c6), (6, .int .i64 s_3), (7, .int .i64 s_6), (18, .int .i64 ((List.replicate (w64 (p0_1 + 1) : Int).toNat ([] : List Int)).length : Int)), (19, .int .i64 s_3), (42, .slice a49 v_9.length c50), (43, .int .i64 s_6), (51, .int .i64 v_11), (55, .slice a65 v_12.length c66), (57, .int .i64 (w64 (s_6 - 1)))] rfl ⟨rfl, rfl, rfl, rfl, rfl, rfl, rfl, rfl, rfl, rfl, rfl, rfl, rfl, trivial⟩ ?_
              obtain ⟨v_13, hy70, hm38⟩ := bind_some hm38
              obtain ⟨hc71, hy70⟩ := ix_some hy70
              refine WO_index tbok rfl rfl rfl rfl rfl rfl rfl rfl (OwnE.addr hr69) (by simpa using hc71) ?_
              refine WO_loadTE (E := (I1 .i64)) tbok (fun _ => rfl) 1 rfl rfl rfl rfl (fun _ h => h) hL31 rfl hv68 hy63 hy70 rfl ?_
              refine WO_pure tbok 4 [(1, .pointer (some ⟨b1, 0, none⟩)), (2, .slice none 0 0), (3, .int .i64 0), (5, .slice (some ⟨b5, 0, none⟩) ((List.replicate (w64 (p0_1 + 1) : Int).toNat ([] : List Int)).length) c6), (6, .int .i64 s_3), (7, .int .i64 s_6), (18, .int .i64 ((List.replicate (w64 (p0_1 + 1) : Int).toNat ([] : List Int)).length : Int)), (19, .int .i64 s_3), (42, .slice a49 v_9.length c50), (43, .int .i64 s_6), (60, .int .i64 (w64 (v_11 + v_13))), (61, .slice (some ⟨b5, 0, none⟩) ((List.replicate (w64 (p0_1 + 1) : Int).toNat ([] : List Int)).length) c6), (63, .int .i64 (w64 (s_3 - 1)))] rfl ⟨rfl, rfl, rfl, rfl, rfl, rfl, rfl, rfl, rfl, rfl, rfl, rfl, rfl, trivial⟩ ?_
              obtain ⟨v_14, hy72, hm38⟩ := bind_some hm38
              obtain ⟨hc73, hy72⟩ := ix_some hy72
              refine WO_index tbok rfl rfl rfl rfl rfl rfl rfl rfl (OwnT.addr hL31) (by simpa using hc73) ?_
              refine WO_loadT tbok 1 rfl rfl rfl rfl (fun _ h => h) hL31 rfl hy72 rfl rfl (fun a74 c75 L76 hv77 hr78 => ?_)
              refine WO_pure tbok 2 [(1, .pointer (some ⟨b1, 0, none⟩)), (2, .slice none 0 0), (3, .int .i64 0), (5, .slice (some ⟨b5, 0, none⟩) ((List.replicate (w64 (p0_1 + 1) : Int).toNat ([] : List Int)).length) c6), (6, .int .i64 s_3), (7, .int .i64 s_6), (18, .int .i64 ((List.replicate (w64 (p0_1 + 1) : Int).toNat ([] : List Int)).length : Int)), (19, .int .i64 s_3), (42, .slice a49 v_9.length c50), (43, .int .i64 s_6), (60, .int .i64 (w64 (v_11 + v_13))), (65, .slice a74 v_14.length c75), (67, .int .i64 (w64 (s_6 - 1)))] rfl ⟨rfl, rfl, rfl, rfl, rfl, rfl, rfl, rfl, rfl, rfl, rfl, rfl, rfl, trivial⟩ ?_
              obtain ⟨v_15, hy79, hm38⟩ := bind_some hm38
              obtain ⟨hc80, hy79⟩ := ix_some hy79
              refine WO_index tbok rfl rfl rfl rfl rfl rfl rfl rfl (OwnE.addr hr78) (by simpa using hc80) ?_
              refine WO_loadTE (E := (I1 .i64)) tbok (fun _ => rfl) 1 rfl rfl rfl rfl (fun _ h => h) hL31 rfl hv77 hy72 hy79 rfl ?_
              refine WO_pure tbok 1 [(1, .pointer (some ⟨b1, 0, none⟩)), (2, .slice none 0 0), (3, .int .i64 0), (5, .slice (some ⟨b5, 0, none⟩) ((List.replicate (w64 (p0_1 + 1) : Int).toNat ([] : List Int)).length) c6), (6, .int .i64 s_3), (7, .int .i64 s_6), (18, .int .i64 ((List.replicate (w64 (p0_1 + 1) : Int).toNat ([] : List Int)).length : Int)), (19, .int .i64 s_3), (42, .slice a49 v_9.length c50), (43, .int .i64 s_6), (70, .int .i64 (w64 ((w64 (v_11 + v_13)) - v_15)))] rfl ⟨rfl, rfl, rfl, rfl, rfl, rfl, rfl, rfl, rfl, rfl, rfl, trivial⟩ ?_
              refine WO_loadB tbok 0 rfl rfl rfl rfl (fun _ h => h) rfl rfl ?_
              refine WO_pure tbok 4 [(1, .pointer (some ⟨b1, 0, none⟩)), (2, .slice none 0 0), (3, .int .i64 0), (5, .slice (some ⟨b5, 0, none⟩) ((List.replicate (w64 (p0_1 + 1) : Int).toNat ([] : List Int)).length) c6), (6, .int .i64 s_3), (7, .int .i64 s_6), (18, .int .i64 ((List.replicate (w64 (p0_1 + 1) : Int).toNat ([] : List Int)).length : Int)), (19, .int .i64 s_3), (42, .slice a49 v_9.length c50), (43, .int .i64 s_6), (70, .int .i64 (w64 ((w64 (v_11 + v_13)) - v_15))), (71, .agg #[.int .i64 p0_0, .int .i64 p0_1, .int .i64 p0_2, .slice a_p0_3 p0_3.length c_p0_3]), (73, .int .i64 (w64 (s_6 - 1))), (75, .int .i64 (w64 (s_3 - 1)))] rfl ⟨rfl, rfl, rfl, rfl, rfl, rfl, rfl, rfl, rfl, rfl, rfl, rfl, rfl, rfl, trivial⟩ ?_
              obtain ⟨y_16, hc81, hm38⟩ := bind_some hm38
              refine WO_call0 (.int .i64 y_16) rfl rfl St_closed rfl rfl rfl rfl St_closed ⟨46, #[], #[], rfl, callable_46, fun w hw => ⟨_, hw.sat, raster_at_walk h_p0_3 hc81⟩⟩ ?_
              refine WO_pure tbok 1 [(1, .pointer (some ⟨b1, 0, none⟩)), (2, .slice none 0 0), (3, .int .i64 0), (5, .slice (some ⟨b5, 0, none⟩) ((List.replicate (w64 (p0_1 + 1) : Int).toNat ([] : List Int)).length) c6), (6, .int .i64 s_3), (7, .int .i64 s_6), (18, .int .i64 ((List.replicate (w64 (p0_1 + 1) : Int).toNat ([] : List Int)).length : Int)), (19, .int .i64 s_3), (42, .slice a49 v_9.length c50), (43, .int .i64 s_6), (77, .int .i64 (w64 ((w64 ((w64 (v_11 + v_13)) - v_15)) + y_16)))] rfl ⟨rfl, rfl, rfl, rfl, rfl, rfl, rfl, rfl, rfl, rfl, rfl, trivial⟩ ?_
              obtain ⟨hc82, hm38⟩ := chk_some hm38
              refine WO_index tbok rfl rfl rfl rfl rfl rfl rfl rfl (OwnE.addr hr53) (by simpa using hc82) ?_
              refine WO_tail ?_
              refine WO_storeTE (E := (I1 .i64)) tbok (fun _ => rfl) 1 (w64 ((w64 ((w64 (v_11 + v_13)) - v_15)) + y_16)) rfl rfl rfl rfl rfl hL31 rfl hv52 hy47 (by simpa using idx_lt hc82) rfl rfl rfl rfl (fun L83 hL83 => ?_)
              refine WO.cls (C' := St w0 m m [[⟨b1, 24, [.int .i64 p0_0, .int .i64 p0_1, .int .i64 p0_2, .slice a_p0_3 p0_3.length c_p0_3]⟩], L83, []]) (fun _ h => h) ?_
              refine WO_end ?_
              refine WK_blk ?_
              refine WK_region ?_
              refine WO_pure tbok 3 [(1, .pointer (some ⟨b1, 0, none⟩)), (2, .slice none 0 0), (3, .int .i64 0), (5, .slice (some ⟨b5, 0, none⟩) ((List.replicate (w64 (p0_1 + 1) : Int).toNat ([] : List Int)).length) c6), (6, .int .i64 s_3), (7, .int .i64 (w64 (s_6 + 1))), (18, .int .i64 ((List.replicate (w64 (p0_1 + 1) : Int).toNat ([] : List Int)).length : Int)), (19, .int .i64 s_3)] rfl ⟨rfl, rfl, rfl, rfl, rfl, rfl, rfl, rfl, trivial⟩ ?_
              refine WO_end ?_
              cases hm38
              refine WK.sub ?_ (WK.cls (fun _ h => h) (hn41 _ (vs32, L83) rfl hL83))
              exact ⟨rfl, rfl, rfl, rfl, rfl, rfl, rfl, rfl, trivial⟩
            · have hm38 := ifF hb46 hm38
              refine WK_exit rfl ?_
              cases hm38
              refine WK.sub ?_ (WK.cls (fun _ h => h) (hk37 (l_5, (vs32, L31)) ⟨(hd42 _ rfl), hL31⟩))
              exact ⟨rfl, rfl, rfl, rfl, rfl, rfl, trivial⟩
          · refine WK_region ?_
            refine WO_pure tbok 2 [(1, .pointer (some ⟨b1, 0, none⟩)), (2, .slice none 0 0), (3, .int .i64 0), (5, .slice (some ⟨b5, 0, none⟩) ((List.replicate (w64 (p0_1 + 1) : Int).toNat ([] : List Int)).length) c6), (6, .int .i64 s_3), (7, .int .i64 s_6), (18, .int .i64 ((List.replicate (w64 (p0_1 + 1) : Int).toNat ([] : List Int)).length : Int)), (19, .int .i64 s_3), (29, .int .i64 s_6), (30, .pointer (some ⟨b1, 0, none⟩))] rfl ⟨rfl, rfl, rfl, rfl, rfl, rfl, rfl, rfl, rfl, rfl, trivial⟩ ?_
            refine WO_loadB tbok 0 rfl rfl rfl rfl (fun _ h => h) rfl rfl ?_
            refine WO_pure tbok 2 [(1, .pointer (some ⟨b1, 0, none⟩)), (2, .slice none 0 0), (3, .int .i64 0), (5, .slice (some ⟨b5, 0, none⟩) ((List.replicate (w64 (p0_1 + 1) : Int).toNat ([] : List Int)).length) c6), (6, .int .i64 s_3), (7, .int .i64 s_6), (18, .int .i64 ((List.replicate (w64 (p0_1 + 1) : Int).toNat ([] : List Int)).length : Int)), (19, .int .i64 s_3), (33, .bool (decide (s_6 ≤ p0_0)))] rfl ⟨rfl, rfl, rfl, rfl, rfl, rfl, rfl, rfl, rfl, trivial⟩ ?_
            refine WO_split (d := 33) (b := decide (s_6 ≤ p0_0)) rfl (fun hb84 => ?_) (fun hb84 => ?_)
            · have hx44 := ifT hb84 hx44
              refine WO_pure tbok 3 [(1, .pointer (some ⟨b1, 0, none⟩)), (2, .slice none 0 0), (3, .int .i64 0), (5, .slice (some ⟨b5, 0, none⟩) ((List.replicate (w64 (p0_1 + 1) : Int).toNat ([] : List Int)).length) c6), (6, .int .i64 s_3), (7, .int .i64 s_6), (18, .int .i64 ((List.replicate (w64 (p0_1 + 1) : Int).toNat ([] : List Int)).length : Int)), (19, .int .i64 s_3), (36, .bool (decide (0 < s_3)))] rfl ⟨rfl, rfl, rfl, rfl, rfl, rfl, rfl, rfl, rfl, trivial⟩ ?_
              refine WO_end ?_
              cases hx44
              refine WK.sub ?_ (WK.cls (fun _ h => h) hk45)
              exact ⟨rfl, rfl, rfl, rfl, rfl, rfl, rfl, rfl, rfl, trivial⟩
            · have hx44 := ifF hb84 hx44
              refine WO_pure tbok 3 [(1, .pointer (some ⟨b1, 0, none⟩)), (2, .slice none 0 0), (3, .int .i64 0), (5, .slice (some ⟨b5, 0, none⟩) ((List.replicate (w64 (p0_1 + 1) : Int).toNat ([] : List Int)).length) c6), (6, .int .i64 s_3), (7, .int .i64 s_6), (18, .int .i64 ((List.replicate (w64 (p0_1 + 1) : Int).toNat ([] : List Int)).length : Int)), (19, .int .i64 s_3), (36, .bool false)] rfl ⟨rfl, rfl, rfl, rfl, rfl, rfl, rfl, rfl, rfl, trivial⟩ ?_
              refine WO_end ?_
              cases hx44
              refine WK.sub ?_ (WK.cls (fun _ h => h) hk45)
              exact ⟨rfl, rfl, rfl, rfl, rfl, rfl, rfl, rfl, rfl, trivial⟩
      · have hm15 := ifF hb24 hm15
        refine WK_exit rfl ?_
        cases hm15
        refine WK.sub ?_ (WK.cls (fun _ h => h) (hk14 (l_2, (vs9, L8)) ⟨(hd19 _ rfl), hL8⟩))
        exact ⟨rfl, rfl, rfl, trivial⟩
def descriptor_open_Q (r : Int × Int × Int × List Int × List (List Int) × Int) : Value → Mu → List Ent → Prop := fun v m L => ∃ (a0 : Option Addr) (q0 c0 : Nat) (a1 : Option Addr) (q1 c1 : Nat), v = .tuple #[.agg #[.int .i64 r.1, .int .i64 r.2.1, .int .i64 r.2.2.1, .slice a0 q0 c0, .slice a1 q1 c1], .int .i64 r.2.2.2.2.2] ∧ SlR (FE (I1 .i64)) 1 m (.slice a0 q0 c0) r.2.2.2.1 ∧ SlR (RowE (FE (I1 .i64)) 1) 1 m (.slice a1 q1 c1) r.2.2.2.2.1
theorem descriptor_open_walk {m : Mu} {p0_0 : Int} {p0_1 : Int} {p0_2 : Int} {p0_3 : List Int} {a_p0_3 : Option Addr} {q_p0_3 c_p0_3 : Nat} (h_p0_3 : SlR (FE (I1 .i64)) 1 m (.slice a_p0_3 q_p0_3 c_p0_3) p0_3) {r : Int × Int × Int × List Int × List (List Int) × Int} (hm : descriptor_open p0_0 p0_1 p0_2 p0_3 = some r) :
    Go.E.Spec Try.prog 73 [.agg #[.int .i64 p0_0, .int .i64 p0_1, .int .i64 p0_2, .slice a_p0_3 q_p0_3 c_p0_3]] m (descriptor_open_Q r) := by
  refine Spec_enter Try.func73 rfl rfl rfl (fun w0 => ?_)
  refine WK.sub (e' := [(0, .agg #[.int .i64 p0_0, .int .i64 p0_1, .int .i64 p0_2, .slice a_p0_3 q_p0_3 c_p0_3])]) ⟨rfl, trivial⟩ ?_
  obtain rfl := SlR.qlen h_p0_3
  refine WK.sub (e' := [(0, .agg #[.int .i64 p0_0, .int .i64 p0_1, .int .i64 p0_2, .slice a_p0_3 p0_3.length c_p0_3])]) ⟨rfl, trivial⟩ ?_
  unfold descriptor_open at hm
  refine WK_seq ?_
  refine WK_region ?_
  refine WO_box [.int .i64 p0_0, .int .i64 p0_1, .int .i64 p0_2, .slice a_p0_3 p0_3.length c_p0_3] rfl rfl trivial rfl rfl rfl (fun b1 => ?_)
  refine WO.cls (C' := St w0 m m [[⟨b1, 24, [.int .i64 p0_0, .int .i64 p0_1, .int .i64 p0_2, .slice a_p0_3 p0_3.length c_p0_3]⟩]]) (fun _ h => h) ?_
  refine WO_alloc tbok [.int .i64 0, .int .i64 0, .int .i64 0, .slice none 0 0, .slice none 0 0] rfl rfl trivial rfl rfl rfl rfl (fun b2 => ?_)
  refine WO.cls (C' := St w0 m m [[⟨b1, 24, [.int .i64 p0_0, .int .i64 p0_1, .int .i64 p0_2, .slice a_p0_3 p0_3.length c_p0_3]⟩], [⟨b2, 101, [.int .i64 0, .int .i64 0, .int .i64 0, .slice none 0 0, .slice none 0 0]⟩]]) (fun _ h => h) ?_
  refine WO_pure tbok 1 [(1, .pointer (some ⟨b1, 0, none⟩)), (2, .pointer (some ⟨b2, 0, none⟩)), (3, .int .i64 0)] rfl ⟨rfl, rfl, rfl, trivial⟩ ?_
  refine WO_end ?_
  refine WK_seq ?_
  refine WK_region ?_
  refine WO_loadB tbok 0 rfl rfl rfl rfl (fun _ h => h) rfl rfl ?_
  obtain ⟨⟨y_1, y_2⟩, hc3, hm⟩ := bind_some hm
  refine WO_call2 (raster_Integral_Q (y_1, y_2)) rfl rfl trivial rfl rfl rfl rfl ⟨79, #[], #[], rfl, callable_79, raster_Integral_walk h_p0_3 hc3⟩ (fun v7 m8 L6 hle9 hq => ?_)
  obtain ⟨a4, qa4, c5, rfl, h10⟩ := hq
  obtain rfl := SlR.qlen h10
  refine WO.cls (C' := St w0 m m8 [[⟨b1, 24, [.int .i64 p0_0, .int .i64 p0_1, .int .i64 p0_2, .slice a_p0_3 p0_3.length c_p0_3]⟩], [⟨b2, 101, [.int .i64 0, .int .i64 0, .int .i64 0, .slice none 0 0, .slice none 0 0]⟩], L6]) (fun _ h => h.sub (by simp)) ?_
  refine WO_pure tbok 5 [(1, .pointer (some ⟨b1, 0, none⟩)), (2, .pointer (some ⟨b2, 0, none⟩)), (3, .int .i64 0), (4, .slice a4 ((y_1).length) c5), (5, .int .i64 y_2)] rfl ⟨rfl, rfl, rfl, rfl, rfl, trivial⟩ ?_
  refine WO_end ?_
  refine WK_seq ?_
  refine WK_region ?_
  refine WO_loadB tbok 0 rfl rfl rfl rfl (fun _ h => h) rfl rfl ?_
  refine WO_pure tbok 3 [(2, .pointer (some ⟨b2, 0, none⟩)), (3, .int .i64 0), (13, .agg #[.int .i64 p0_0, .int .i64 p0_1, .int .i64 p0_2, .slice a_p0_3 p0_3.length c_p0_3, .slice a4 ((y_1).length) c5]), (14, .int .i64 y_2)] rfl ⟨rfl, rfl, rfl, rfl, trivial⟩ ?_
  refine WO_storeB tbok 1 [.int .i64 p0_0, .int .i64 p0_1, .int .i64 p0_2, .slice a_p0_3 p0_3.length c_p0_3, .slice a4 ((y_1).length) c5] rfl rfl rfl rfl rfl rfl rfl ?_
  refine WO.cls (C' := St w0 m m8 [[⟨b1, 24, [.int .i64 p0_0, .int .i64 p0_1, .int .i64 p0_2, .slice a_p0_3 p0_3.length c_p0_3]⟩], [⟨b2, 101, [.int .i64 p0_0, .int .i64 p0_1, .int .i64 p0_2, .slice a_p0_3 p0_3.length c_p0_3, .slice a4 ((y_1).length) c5]⟩], L6]) (fun _ h => h) ?_
  refine WO_pure tbok 1 [(2, .pointer (some ⟨b2, 0, none⟩)), (3, .int .i64 y_2)] rfl ⟨rfl, rfl, trivial⟩ ?_
  refine WO_end ?_
  cases hm
  exact WK_ret (ret_out (L := []) (RLc_cell tbok 1 rfl rfl rfl (RLc_tmp rfl RLc_nil)) (List.nil_sublist _) ⟨a_p0_3, p0_3.length, c_p0_3, a4, _, c5, rfl, (h_p0_3.mono (mono_FE _) hle9), h10⟩)
end Go.Proofs.Ytbolefkhmfbnlaa
