import Derived.Test.YtmeopehknkfnbaaTab
import Derived.Test.YtmeopehknkfnbaaM
import Derived.Test.YtmeopehknkfnbaaIt
import Derived.Test.YtmeopehknkfnbaaW2
set_option linter.unusedVariables false
set_option maxRecDepth 100000
set_option maxHeartbeats 4000000
namespace Go.Proofs.Ytmeopehknkfnbaa
open Go.E Go.RowKit
attribute [local irreducible] Go.E.WO Go.E.WK
def fiduciallaw44_filled_Q (r : Int × Int × Int × List Int) : Value → List Ent → Prop := fun v L => ∃ (a0 : Option Addr) (q0 c0 : Nat), v = .agg #[.int .i64 r.1, .int .i64 r.2.1, .int .i64 r.2.2.1, .slice a0 q0 c0] ∧ OwnE 3 1 (I1 .i64) (.slice a0 q0 c0) r.2.2.2 L
theorem fiduciallaw44_filled_walk {m : Mu} {p0_0 : Int} {p0_1 : Int} {p0_2 : Int} {p0_3 : List Int} {p1 : Int} {p2 : Int} {p3 : Int → Int → Option Int} {a_p0_3 : Option Addr} {q_p0_3 c_p0_3 : Nat} {p3v : Value} (h_p0_3 : SlR (FE (I1 .i64)) 1 m (.slice a_p0_3 q_p0_3 c_p0_3) p0_3) (hp3 : ∀ (m1 : Mu), Le m m1 → ∀ (u1 : Int), ∀ (u2 : Int), ∀ (r : Int), p3 u1 u2 = some r → SpecV Try.prog p3v [.int .i64 u1, .int .i64 u2] m1 (fun v _ _ => v = .int .i64 r)) {r : Int × Int × Int × List Int} (hm : fiduciallaw44_filled p0_0 p0_1 p0_2 p0_3 p1 p2 p3 = some r) :
    Go.E.Spec Try.prog 39 [.agg #[.int .i64 p0_0, .int .i64 p0_1, .int .i64 p0_2, .slice a_p0_3 q_p0_3 c_p0_3], .int .i64 p1, .int .i64 p2, p3v] m (fun v _ L => fiduciallaw44_filled_Q r v L) := by
  refine Spec_enter Try.func39 rfl rfl rfl (fun w0 => ?_)
  refine WK.sub (e' := [(0, .agg #[.int .i64 p0_0, .int .i64 p0_1, .int .i64 p0_2, .slice a_p0_3 q_p0_3 c_p0_3]), (1, .int .i64 p1), (2, .int .i64 p2), (3, p3v)]) ⟨rfl, rfl, rfl, rfl, trivial⟩ ?_
  obtain rfl := SlR.qlen h_p0_3
  refine WK.sub (e' := [(0, .agg #[.int .i64 p0_0, .int .i64 p0_1, .int .i64 p0_2, .slice a_p0_3 p0_3.length c_p0_3]), (1, .int .i64 p1), (2, .int .i64 p2), (3, p3v)]) ⟨rfl, rfl, rfl, rfl, trivial⟩ ?_
  unfold fiduciallaw44_filled at hm
  refine WK_seq ?_
  refine WK_region ?_
  refine WO_box [.int .i64 p0_0, .int .i64 p0_1, .int .i64 p0_2, .slice a_p0_3 p0_3.length c_p0_3] rfl rfl trivial rfl rfl rfl (fun b2 => ?_)
  refine WO.cls (C' := St w0 m m [[⟨b2, 24, [.int .i64 p0_0, .int .i64 p0_1, .int .i64 p0_2, .slice a_p0_3 p0_3.length c_p0_3]⟩]]) (fun _ h => h) ?_
  refine WO_alloc tbok [.int .i64 0, .int .i64 0, .int .i64 0, .slice none 0 0] rfl rfl trivial rfl rfl rfl rfl (fun b3 => ?_)
  refine WO.cls (C' := St w0 m m [[⟨b2, 24, [.int .i64 p0_0, .int .i64 p0_1, .int .i64 p0_2, .slice a_p0_3 p0_3.length c_p0_3]⟩], [⟨b3, 39, [.int .i64 0, .int .i64 0, .int .i64 0, .slice none 0 0]⟩]]) (fun _ h => h) ?_
  refine WO_end ?_
  refine WK_seq ?_
  refine WK_region ?_
  refine WO_pure tbok 1 [(1, .int .i64 p1), (2, .int .i64 p2), (3, p3v), (4, .pointer (some ⟨b2, 0, none⟩)), (8, .pointer (some ⟨b3, 0, none⟩)), (13, .pointer (some ⟨b2, 0, none⟩))] rfl ⟨rfl, rfl, rfl, rfl, rfl, rfl, trivial⟩ ?_
  refine WO_loadB tbok 0 rfl rfl rfl rfl (fun _ h => h) rfl rfl ?_
  refine WO_pure tbok 1 [(1, .int .i64 p1), (2, .int .i64 p2), (3, p3v), (4, .pointer (some ⟨b2, 0, none⟩)), (8, .pointer (some ⟨b3, 0, none⟩)), (14, .int .i64 p0_0), (15, .pointer (some ⟨b2, 1, none⟩))] rfl ⟨rfl, rfl, rfl, rfl, rfl, rfl, rfl, trivial⟩ ?_
  refine WO_loadB tbok 0 rfl rfl rfl rfl (fun _ h => h) rfl rfl ?_
  refine WO_pure tbok 2 [(1, .int .i64 p1), (2, .int .i64 p2), (3, p3v), (4, .pointer (some ⟨b2, 0, none⟩)), (8, .pointer (some ⟨b3, 0, none⟩)), (18, .agg #[.int .i64 p0_0, .int .i64 p0_1, .int .i64 p1, .slice none 0 0])] rfl ⟨rfl, rfl, rfl, rfl, rfl, rfl, trivial⟩ ?_
  refine WO_alloc tbok [.int .i64 0, .int .i64 0, .int .i64 0, .slice none 0 0] rfl rfl trivial rfl rfl rfl rfl (fun b4 => ?_)
  refine WO.cls (C' := St w0 m m [[⟨b2, 24, [.int .i64 p0_0, .int .i64 p0_1, .int .i64 p0_2, .slice a_p0_3 p0_3.length c_p0_3]⟩], [⟨b3, 39, [.int .i64 0, .int .i64 0, .int .i64 0, .slice none 0 0]⟩], [⟨b4, 39, [.int .i64 0, .int .i64 0, .int .i64 0, .slice none 0 0]⟩]]) (fun _ h => h) ?_
  refine WO_storeB tbok 2 [.int .i64 p0_0, .int .i64 p0_1, .int .i64 p1, .slice none 0 0] rfl rfl rfl rfl rfl rfl rfl ?_
  refine WO.cls (C' := St w0 m m [[⟨b2, 24, [.int .i64 p0_0, .int .i64 p0_1, .int .i64 p0_2, .slice a_p0_3 p0_3.length c_p0_3]⟩], [⟨b3, 39, [.int .i64 0, .int .i64 0, .int .i64 0, .slice none 0 0]⟩], [⟨b4, 39, [.int .i64 p0_0, .int .i64 p0_1, .int .i64 p1, .slice none 0 0]⟩]]) (fun _ h => h) ?_
  refine WO_end ?_
  refine WK_seq ?_
  refine WK_seq ?_
  refine WK_region ?_
  refine WO_pure tbok 1 [(1, .int .i64 p1), (2, .int .i64 p2), (3, p3v), (4, .pointer (some ⟨b2, 0, none⟩)), (8, .pointer (some ⟨b3, 0, none⟩)), (9, .pointer (some ⟨b4, 0, none⟩)), (19, .pointer (some ⟨b2, 3, none⟩))] rfl ⟨rfl, rfl, rfl, rfl, rfl, rfl, rfl, trivial⟩ ?_
  refine WO_loadB tbok 0 rfl rfl rfl rfl (fun _ h => h) rfl rfl ?_
  refine WO_pure tbok 2 [(1, .int .i64 p1), (2, .int .i64 p2), (3, p3v), (4, .pointer (some ⟨b2, 0, none⟩)), (8, .pointer (some ⟨b3, 0, none⟩)), (9, .pointer (some ⟨b4, 0, none⟩)), (21, .int .i64 (p0_3.length : Int)), (22, .int .i64 0)] rfl ⟨rfl, rfl, rfl, rfl, rfl, rfl, rfl, rfl, trivial⟩ ?_
  refine WO_end ?_
  refine WK_pad ?_
  obtain ⟨x16, hx17, hm⟩ := bind_some hm
  refine WK_join (β := (List Int) × (Option Addr × Nat × Nat × List Ent)) (fun p => p.1 = x16 ∧ OwnE 3 1 (I1 .i64) (.slice p.2.1 p.2.2.1 p.2.2.2.1) p.1 p.2.2.2.2) (fun p => [(8, .pointer (some ⟨b3, 0, none⟩)), (9, .pointer (some ⟨b4, 0, none⟩))]) (fun p => St w0 m m [[⟨b2, 24, [.int .i64 p0_0, .int .i64 p0_1, .int .i64 p0_2, .slice a_p0_3 p0_3.length c_p0_3]⟩], [⟨b3, 39, [.int .i64 0, .int .i64 0, .int .i64 0, .slice none 0 0]⟩], [⟨b4, 39, [.int .i64 p0_0, .int .i64 p0_1, .int .i64 p1, .slice p.2.1 p.2.2.1 p.2.2.2.1]⟩], p.2.2.2.2]) ?_ (fun hk18 => ?_)
  · rintro ⟨l_3, ⟨a13, q14, c15, L12⟩⟩ ⟨hq24, hL12⟩
    subst hq24
    have hqq : q14 = l_3.length := OwnE.qlen hL12
    subst hqq
    refine WK.sub (e' := [(8, .pointer (some ⟨b3, 0, none⟩)), (9, .pointer (some ⟨b4, 0, none⟩))]) ⟨rfl, rfl, trivial⟩ (WK.cls (C' := St w0 m m [[⟨b2, 24, [.int .i64 p0_0, .int .i64 p0_1, .int .i64 p0_2, .slice a_p0_3 p0_3.length c_p0_3]⟩], [⟨b3, 39, [.int .i64 0, .int .i64 0, .int .i64 0, .slice none 0 0]⟩], [⟨b4, 39, [.int .i64 p0_0, .int .i64 p0_1, .int .i64 p1, .slice a13 ((l_3).length) c15]⟩], L12]) (fun _ h => h) ?_)
    refine WK_seq ?_
    refine WK_region ?_
    refine WO_loadB tbok 2 rfl rfl rfl rfl (fun _ h => h) rfl rfl ?_
    refine WO_storeB tbok 1 [.int .i64 p0_0, .int .i64 p0_1, .int .i64 p1, .slice a13 ((l_3).length) c15] rfl rfl rfl rfl rfl rfl rfl ?_
    refine WO.cls (C' := St w0 m m [[⟨b2, 24, [.int .i64 p0_0, .int .i64 p0_1, .int .i64 p0_2, .slice a_p0_3 p0_3.length c_p0_3]⟩], [⟨b3, 39, [.int .i64 p0_0, .int .i64 p0_1, .int .i64 p1, .slice a13 ((l_3).length) c15]⟩], [⟨b4, 39, [.int .i64 p0_0, .int .i64 p0_1, .int .i64 p1, .slice a13 ((l_3).length) c15]⟩], L12]) (fun _ h => h) ?_
    refine WO_end ?_
    cases hm
    exact WK_ret (ret_out (L := L12) (RLc_cell tbok 1 rfl rfl rfl RLc_nil) (seg_sub 3 rfl) ⟨a13, _, c15, rfl, hL12⟩)
  · refine WK_block ?_
    refine WK_loop (S := List Int × Int) (G := Option Addr × Nat × Nat × List Ent) (fun s => fiduciallaw44_filled_s1 p0_0 p0_3 p1 p2 p3 s.1 s.2) (fun s g => [(1, .int .i64 p1), (2, .int .i64 p2), (3, p3v), (4, .pointer (some ⟨b2, 0, none⟩)), (8, .pointer (some ⟨b3, 0, none⟩)), (9, .pointer (some ⟨b4, 0, none⟩)), (21, .int .i64 (p0_3.length : Int)), (22, .int .i64 s.2)]) (fun s g => St w0 m m [[⟨b2, 24, [.int .i64 p0_0, .int .i64 p0_1, .int .i64 p0_2, .slice a_p0_3 p0_3.length c_p0_3]⟩], [⟨b3, 39, [.int .i64 0, .int .i64 0, .int .i64 0, .slice none 0 0]⟩], [⟨b4, 39, [.int .i64 p0_0, .int .i64 p0_1, .int .i64 p1, .slice g.1 g.2.1 g.2.2.1]⟩], g.2.2.2]) (fun s g => OwnE 3 1 (I1 .i64) (.slice g.1 g.2.1 g.2.2.1) s.1 g.2.2.2) FUEL (([] : List Int), 0) (none, 0, 0, []) x16 hx17 (OwnE.nil (T := 3) (k := 1) (E := (I1 .i64)) none) ⟨rfl, rfl, rfl, rfl, rfl, rfl, rfl, rfl, trivial⟩ (fun _ h => h) ?_
    rintro ⟨l_1, s_2⟩ ⟨a8, q9, c10, L7⟩ o20 fl21 hm19 hL7 hn22 hd23
    have hm19 : fiduciallaw44_filled_s1 p0_0 p0_3 p1 p2 p3 l_1 s_2 = some o20 := hm19
    unfold fiduciallaw44_filled_s1 at hm19
    have hqq : q9 = l_1.length := OwnE.qlen hL7
    subst hqq
    refine WK.sub (e' := [(1, .int .i64 p1), (2, .int .i64 p2), (3, p3v), (4, .pointer (some ⟨b2, 0, none⟩)), (8, .pointer (some ⟨b3, 0, none⟩)), (9, .pointer (some ⟨b4, 0, none⟩)), (21, .int .i64 (p0_3.length : Int)), (22, .int .i64 s_2)]) ⟨rfl, rfl, rfl, rfl, rfl, rfl, rfl, rfl, trivial⟩ (WK.cls (C' := St w0 m m [[⟨b2, 24, [.int .i64 p0_0, .int .i64 p0_1, .int .i64 p0_2, .slice a_p0_3 p0_3.length c_p0_3]⟩], [⟨b3, 39, [.int .i64 0, .int .i64 0, .int .i64 0, .slice none 0 0]⟩], [⟨b4, 39, [.int .i64 p0_0, .int .i64 p0_1, .int .i64 p1, .slice a8 ((l_1).length) c10]⟩], L7]) (fun _ h => h) ?_)
    refine WK_seq ?_
    refine WK_region ?_
    refine WO_pure tbok 1 [(1, .int .i64 p1), (2, .int .i64 p2), (3, p3v), (4, .pointer (some ⟨b2, 0, none⟩)), (8, .pointer (some ⟨b3, 0, none⟩)), (9, .pointer (some ⟨b4, 0, none⟩)), (21, .int .i64 (p0_3.length : Int)), (22, .int .i64 s_2), (23, .bool (decide (s_2 < (p0_3.length : Int))))] rfl ⟨rfl, rfl, rfl, rfl, rfl, rfl, rfl, rfl, rfl, trivial⟩ ?_
    refine WO_end ?_
    refine WK_seq ?_
    refine WK_cond (b := decide (s_2 < (p0_3.length : Int))) rfl (fun hb25 => ?_) (fun hb25 => ?_)
    · have hm19 := ifT hb25 hm19
      refine WK_skip ?_
      refine WK_seq ?_
      refine WK_block ?_
      refine WK_seq ?_
      refine WK_region ?_
      refine WO_pure tbok 2 [(1, .int .i64 p1), (2, .int .i64 p2), (3, p3v), (4, .pointer (some ⟨b2, 0, none⟩)), (8, .pointer (some ⟨b3, 0, none⟩)), (9, .pointer (some ⟨b4, 0, none⟩)), (10, .int .i64 s_2), (21, .int .i64 (p0_3.length : Int)), (22, .int .i64 s_2)] rfl ⟨rfl, rfl, rfl, rfl, rfl, rfl, rfl, rfl, rfl, trivial⟩ ?_
      refine WO_end ?_
      refine WK_seq ?_
      refine WK_region ?_
      refine WO_pure tbok 2 [(1, .int .i64 p1), (2, .int .i64 p2), (3, p3v), (4, .pointer (some ⟨b2, 0, none⟩)), (8, .pointer (some ⟨b3, 0, none⟩)), (9, .pointer (some ⟨b4, 0, none⟩)), (10, .int .i64 s_2), (21, .int .i64 (p0_3.length : Int)), (22, .int .i64 s_2), (25, .int .i64 p1), (26, .int .i64 0)] rfl ⟨rfl, rfl, rfl, rfl, rfl, rfl, rfl, rfl, rfl, rfl, rfl, trivial⟩ ?_
      refine WO_end ?_
      obtain ⟨x36, hx37, hm19⟩ := bind_some hm19
      refine WK_join (β := (List Int) × (Option Addr × Nat × Nat × List Ent)) (fun p => p.1 = x36 ∧ OwnE 3 1 (I1 .i64) (.slice p.2.1 p.2.2.1 p.2.2.2.1) p.1 p.2.2.2.2) (fun p => [(1, .int .i64 p1), (2, .int .i64 p2), (3, p3v), (4, .pointer (some ⟨b2, 0, none⟩)), (8, .pointer (some ⟨b3, 0, none⟩)), (9, .pointer (some ⟨b4, 0, none⟩)), (21, .int .i64 (p0_3.length : Int)), (22, .int .i64 s_2)]) (fun p => St w0 m m [[⟨b2, 24, [.int .i64 p0_0, .int .i64 p0_1, .int .i64 p0_2, .slice a_p0_3 p0_3.length c_p0_3]⟩], [⟨b3, 39, [.int .i64 0, .int .i64 0, .int .i64 0, .slice none 0 0]⟩], [⟨b4, 39, [.int .i64 p0_0, .int .i64 p0_1, .int .i64 p1, .slice p.2.1 p.2.2.1 p.2.2.2.1]⟩], p.2.2.2.2]) ?_ (fun hk38 => ?_)
      · rintro ⟨l_6, ⟨a33, q34, c35, L32⟩⟩ ⟨hq44, hL32⟩
        subst hq44
        have hqq : q34 = l_6.length := OwnE.qlen hL32
        subst hqq
        refine WK.sub (e' := [(1, .int .i64 p1), (2, .int .i64 p2), (3, p3v), (4, .pointer (some ⟨b2, 0, none⟩)), (8, .pointer (some ⟨b3, 0, none⟩)), (9, .pointer (some ⟨b4, 0, none⟩)), (21, .int .i64 (p0_3.length : Int)), (22, .int .i64 s_2)]) ⟨rfl, rfl, rfl, rfl, rfl, rfl, rfl, rfl, trivial⟩ (WK.cls (C' := St w0 m m [[⟨b2, 24, [.int .i64 p0_0, .int .i64 p0_1, .int .i64 p0_2, .slice a_p0_3 p0_3.length c_p0_3]⟩], [⟨b3, 39, [.int .i64 0, .int .i64 0, .int .i64 0, .slice none 0 0]⟩], [⟨b4, 39, [.int .i64 p0_0, .int .i64 p0_1, .int .i64 p1, .slice a33 ((l_6).length) c35]⟩], L32]) (fun _ h => h) ?_)
        refine WK_blk ?_
        refine WK_region ?_
        refine WO_pure tbok 2 [(1, .int .i64 p1), (2, .int .i64 p2), (3, p3v), (4, .pointer (some ⟨b2, 0, none⟩)), (8, .pointer (some ⟨b3, 0, none⟩)), (9, .pointer (some ⟨b4, 0, none⟩)), (21, .int .i64 (p0_3.length : Int)), (22, .int .i64 (w64 (s_2 + 1)))] rfl ⟨rfl, rfl, rfl, rfl, rfl, rfl, rfl, rfl, trivial⟩ ?_
        refine WO_end ?_
        cases hm19
        refine WK.sub ?_ (WK.cls (fun _ h => h) (hn22 _ (a33, _, c35, L32) rfl hL32))
        exact ⟨rfl, rfl, rfl, rfl, rfl, rfl, rfl, rfl, trivial⟩
      · refine WK_block ?_
        refine WK_loop (S := List Int × Int) (G := Option Addr × Nat × Nat × List Ent) (fun s => fiduciallaw44_filled_s2 p0_0 p1 p2 p3 s_2 s.1 s.2) (fun s g => [(1, .int .i64 p1), (2, .int .i64 p2), (3, p3v), (4, .pointer (some ⟨b2, 0, none⟩)), (8, .pointer (some ⟨b3, 0, none⟩)), (9, .pointer (some ⟨b4, 0, none⟩)), (10, .int .i64 s_2), (21, .int .i64 (p0_3.length : Int)), (22, .int .i64 s_2), (25, .int .i64 p1), (26, .int .i64 s.2)]) (fun s g => St w0 m m [[⟨b2, 24, [.int .i64 p0_0, .int .i64 p0_1, .int .i64 p0_2, .slice a_p0_3 p0_3.length c_p0_3]⟩], [⟨b3, 39, [.int .i64 0, .int .i64 0, .int .i64 0, .slice none 0 0]⟩], [⟨b4, 39, [.int .i64 p0_0, .int .i64 p0_1, .int .i64 p1, .slice g.1 g.2.1 g.2.2.1]⟩], g.2.2.2]) (fun s g => OwnE 3 1 (I1 .i64) (.slice g.1 g.2.1 g.2.2.1) s.1 g.2.2.2) FUEL (l_1, 0) (a8, _, c10, L7) x36 hx37 hL7 ⟨rfl, rfl, rfl, rfl, rfl, rfl, rfl, rfl, rfl, rfl, rfl, trivial⟩ (fun _ h => h) ?_
        rintro ⟨l_4, s_5⟩ ⟨a28, q29, c30, L27⟩ o40 fl41 hm39 hL27 hn42 hd43
        have hm39 : fiduciallaw44_filled_s2 p0_0 p1 p2 p3 s_2 l_4 s_5 = some o40 := hm39
        unfold fiduciallaw44_filled_s2 at hm39
        have hqq : q29 = l_4.length := OwnE.qlen hL27
        subst hqq
        refine WK.sub (e' := [(1, .int .i64 p1), (2, .int .i64 p2), (3, p3v), (4, .pointer (some ⟨b2, 0, none⟩)), (8, .pointer (some ⟨b3, 0, none⟩)), (9, .pointer (some ⟨b4, 0, none⟩)), (10, .int .i64 s_2), (21, .int .i64 (p0_3.length : Int)), (22, .int .i64 s_2), (25, .int .i64 p1), (26, .int .i64 s_5)]) ⟨rfl, rfl, rfl, rfl, rfl, rfl, rfl, rfl, rfl, rfl, rfl, trivial⟩ (WK.cls (C' := St w0 m m [[⟨b2, 24, [.int .i64 p0_0, .int .i64 p0_1, .int .i64 p0_2, .slice a_p0_3 p0_3.length c_p0_3]⟩], [⟨b3, 39, [.int .i64 0, .int .i64 0, .int .i64 0, .slice none 0 0]⟩], [⟨b4, 39, [.int .i64 p0_0, .int .i64 p0_1, .int .i64 p1, .slice a28 ((l_4).length) c30]⟩], L27]) (fun _ h => h) ?_)
        refine WK_seq ?_
        refine WK_region ?_
        refine WO_pure tbok 1 [(1, .int .i64 p1), (2, .int .i64 p2), (3, p3v), (4, .pointer (some ⟨b2, 0, none⟩)), (8, .pointer (some ⟨b3, 0, none⟩)), (9, .pointer (some ⟨b4, 0, none⟩)), (10, .int .i64 s_2), (21, .int .i64 (p0_3.length : Int)), (22, .int .i64 s_2), (25, .int .i64 p1), (26, .int .i64 s_5), (27, .bool (decide (s_5 < p1)))] rfl ⟨rfl, rfl, rfl, rfl, rfl, rfl, rfl, rfl, rfl, rfl, rfl, rfl, trivial⟩ ?_
        refine WO_end ?_
        refine WK_seq ?_
        refine WK_cond (b := decide (s_5 < p1)) rfl (fun hb45 => ?_) (fun hb45 => ?_)
        · have hm39 := ifT hb45 hm39
          refine WK_skip ?_
          refine WK_seq ?_
          refine WK_block ?_
          refine WK_seq ?_
          refine WK_region ?_
          refine WO_pure tbok 2 [(1, .int .i64 p1), (2, .int .i64 p2), (3, p3v), (4, .pointer (some ⟨b2, 0, none⟩)), (8, .pointer (some ⟨b3, 0, none⟩)), (9, .pointer (some ⟨b4, 0, none⟩)), (10, .int .i64 s_2), (11, .int .i64 s_5), (21, .int .i64 (p0_3.length : Int)), (22, .int .i64 s_2), (25, .int .i64 p1), (26, .int .i64 s_5)] rfl ⟨rfl, rfl, rfl, rfl, rfl, rfl, rfl, rfl, rfl, rfl, rfl, rfl, trivial⟩ ?_
          refine WO_end ?_
          refine WK_seq ?_
          refine WK_region ?_
          refine WO_pure tbok 2 [(1, .int .i64 p1), (2, .int .i64 p2), (3, p3v), (4, .pointer (some ⟨b2, 0, none⟩)), (8, .pointer (some ⟨b3, 0, none⟩)), (9, .pointer (some ⟨b4, 0, none⟩)), (10, .int .i64 s_2), (11, .int .i64 s_5), (12, .int .i64 p2), (21, .int .i64 (p0_3.length : Int)), (22, .int .i64 s_2), (25, .int .i64 p1), (26, .int .i64 s_5)] rfl ⟨rfl, rfl, rfl, rfl, rfl, rfl, rfl, rfl, rfl, rfl, rfl, rfl, rfl, trivial⟩ ?_
          refine WO_end ?_
          refine WK_seq ?_
          refine WK_seq ?_
          refine WK_region ?_
          refine WO_pure tbok 2 [(1, .int .i64 p1), (2, .int .i64 p2), (3, p3v), (4, .pointer (some ⟨b2, 0, none⟩)), (8, .pointer (some ⟨b3, 0, none⟩)), (9, .pointer (some ⟨b4, 0, none⟩)), (10, .int .i64 s_2), (11, .int .i64 s_5), (12, .int .i64 p2), (21, .int .i64 (p0_3.length : Int)), (22, .int .i64 s_2), (25, .int .i64 p1), (26, .int .i64 s_5), (30, .int .i64 s_2), (31, .pointer (some ⟨b2, 0, none⟩))] rfl ⟨rfl, rfl, rfl, rfl, rfl, rfl, rfl, rfl, rfl, rfl, rfl, rfl, rfl, rfl, rfl, trivial⟩ ?_
          refine WO_loadB tbok 0 rfl rfl rfl rfl (fun _ h => h) rfl rfl ?_
          obtain ⟨hc46, hm39⟩ := chk_some hm39
          refine WO_rem rfl rfl rfl rfl rfl hc46 ?_
          refine WO_pure tbok 2 [(1, .int .i64 p1), (2, .int .i64 p2), (3, p3v), (4, .pointer (some ⟨b2, 0, none⟩)), (8, .pointer (some ⟨b3, 0, none⟩)), (9, .pointer (some ⟨b4, 0, none⟩)), (10, .int .i64 s_2), (11, .int .i64 s_5), (12, .int .i64 p2), (21, .int .i64 (p0_3.length : Int)), (22, .int .i64 s_2), (25, .int .i64 p1), (26, .int .i64 s_5), (35, .bool (decide (s_5 ≤ (Int.tmod s_2 p0_0))))] rfl ⟨rfl, rfl, rfl, rfl, rfl, rfl, rfl, rfl, rfl, rfl, rfl, rfl, rfl, rfl, trivial⟩ ?_
          refine WO_end ?_
          obtain ⟨s_7, hx47, hm39⟩ := bind_some hm39
          refine WK_meet [(1, .int .i64 p1), (2, .int .i64 p2), (3, p3v), (4, .pointer (some ⟨b2, 0, none⟩)), (8, .pointer (some ⟨b3, 0, none⟩)), (9, .pointer (some ⟨b4, 0, none⟩)), (10, .int .i64 s_2), (12, .int .i64 s_7), (21, .int .i64 (p0_3.length : Int)), (22, .int .i64 s_2), (25, .int .i64 p1), (26, .int .i64 s_5)] (St w0 m m [[⟨b2, 24, [.int .i64 p0_0, .int .i64 p0_1, .int .i64 p0_2, .slice a_p0_3 p0_3.length c_p0_3]⟩], [⟨b3, 39, [.int .i64 0, .int .i64 0, .int .i64 0, .slice none 0 0]⟩], [⟨b4, 39, [.int .i64 p0_0, .int .i64 p0_1, .int .i64 p1, .slice a28 ((l_4).length) c30]⟩], L27]) ?_ (fun hk48 => ?_)
          · refine WK_region ?_
            refine WO_pure tbok 1 [(1, .int .i64 p1), (2, .int .i64 p2), (3, p3v), (4, .pointer (some ⟨b2, 0, none⟩)), (8, .pointer (some ⟨b3, 0, none⟩)), (9, .pointer (some ⟨b4, 0, none⟩)), (10, .int .i64 s_2), (12, .int .i64 s_7), (21, .int .i64 (p0_3.length : Int)), (22, .int .i64 s_2), (25, .int .i64 p1), (26, .int .i64 s_5), (42, .pointer (some ⟨b4, 3, none⟩))] rfl ⟨rfl, rfl, rfl, rfl, rfl, rfl, rfl, rfl, rfl, rfl, rfl, rfl, rfl, trivial⟩ ?_
            refine WO_loadB tbok 2 rfl rfl rfl rfl (fun _ h => h) rfl rfl ?_
            refine WO_pure tbok 1 [(1, .int .i64 p1), (2, .int .i64 p2), (3, p3v), (4, .pointer (some ⟨b2, 0, none⟩)), (8, .pointer (some ⟨b3, 0, none⟩)), (9, .pointer (some ⟨b4, 0, none⟩)), (10, .int .i64 s_2), (21, .int .i64 (p0_3.length : Int)), (22, .int .i64 s_2), (25, .int .i64 p1), (26, .int .i64 s_5), (43, .slice a28 ((l_4).length) c30), (44, .int .i64 s_7)] rfl ⟨rfl, rfl, rfl, rfl, rfl, rfl, rfl, rfl, rfl, rfl, rfl, rfl, rfl, trivial⟩ ?_
            refine WO_bslice (E := (I1 .i64)) tbok (fun _ => rfl) (by decide) [.int .i64 s_7] ([s_7] : List Int) rfl rfl trivial rfl rfl rfl rfl rfl rfl rfl rfl rfl rfl rfl rfl (fun b49 hb49 => ?_)
            refine WO.cls (C' := St w0 m m [[⟨b2, 24, [.int .i64 p0_0, .int .i64 p0_1, .int .i64 p0_2, .slice a_p0_3 p0_3.length c_p0_3]⟩], [⟨b3, 39, [.int .i64 0, .int .i64 0, .int .i64 0, .slice none 0 0]⟩], [⟨b4, 39, [.int .i64 p0_0, .int .i64 p0_1, .int .i64 p1, .slice a28 ((l_4).length) c30]⟩], L27, [⟨b49, 3, ([s_7] : List Int).flatMap (I1 .i64)⟩]]) (fun _ h => h) ?_
            obtain ⟨hc51, hm39⟩ := chk_some hm39
            refine WO_append (E := (I1 .i64)) tbok (fun _ => rfl) 3 ([s_7] : List Int) (fun _ _ => rfl) rfl rfl rfl rfl rfl rfl rfl rfl rfl rfl rfl rfl hL27 rfl (src_seg (j := 4) rfl) (ap_ok (by decide) hc51) (ap_max hc51) (fun a52 c53 L54 hL54 => ?_)
            refine WO.cls (C' := St w0 m m [[⟨b2, 24, [.int .i64 p0_0, .int .i64 p0_1, .int .i64 p0_2, .slice a_p0_3 p0_3.length c_p0_3]⟩], [⟨b3, 39, [.int .i64 0, .int .i64 0, .int .i64 0, .slice none 0 0]⟩], [⟨b4, 39, [.int .i64 p0_0, .int .i64 p0_1, .int .i64 p1, .slice a28 ((l_4).length) c30]⟩], L54, [⟨b49, 3, ([s_7] : List Int).flatMap (I1 .i64)⟩]]) (fun _ h => h) ?_
            refine WO_pure tbok 1 [(1, .int .i64 p1), (2, .int .i64 p2), (3, p3v), (4, .pointer (some ⟨b2, 0, none⟩)), (8, .pointer (some ⟨b3, 0, none⟩)), (9, .pointer (some ⟨b4, 0, none⟩)), (10, .int .i64 s_2), (21, .int .i64 (p0_3.length : Int)), (22, .int .i64 s_2), (25, .int .i64 p1), (26, .int .i64 s_5), (46, .slice a52 ((l_4 ++ ([s_7] : List Int)).length) c53), (47, .pointer (some ⟨b4, 3, none⟩))] rfl ⟨rfl, rfl, rfl, rfl, rfl, rfl, rfl, rfl, rfl, rfl, rfl, rfl, rfl, trivial⟩ ?_
            refine WO_storeB tbok 2 [.int .i64 p0_0, .int .i64 p0_1, .int .i64 p1, .slice a52 ((l_4 ++ ([s_7] : List Int)).length) c53] rfl rfl rfl rfl rfl rfl rfl ?_
            refine WO.cls (C' := St w0 m m [[⟨b2, 24, [.int .i64 p0_0, .int .i64 p0_1, .int .i64 p0_2, .slice a_p0_3 p0_3.length c_p0_3]⟩], [⟨b3, 39, [.int .i64 0, .int .i64 0, .int .i64 0, .slice none 0 0]⟩], [⟨b4, 39, [.int .i64 p0_0, .int .i64 p0_1, .int .i64 p1, .slice a52 ((l_4 ++ ([s_7] : List Int)).length) c53]⟩], L54, [⟨b49, 3, ([s_7] : List Int).flatMap (I1 .i64)⟩]]) (fun _ h => h) ?_
            refine WO_end ?_
            refine WK_blk ?_
            refine WK_region ?_
            refine WO_pure tbok 2 [(1, .int .i64 p1), (2, .int .i64 p2), (3, p3v), (4, .pointer (some ⟨b2, 0, none⟩)), (8, .pointer (some ⟨b3, 0, none⟩)), (9, .pointer (some ⟨b4, 0, none⟩)), (10, .int .i64 s_2), (21, .int .i64 (p0_3.length : Int)), (22, .int .i64 s_2), (25, .int .i64 p1), (26, .int .i64 (w64 (s_5 + 1)))] rfl ⟨rfl, rfl, rfl, rfl, rfl, rfl, rfl, rfl, rfl, rfl, rfl, trivial⟩ ?_
            refine WO_end ?_
            cases hm39
            refine WK.sub ?_ (WK.cls (fun _ h => St.take 4 h) (hn42 _ (a52, (l_4 ++ ([s_7] : List Int)).length, c53, L54) rfl hL54))
            exact ⟨rfl, rfl, rfl, rfl, rfl, rfl, rfl, rfl, rfl, rfl, rfl, trivial⟩
          · refine WK_cond (b := decide (s_5 ≤ (Int.tmod s_2 p0_0))) rfl (fun hb56 => ?_) (fun hb56 => ?_)
            · have hx47 := ifT hb56 hx47
              refine WK_region ?_
              refine WO_pure tbok 5 [(1, .int .i64 p1), (2, .int .i64 p2), (3, p3v), (4, .pointer (some ⟨b2, 0, none⟩)), (8, .pointer (some ⟨b3, 0, none⟩)), (9, .pointer (some ⟨b4, 0, none⟩)), (10, .int .i64 s_2), (12, .int .i64 p2), (21, .int .i64 (p0_3.length : Int)), (22, .int .i64 s_2), (25, .int .i64 p1), (26, .int .i64 s_5), (36, p3v), (37, .int .i64 s_2), (40, .int .i64 (w64 (s_2 - s_5)))] rfl ⟨rfl, rfl, rfl, rfl, rfl, rfl, rfl, rfl, rfl, rfl, rfl, rfl, rfl, rfl, rfl, trivial⟩ ?_
              obtain ⟨y_8, hc57, hx47⟩ := bind_some hx47
              obtain ⟨f0, first0, cap0, hf0, hcal0, hsp0⟩ := hp3 _ (Le.refl _) s_2 (w64 (s_2 - s_5)) _ hc57
              refine WO_call0 (.int .i64 y_8) rfl rfl trivial rfl rfl rfl rfl St_closed ⟨f0, first0, cap0, hf0, hcal0, fun w hw => ⟨m, hw.sat, hsp0⟩⟩ ?_
              refine WO_pure tbok 1 [(1, .int .i64 p1), (2, .int .i64 p2), (3, p3v), (4, .pointer (some ⟨b2, 0, none⟩)), (8, .pointer (some ⟨b3, 0, none⟩)), (9, .pointer (some ⟨b4, 0, none⟩)), (10, .int .i64 s_2), (12, .int .i64 y_8), (21, .int .i64 (p0_3.length : Int)), (22, .int .i64 s_2), (25, .int .i64 p1), (26, .int .i64 s_5)] rfl ⟨rfl, rfl, rfl, rfl, rfl, rfl, rfl, rfl, rfl, rfl, rfl, rfl, trivial⟩ ?_
              refine WO_end ?_
              cases hx47
              refine WK.sub ?_ (WK.cls (fun _ h => h) hk48)
              exact ⟨rfl, rfl, rfl, rfl, rfl, rfl, rfl, rfl, rfl, rfl, rfl, rfl, trivial⟩
            · have hx47 := ifF hb56 hx47
              refine WK_skip ?_
              cases hx47
              refine WK.sub ?_ (WK.cls (fun _ h => h) hk48)
              exact ⟨rfl, rfl, rfl, rfl, rfl, rfl, rfl, rfl, rfl, rfl, rfl, rfl, trivial⟩
        · have hm39 := ifF hb45 hm39
          refine WK_exit rfl ?_
          cases hm39
          refine WK.sub ?_ (WK.cls (fun _ h => h) (hk38 (l_4, (a28, _, c30, L27)) ⟨(hd43 _ rfl), hL27⟩))
          exact ⟨rfl, rfl, rfl, rfl, rfl, rfl, rfl, rfl, trivial⟩
    · have hm19 := ifF hb25 hm19
      refine WK_exit rfl ?_
      cases hm19
      refine WK.sub ?_ (WK.cls (fun _ h => h) (hk18 (l_1, (a8, _, c10, L7)) ⟨(hd23 _ rfl), hL7⟩))
      exact ⟨rfl, rfl, trivial⟩
theorem fiduciallaw44_byGrey_c1_walk {m : Mu} {p0 : Int} {p1 : Int} {q0_0 : Int} {q0_1 : Int} {q0_2 : Int} {q0_3 : List Int} {q1_0 : Int} {q1_1 : Int} {q1_2 : Int} {q1_3 : List Int} {a_q0_3 : Option Addr} {q_q0_3 c_q0_3 : Nat} {b_q0 : Nat} {a_q1_3 : Option Addr} {q_q1_3 c_q1_3 : Nat} {b_q1 : Nat} (hb_q0 : m b_q0 = some (Ent.obj ⟨b_q0, 24, [.int .i64 q0_0, .int .i64 q0_1, .int .i64 q0_2, .slice a_q0_3 q_q0_3 c_q0_3]⟩)) (h_q0_3 : SlR (FE (I1 .i64)) 1 m (.slice a_q0_3 q_q0_3 c_q0_3) q0_3) (hb_q1 : m b_q1 = some (Ent.obj ⟨b_q1, 24, [.int .i64 q1_0, .int .i64 q1_1, .int .i64 q1_2, .slice a_q1_3 q_q1_3 c_q1_3]⟩)) (h_q1_3 : SlR (FE (I1 .i64)) 1 m (.slice a_q1_3 q_q1_3 c_q1_3) q1_3) {r : Int} (hm : fiduciallaw44_byGrey_c1 p0 p1 q0_0 q0_1 q0_2 q0_3 q1_0 q1_1 q1_2 q1_3 = some r) :
    Go.E.Spec Try.prog 40 [.int .i64 p0, .int .i64 p1, .pointer (some ⟨b_q0, 0, none⟩), .pointer (some ⟨b_q1, 0, none⟩)] m (fun v _ _ => v = .int .i64 r) := by
  refine Spec_enter Try.func40 rfl rfl rfl (fun w0 => ?_)
  refine WK.sub (e' := [(0, .int .i64 p0), (1, .int .i64 p1), (2, .pointer (some ⟨b_q0, 0, none⟩)), (3, .pointer (some ⟨b_q1, 0, none⟩))]) ⟨rfl, rfl, rfl, rfl, trivial⟩ ?_
  obtain rfl := SlR.qlen h_q0_3
  obtain rfl := SlR.qlen h_q1_3
  refine WK.sub (e' := [(0, .int .i64 p0), (1, .int .i64 p1), (2, .pointer (some ⟨b_q0, 0, none⟩)), (3, .pointer (some ⟨b_q1, 0, none⟩))]) ⟨rfl, rfl, rfl, rfl, trivial⟩ ?_
  unfold fiduciallaw44_byGrey_c1 at hm
  refine WK_seq ?_
  refine WK_region ?_
  refine WO_pure tbok 1 [(0, .int .i64 p0), (1, .int .i64 p1), (2, .pointer (some ⟨b_q0, 0, none⟩)), (3, .pointer (some ⟨b_q1, 0, none⟩)), (6, .int .i64 0)] rfl ⟨rfl, rfl, rfl, rfl, rfl, trivial⟩ ?_
  refine WO_end ?_
  refine WK_seq ?_
  refine WK_draw 24 [0, 1, 2, 3, 4, 5, 6, 7, 8, 9, 10, 11, 12, 13, 14, 15, 16, 17, 18, 19, 20, 21, 22, 23] follows_ok (by kernel_rfl) St_closed ?_
  refine WO_pure tbok 1 [(0, .int .i64 p0), (1, .int .i64 p1), (2, .pointer (some ⟨b_q0, 0, none⟩)), (3, .pointer (some ⟨b_q1, 0, none⟩)), (6, .int .i64 0), (7, .pointer (some ⟨b_q0, 3, none⟩))] rfl ⟨rfl, rfl, rfl, rfl, rfl, rfl, trivial⟩ ?_
  refine WO_loadM tbok rfl rfl rfl rfl (fun _ h => St.sat h) hb_q0 rfl ?_
  refine WO_pure tbok 1 [(0, .int .i64 p0), (1, .int .i64 p1), (2, .pointer (some ⟨b_q0, 0, none⟩)), (3, .pointer (some ⟨b_q1, 0, none⟩)), (6, .int .i64 0), (8, .slice a_q0_3 q0_3.length c_q0_3), (9, .int .i64 p0)] rfl ⟨rfl, rfl, rfl, rfl, rfl, rfl, rfl, trivial⟩ ?_
  obtain ⟨v_1, hy3, hm⟩ := bind_some hm
  obtain ⟨hc4, hy3⟩ := ix_some hy3
  refine WO_index tbok rfl rfl rfl rfl rfl rfl rfl rfl (SlR.addr h_q0_3) hc4 ?_
  refine WO_loadE tbok rfl rfl rfl rfl (fun _ h => St.sat h) h_q0_3 hy3 rfl ?_
  refine WO_pure tbok 1 [(0, .int .i64 p0), (1, .int .i64 p1), (2, .pointer (some ⟨b_q0, 0, none⟩)), (3, .pointer (some ⟨b_q1, 0, none⟩)), (6, .int .i64 0), (11, .int .i64 v_1), (12, .pointer (some ⟨b_q1, 3, none⟩))] rfl ⟨rfl, rfl, rfl, rfl, rfl, rfl, rfl, trivial⟩ ?_
  refine WO_loadM tbok rfl rfl rfl rfl (fun _ h => St.sat h) hb_q1 rfl ?_
  refine WO_pure tbok 1 [(0, .int .i64 p0), (1, .int .i64 p1), (2, .pointer (some ⟨b_q0, 0, none⟩)), (3, .pointer (some ⟨b_q1, 0, none⟩)), (6, .int .i64 0), (11, .int .i64 v_1), (13, .slice a_q1_3 q1_3.length c_q1_3), (14, .int .i64 p1)] rfl ⟨rfl, rfl, rfl, rfl, rfl, rfl, rfl, rfl, trivial⟩ ?_
  obtain ⟨v_2, hy5, hm⟩ := bind_some hm
  obtain ⟨hc6, hy5⟩ := ix_some hy5
  refine WO_index tbok rfl rfl rfl rfl rfl rfl rfl rfl (SlR.addr h_q1_3) hc6 ?_
  refine WO_loadE tbok rfl rfl rfl rfl (fun _ h => St.sat h) h_q1_3 hy5 rfl ?_
  refine WO_pure tbok 2 [(0, .int .i64 p0), (1, .int .i64 p1), (2, .pointer (some ⟨b_q0, 0, none⟩)), (6, .int .i64 0), (17, .int .i64 (w64 (v_1 - v_2))), (18, .pointer (some ⟨b_q1, 3, none⟩))] rfl ⟨rfl, rfl, rfl, rfl, rfl, rfl, trivial⟩ ?_
  refine WO_loadM tbok rfl rfl rfl rfl (fun _ h => St.sat h) hb_q1 rfl ?_
  refine WO_pure tbok 1 [(0, .int .i64 p0), (2, .pointer (some ⟨b_q0, 0, none⟩)), (6, .int .i64 0), (17, .int .i64 (w64 (v_1 - v_2))), (19, .slice a_q1_3 q1_3.length c_q1_3), (20, .int .i64 p1)] rfl ⟨rfl, rfl, rfl, rfl, rfl, rfl, trivial⟩ ?_
  obtain ⟨v_3, hy7, hm⟩ := bind_some hm
  obtain ⟨hc8, hy7⟩ := ix_some hy7
  refine WO_index tbok rfl rfl rfl rfl rfl rfl rfl rfl (SlR.addr h_q1_3) hc8 ?_
  refine WO_loadE tbok rfl rfl rfl rfl (fun _ h => St.sat h) h_q1_3 hy7 rfl ?_
  refine WO_pure tbok 1 [(0, .int .i64 p0), (6, .int .i64 0), (17, .int .i64 (w64 (v_1 - v_2))), (22, .int .i64 v_3), (23, .pointer (some ⟨b_q0, 3, none⟩))] rfl ⟨rfl, rfl, rfl, rfl, rfl, trivial⟩ ?_
  refine WO_loadM tbok rfl rfl rfl rfl (fun _ h => St.sat h) hb_q0 rfl ?_
  refine WO_pure tbok 1 [(6, .int .i64 0), (17, .int .i64 (w64 (v_1 - v_2))), (22, .int .i64 v_3), (24, .slice a_q0_3 q0_3.length c_q0_3), (25, .int .i64 p0)] rfl ⟨rfl, rfl, rfl, rfl, rfl, trivial⟩ ?_
  obtain ⟨v_4, hy9, hm⟩ := bind_some hm
  obtain ⟨hc10, hy9⟩ := ix_some hy9
  refine WO_index tbok rfl rfl rfl rfl rfl rfl rfl rfl (SlR.addr h_q0_3) hc10 ?_
  refine WO_loadE tbok rfl rfl rfl rfl (fun _ h => St.sat h) h_q0_3 hy9 rfl ?_
  refine WO_pure tbok 3 [(6, .int .i64 (if (w64 (v_1 - v_2)) < (w64 (v_3 - v_4)) then (w64 (v_3 - v_4)) else (w64 (v_1 - v_2))))] rfl ⟨rfl, trivial⟩ ?_
  refine WO_tail ?_
  refine WO_end ?_
  cases hm
  exact WK_ret (ret_out (L := []) (RLc_tmp rfl RLc_nil) (List.nil_sublist _) rfl)
def fiduciallaw44_byGrey_Q (r : Int × Int × Int × List Int × Int) : Value → List Ent → Prop := fun v L => ∃ (a0 : Option Addr) (q0 c0 : Nat), v = .tuple #[.agg #[.int .i64 r.1, .int .i64 r.2.1, .int .i64 r.2.2.1, .slice a0 q0 c0], .int .i64 r.2.2.2.2] ∧ OwnE 3 1 (I1 .i64) (.slice a0 q0 c0) r.2.2.2.1 L
theorem fiduciallaw44_byGrey_walk {m : Mu} {p0_0 : Int} {p0_1 : Int} {p0_2 : Int} {p0_3 : List Int} {p1_0 : Int} {p1_1 : Int} {p1_2 : Int} {p1_3 : List Int} {p2 : Int} {a_p0_3 : Option Addr} {q_p0_3 c_p0_3 : Nat} {a_p1_3 : Option Addr} {q_p1_3 c_p1_3 : Nat} (h_p0_3 : SlR (FE (I1 .i64)) 1 m (.slice a_p0_3 q_p0_3 c_p0_3) p0_3) (h_p1_3 : SlR (FE (I1 .i64)) 1 m (.slice a_p1_3 q_p1_3 c_p1_3) p1_3) {r : Int × Int × Int × List Int × Int} (hm : fiduciallaw44_byGrey p0_0 p0_1 p0_2 p0_3 p1_0 p1_1 p1_2 p1_3 p2 = some r) :
    Go.E.Spec Try.prog 19 [.agg #[.int .i64 p0_0, .int .i64 p0_1, .int .i64 p0_2, .slice a_p0_3 q_p0_3 c_p0_3], .agg #[.int .i64 p1_0, .int .i64 p1_1, .int .i64 p1_2, .slice a_p1_3 q_p1_3 c_p1_3], .int .i64 p2] m (fun v _ L => fiduciallaw44_byGrey_Q r v L) := by
  refine Spec_enter Try.func19 rfl rfl rfl (fun w0 => ?_)
  refine WK.sub (e' := [(0, .agg #[.int .i64 p0_0, .int .i64 p0_1, .int .i64 p0_2, .slice a_p0_3 q_p0_3 c_p0_3]), (1, .agg #[.int .i64 p1_0, .int .i64 p1_1, .int .i64 p1_2, .slice a_p1_3 q_p1_3 c_p1_3]), (2, .int .i64 p2)]) ⟨rfl, rfl, rfl, trivial⟩ ?_
  obtain rfl := SlR.qlen h_p0_3
  obtain rfl := SlR.qlen h_p1_3
  refine WK.sub (e' := [(0, .agg #[.int .i64 p0_0, .int .i64 p0_1, .int .i64 p0_2, .slice a_p0_3 p0_3.length c_p0_3]), (1, .agg #[.int .i64 p1_0, .int .i64 p1_1, .int .i64 p1_2, .slice a_p1_3 p1_3.length c_p1_3]), (2, .int .i64 p2)]) ⟨rfl, rfl, rfl, trivial⟩ ?_
  unfold fiduciallaw44_byGrey at hm
  refine WK_seq ?_
  refine WK_region ?_
  refine WO_box [.int .i64 p0_0, .int .i64 p0_1, .int .i64 p0_2, .slice a_p0_3 p0_3.length c_p0_3] rfl rfl trivial rfl rfl rfl (fun b3 => ?_)
  refine WO.cls (C' := St w0 m m [[⟨b3, 24, [.int .i64 p0_0, .int .i64 p0_1, .int .i64 p0_2, .slice a_p0_3 p0_3.length c_p0_3]⟩]]) (fun _ h => h) ?_
  refine WO_box [.int .i64 p1_0, .int .i64 p1_1, .int .i64 p1_2, .slice a_p1_3 p1_3.length c_p1_3] rfl rfl trivial rfl rfl rfl (fun b4 => ?_)
  refine WO.cls (C' := St w0 m m [[⟨b3, 24, [.int .i64 p0_0, .int .i64 p0_1, .int .i64 p0_2, .slice a_p0_3 p0_3.length c_p0_3]⟩], [⟨b4, 24, [.int .i64 p1_0, .int .i64 p1_1, .int .i64 p1_2, .slice a_p1_3 p1_3.length c_p1_3]⟩]]) (fun _ h => h) ?_
  refine WO_alloc tbok [.int .i64 0, .int .i64 0, .int .i64 0, .slice none 0 0] rfl rfl trivial rfl rfl rfl rfl (fun b5 => ?_)
  refine WO.cls (C' := St w0 m m [[⟨b3, 24, [.int .i64 p0_0, .int .i64 p0_1, .int .i64 p0_2, .slice a_p0_3 p0_3.length c_p0_3]⟩], [⟨b4, 24, [.int .i64 p1_0, .int .i64 p1_1, .int .i64 p1_2, .slice a_p1_3 p1_3.length c_p1_3]⟩], [⟨b5, 39, [.int .i64 0, .int .i64 0, .int .i64 0, .slice none 0 0]⟩]]) (fun _ h => h) ?_
  refine WO_pure tbok 1 [(2, .int .i64 p2), (3, .pointer (some ⟨b3, 0, none⟩)), (4, .pointer (some ⟨b4, 0, none⟩)), (6, .pointer (some ⟨b5, 0, none⟩)), (7, .int .i64 0)] rfl ⟨rfl, rfl, rfl, rfl, rfl, trivial⟩ ?_
  refine WO_end ?_
  refine WK_seq ?_
  refine WK_seq ?_
  refine WK_region ?_
  refine WO_loadB tbok 0 rfl rfl rfl rfl (fun _ h => h) rfl rfl ?_
  refine WO_loadB tbok 1 rfl rfl rfl rfl (fun _ h => h) rfl rfl ?_
  obtain ⟨y_1, hc6, hm⟩ := bind_some hm
  refine WO_call0 (.int .i64 y_1) rfl rfl trivial rfl rfl rfl rfl St_closed ⟨24, #[], #[], rfl, callable_24, fun w hw => ⟨_, hw.sat, fiduciallaw44_both_walk h_p0_3 h_p1_3 hc6⟩⟩ ?_
  refine WO_pure tbok 1 [(2, .int .i64 p2), (3, .pointer (some ⟨b3, 0, none⟩)), (4, .pointer (some ⟨b4, 0, none⟩)), (6, .pointer (some ⟨b5, 0, none⟩)), (7, .int .i64 0), (8, .int .i64 y_1)] rfl ⟨rfl, rfl, rfl, rfl, rfl, rfl, trivial⟩ ?_
  refine WO_end ?_
  refine WK_seq ?_
  refine WK_region ?_
  refine WO_pure tbok 2 [(2, .int .i64 p2), (3, .pointer (some ⟨b3, 0, none⟩)), (4, .pointer (some ⟨b4, 0, none⟩)), (6, .pointer (some ⟨b5, 0, none⟩)), (7, .int .i64 0), (8, .int .i64 y_1), (13, .bool (y_1 != 0))] rfl ⟨rfl, rfl, rfl, rfl, rfl, rfl, rfl, trivial⟩ ?_
  refine WO_end ?_
  refine WK_cond (b := y_1 != 0) rfl (fun hb7 => ?_) (fun hb7 => ?_)
  · have hm := ifT hb7 hm
    refine WK_seq ?_
    refine WK_region ?_
    refine WO_pure tbok 2 [(2, .int .i64 p2), (3, .pointer (some ⟨b3, 0, none⟩)), (4, .pointer (some ⟨b4, 0, none⟩)), (6, .pointer (some ⟨b5, 0, none⟩)), (7, .int .i64 0), (14, .agg #[.int .i64 0, .int .i64 0, .int .i64 0, .slice none 0 0]), (15, .int .i64 y_1)] rfl ⟨rfl, rfl, rfl, rfl, rfl, rfl, rfl, trivial⟩ ?_
    refine WO_storeB tbok 2 [.int .i64 0, .int .i64 0, .int .i64 0, .slice none 0 0] rfl rfl rfl rfl rfl rfl rfl ?_
    refine WO.cls (C' := St w0 m m [[⟨b3, 24, [.int .i64 p0_0, .int .i64 p0_1, .int .i64 p0_2, .slice a_p0_3 p0_3.length c_p0_3]⟩], [⟨b4, 24, [.int .i64 p1_0, .int .i64 p1_1, .int .i64 p1_2, .slice a_p1_3 p1_3.length c_p1_3]⟩], [⟨b5, 39, [.int .i64 0, .int .i64 0, .int .i64 0, .slice none 0 0]⟩]]) (fun _ h => h) ?_
    refine WO_pure tbok 1 [(2, .int .i64 p2), (3, .pointer (some ⟨b3, 0, none⟩)), (4, .pointer (some ⟨b4, 0, none⟩)), (6, .pointer (some ⟨b5, 0, none⟩)), (7, .int .i64 y_1)] rfl ⟨rfl, rfl, rfl, rfl, rfl, trivial⟩ ?_
    refine WO_end ?_
    cases hm
    exact WK_ret (ret_out (L := []) (RLc_cell tbok 2 rfl rfl rfl (RLc_tmp rfl RLc_nil)) (List.nil_sublist _) ⟨none, 0, 0, rfl, (OwnE.nil none)⟩)
  · have hm := ifF hb7 hm
    refine WK_skip ?_
    refine WK_seq ?_
    refine WK_seq ?_
    obtain ⟨s_2, hx8, hm⟩ := bind_some hm
    refine WK_meet [(2, .int .i64 p2), (3, .pointer (some ⟨b3, 0, none⟩)), (4, .pointer (some ⟨b4, 0, none⟩)), (6, .pointer (some ⟨b5, 0, none⟩)), (7, .int .i64 0), (21, .bool s_2)] (St w0 m m [[⟨b3, 24, [.int .i64 p0_0, .int .i64 p0_1, .int .i64 p0_2, .slice a_p0_3 p0_3.length c_p0_3]⟩], [⟨b4, 24, [.int .i64 p1_0, .int .i64 p1_1, .int .i64 p1_2, .slice a_p1_3 p1_3.length c_p1_3]⟩], [⟨b5, 39, [.int .i64 0, .int .i64 0, .int .i64 0, .slice none 0 0]⟩]]) ?_ (fun hk9 => ?_)
    · refine WK_cond (b := s_2) rfl (fun hb10 => ?_) (fun hb10 => ?_)
      · have hm := ifT hb10 hm
        refine WK_seq ?_
        refine WK_region ?_
        refine WO_pure tbok 1 [(2, .int .i64 p2), (3, .pointer (some ⟨b3, 0, none⟩)), (4, .pointer (some ⟨b4, 0, none⟩)), (6, .pointer (some ⟨b5, 0, none⟩)), (7, .int .i64 0), (22, .agg #[.int .i64 0, .int .i64 0, .int .i64 0, .slice none 0 0])] rfl ⟨rfl, rfl, rfl, rfl, rfl, rfl, trivial⟩ ?_
        refine WO_storeB tbok 2 [.int .i64 0, .int .i64 0, .int .i64 0, .slice none 0 0] rfl rfl rfl rfl rfl rfl rfl ?_
        refine WO.cls (C' := St w0 m m [[⟨b3, 24, [.int .i64 p0_0, .int .i64 p0_1, .int .i64 p0_2, .slice a_p0_3 p0_3.length c_p0_3]⟩], [⟨b4, 24, [.int .i64 p1_0, .int .i64 p1_1, .int .i64 p1_2, .slice a_p1_3 p1_3.length c_p1_3]⟩], [⟨b5, 39, [.int .i64 0, .int .i64 0, .int .i64 0, .slice none 0 0]⟩]]) (fun _ h => h) ?_
        refine WO_pure tbok 1 [(2, .int .i64 p2), (3, .pointer (some ⟨b3, 0, none⟩)), (4, .pointer (some ⟨b4, 0, none⟩)), (6, .pointer (some ⟨b5, 0, none⟩)), (7, .int .i64 2)] rfl ⟨rfl, rfl, rfl, rfl, rfl, trivial⟩ ?_
        refine WO_end ?_
        cases hm
        exact WK_ret (ret_out (L := []) (RLc_cell tbok 2 rfl rfl rfl (RLc_tmp rfl RLc_nil)) (List.nil_sublist _) ⟨none, 0, 0, rfl, (OwnE.nil none)⟩)
      · have hm := ifF hb10 hm
        refine WK_skip ?_
        refine WK_seq ?_
        refine WK_region ?_
        refine WO_loadB tbok 0 rfl rfl rfl rfl (fun _ h => h) rfl rfl ?_
        refine WO_pure tbok 2 [(3, .pointer (some ⟨b3, 0, none⟩)), (4, .pointer (some ⟨b4, 0, none⟩)), (6, .pointer (some ⟨b5, 0, none⟩)), (7, .int .i64 0), (23, .agg #[.int .i64 p0_0, .int .i64 p0_1, .int .i64 p0_2, .slice a_p0_3 p0_3.length c_p0_3]), (24, .int .i64 p2), (25, .pointer (some ⟨b3, 2, none⟩))] rfl ⟨rfl, rfl, rfl, rfl, rfl, rfl, rfl, trivial⟩ ?_
        refine WO_loadB tbok 0 rfl rfl rfl rfl (fun _ h => h) rfl rfl ?_
        refine WO_pure tbok 2 [(6, .pointer (some ⟨b5, 0, none⟩)), (7, .int .i64 0), (23, .agg #[.int .i64 p0_0, .int .i64 p0_1, .int .i64 p0_2, .slice a_p0_3 p0_3.length c_p0_3]), (24, .int .i64 p2), (27, .int .i64 (w64 (p0_2 + 1))), (28, .func (.func 40) #[] #[.pointer (some ⟨b3, 0, none⟩), .pointer (some ⟨b4, 0, none⟩)])] rfl ⟨rfl, rfl, rfl, rfl, rfl, rfl, trivial⟩ ?_
        obtain ⟨⟨y_5, y_6, y_7, y_8⟩, hc11, hm⟩ := bind_some hm
        refine WO_call1 (fiduciallaw44_filled_Q (y_5, y_6, y_7, y_8)) rfl rfl trivial rfl rfl rfl rfl ⟨39, #[], #[], rfl, callable_39, fun w hw => ⟨_, hw.satV, fiduciallaw44_filled_walk (h_p0_3.mono (mono_FE _) hw.leV) (fun m1 hm1 z_3 z_4 _ h => specV_cap callable_40 (fiduciallaw44_byGrey_c1_walk (hm1 _ _ (hw.memV (i := 0) rfl (List.mem_singleton.2 rfl))) ((h_p0_3.mono (mono_FE _) hw.leV).mono (mono_FE _) hm1) (hm1 _ _ (hw.memV (i := 1) rfl (List.mem_singleton.2 rfl))) ((h_p1_3.mono (mono_FE _) hw.leV).mono (mono_FE _) hm1) h)) hc11⟩⟩ (fun v16 L15 hq => ?_)
        obtain ⟨a12, qa12, c13, rfl, hL15⟩ := hq
        obtain rfl := OwnE.qlen hL15
        refine WO.cls (C' := St w0 m m [[⟨b3, 24, [.int .i64 p0_0, .int .i64 p0_1, .int .i64 p0_2, .slice a_p0_3 p0_3.length c_p0_3]⟩], [⟨b4, 24, [.int .i64 p1_0, .int .i64 p1_1, .int .i64 p1_2, .slice a_p1_3 p1_3.length c_p1_3]⟩], [⟨b5, 39, [.int .i64 0, .int .i64 0, .int .i64 0, .slice none 0 0]⟩], L15]) (fun _ h => h) ?_
        refine WO_storeB tbok 2 [.int .i64 y_5, .int .i64 y_6, .int .i64 y_7, .slice a12 ((y_8).length) c13] rfl rfl rfl rfl rfl rfl rfl ?_
        refine WO.cls (C' := St w0 m m [[⟨b3, 24, [.int .i64 p0_0, .int .i64 p0_1, .int .i64 p0_2, .slice a_p0_3 p0_3.length c_p0_3]⟩], [⟨b4, 24, [.int .i64 p1_0, .int .i64 p1_1, .int .i64 p1_2, .slice a_p1_3 p1_3.length c_p1_3]⟩], [⟨b5, 39, [.int .i64 y_5, .int .i64 y_6, .int .i64 y_7, .slice a12 ((y_8).length) c13]⟩], L15]) (fun _ h => h) ?_
        refine WO_pure tbok 1 [(6, .pointer (some ⟨b5, 0, none⟩)), (7, .int .i64 0)] rfl ⟨rfl, rfl, trivial⟩ ?_
        refine WO_end ?_
        cases hm
        exact WK_ret (ret_out (L := L15) (RLc_cell tbok 2 rfl rfl rfl (RLc_tmp rfl RLc_nil)) (seg_sub 3 rfl) ⟨a12, _, c13, rfl, hL15⟩)
    · refine WK_region ?_
      refine WO_pure tbok 3 [(2, .int .i64 p2), (3, .pointer (some ⟨b3, 0, none⟩)), (4, .pointer (some ⟨b4, 0, none⟩)), (6, .pointer (some ⟨b5, 0, none⟩)), (7, .int .i64 0), (18, .bool (decide (p2 < 1)))] rfl ⟨rfl, rfl, rfl, rfl, rfl, rfl, trivial⟩ ?_
      refine WO_split (d := 18) (b := decide (p2 < 1)) rfl (fun hb17 => ?_) (fun hb17 => ?_)
      · have hx8 := ifT hb17 hx8
        refine WO_pure tbok 3 [(2, .int .i64 p2), (3, .pointer (some ⟨b3, 0, none⟩)), (4, .pointer (some ⟨b4, 0, none⟩)), (6, .pointer (some ⟨b5, 0, none⟩)), (7, .int .i64 0), (21, .bool true)] rfl ⟨rfl, rfl, rfl, rfl, rfl, rfl, trivial⟩ ?_
        refine WO_end ?_
        cases hx8
        refine WK.sub ?_ (WK.cls (fun _ h => h) hk9)
        exact ⟨rfl, rfl, rfl, rfl, rfl, rfl, trivial⟩
      · have hx8 := ifF hb17 hx8
        refine WO_pure tbok 3 [(2, .int .i64 p2), (3, .pointer (some ⟨b3, 0, none⟩)), (4, .pointer (some ⟨b4, 0, none⟩)), (6, .pointer (some ⟨b5, 0, none⟩)), (7, .int .i64 0), (21, .bool (decide (64 < p2)))] rfl ⟨rfl, rfl, rfl, rfl, rfl, rfl, trivial⟩ ?_
        refine WO_end ?_
        cases hx8
        refine WK.sub ?_ (WK.cls (fun _ h => h) hk9)
        exact ⟨rfl, rfl, rfl, rfl, rfl, rfl, trivial⟩
theorem fiduciallaw44_same_walk {m : Mu} {p0_0 : Int} {p0_1 : Int} {p0_2 : Int} {p0_3 : List Int} {p1_0 : Int} {p1_1 : Int} {p1_2 : Int} {p1_3 : List Int} {a_p0_3 : Option Addr} {q_p0_3 c_p0_3 : Nat} {a_p1_3 : Option Addr} {q_p1_3 c_p1_3 : Nat} (h_p0_3 : SlR (FE (I1 .i64)) 1 m (.slice a_p0_3 q_p0_3 c_p0_3) p0_3) (h_p1_3 : SlR (FE (I1 .i64)) 1 m (.slice a_p1_3 q_p1_3 c_p1_3) p1_3) {r : Bool} (hm : fiduciallaw44_same p0_0 p0_1 p0_2 p0_3 p1_0 p1_1 p1_2 p1_3 = some r) :
    Go.E.Spec Try.prog 20 [.agg #[.int .i64 p0_0, .int .i64 p0_1, .int .i64 p0_2, .slice a_p0_3 q_p0_3 c_p0_3], .agg #[.int .i64 p1_0, .int .i64 p1_1, .int .i64 p1_2, .slice a_p1_3 q_p1_3 c_p1_3]] m (fun v _ _ => v = .bool r) := by
  refine Spec_enter Try.func20 rfl rfl rfl (fun w0 => ?_)
  refine WK.sub (e' := [(0, .agg #[.int .i64 p0_0, .int .i64 p0_1, .int .i64 p0_2, .slice a_p0_3 q_p0_3 c_p0_3]), (1, .agg #[.int .i64 p1_0, .int .i64 p1_1, .int .i64 p1_2, .slice a_p1_3 q_p1_3 c_p1_3])]) ⟨rfl, rfl, trivial⟩ ?_
  obtain rfl := SlR.qlen h_p0_3
  obtain rfl := SlR.qlen h_p1_3
  refine WK.sub (e' := [(0, .agg #[.int .i64 p0_0, .int .i64 p0_1, .int .i64 p0_2, .slice a_p0_3 p0_3.length c_p0_3]), (1, .agg #[.int .i64 p1_0, .int .i64 p1_1, .int .i64 p1_2, .slice a_p1_3 p1_3.length c_p1_3])]) ⟨rfl, rfl, trivial⟩ ?_
  unfold fiduciallaw44_same at hm
  refine WK_seq ?_
  refine WK_region ?_
  refine WO_box [.int .i64 p0_0, .int .i64 p0_1, .int .i64 p0_2, .slice a_p0_3 p0_3.length c_p0_3] rfl rfl trivial rfl rfl rfl (fun b3 => ?_)
  refine WO.cls (C' := St w0 m m [[⟨b3, 39, [.int .i64 p0_0, .int .i64 p0_1, .int .i64 p0_2, .slice a_p0_3 p0_3.length c_p0_3]⟩]]) (fun _ h => h) ?_
  refine WO_box [.int .i64 p1_0, .int .i64 p1_1, .int .i64 p1_2, .slice a_p1_3 p1_3.length c_p1_3] rfl rfl trivial rfl rfl rfl (fun b4 => ?_)
  refine WO.cls (C' := St w0 m m [[⟨b3, 39, [.int .i64 p0_0, .int .i64 p0_1, .int .i64 p0_2, .slice a_p0_3 p0_3.length c_p0_3]⟩], [⟨b4, 39, [.int .i64 p1_0, .int .i64 p1_1, .int .i64 p1_2, .slice a_p1_3 p1_3.length c_p1_3]⟩]]) (fun _ h => h) ?_
  refine WO_pure tbok 1 [(2, .pointer (some ⟨b3, 0, none⟩)), (3, .pointer (some ⟨b4, 0, none⟩)), (4, .bool false)] rfl ⟨rfl, rfl, rfl, trivial⟩ ?_
  refine WO_end ?_
  refine WK_seq ?_
  refine WK_region ?_
  refine WO_pure tbok 1 [(2, .pointer (some ⟨b3, 0, none⟩)), (3, .pointer (some ⟨b4, 0, none⟩)), (4, .bool false), (5, .pointer (some ⟨b3, 0, none⟩))] rfl ⟨rfl, rfl, rfl, rfl, trivial⟩ ?_
  refine WO_loadB tbok 0 rfl rfl rfl rfl (fun _ h => h) rfl rfl ?_
  refine WO_pure tbok 1 [(2, .pointer (some ⟨b3, 0, none⟩)), (3, .pointer (some ⟨b4, 0, none⟩)), (4, .bool false), (6, .int .i64 p0_0), (7, .pointer (some ⟨b4, 0, none⟩))] rfl ⟨rfl, rfl, rfl, rfl, rfl, trivial⟩ ?_
  refine WO_loadB tbok 1 rfl rfl rfl rfl (fun _ h => h) rfl rfl ?_
  refine WO_pure tbok 2 [(2, .pointer (some ⟨b3, 0, none⟩)), (3, .pointer (some ⟨b4, 0, none⟩)), (4, .bool false), (10, .bool (p0_0 == p1_0))] rfl ⟨rfl, rfl, rfl, rfl, trivial⟩ ?_
  refine WO_split (d := 10) (b := p0_0 == p1_0) rfl (fun hb5 => ?_) (fun hb5 => ?_)
  · have hm := ifT hb5 hm
    refine WO_pure tbok 1 [(2, .pointer (some ⟨b3, 0, none⟩)), (3, .pointer (some ⟨b4, 0, none⟩)), (4, .bool false), (10, .bool true), (11, .pointer (some ⟨b3, 1, none⟩))] rfl ⟨rfl, rfl, rfl, rfl, rfl, trivial⟩ ?_
    refine WO_loadB tbok 0 rfl rfl rfl rfl (fun _ h => h) rfl rfl ?_
    refine WO_pure tbok 1 [(2, .pointer (some ⟨b3, 0, none⟩)), (3, .pointer (some ⟨b4, 0, none⟩)), (4, .bool false), (10, .bool true), (12, .int .i64 p0_1), (13, .pointer (some ⟨b4, 1, none⟩))] rfl ⟨rfl, rfl, rfl, rfl, rfl, rfl, trivial⟩ ?_
    refine WO_loadB tbok 1 rfl rfl rfl rfl (fun _ h => h) rfl rfl ?_
    refine WO_pure tbok 3 [(2, .pointer (some ⟨b3, 0, none⟩)), (3, .pointer (some ⟨b4, 0, none⟩)), (4, .bool false), (17, .bool (p0_1 == p1_1))] rfl ⟨rfl, rfl, rfl, rfl, trivial⟩ ?_
    refine WO_split (d := 17) (b := p0_1 == p1_1) rfl (fun hb6 => ?_) (fun hb6 => ?_)
    · have hm := ifT hb6 hm
      refine WO_pure tbok 1 [(2, .pointer (some ⟨b3, 0, none⟩)), (3, .pointer (some ⟨b4, 0, none⟩)), (4, .bool false), (17, .bool true), (18, .pointer (some ⟨b3, 2, none⟩))] rfl ⟨rfl, rfl, rfl, rfl, rfl, trivial⟩ ?_
      refine WO_loadB tbok 0 rfl rfl rfl rfl (fun _ h => h) rfl rfl ?_
      refine WO_pure tbok 1 [(2, .pointer (some ⟨b3, 0, none⟩)), (3, .pointer (some ⟨b4, 0, none⟩)), (4, .bool false), (17, .bool true), (19, .int .i64 p0_2), (20, .pointer (some ⟨b4, 2, none⟩))] rfl ⟨rfl, rfl, rfl, rfl, rfl, rfl, trivial⟩ ?_
      refine WO_loadB tbok 1 rfl rfl rfl rfl (fun _ h => h) rfl rfl ?_
      refine WO_pure tbok 3 [(2, .pointer (some ⟨b3, 0, none⟩)), (3, .pointer (some ⟨b4, 0, none⟩)), (4, .bool false), (24, .bool (p0_2 == p1_2))] rfl ⟨rfl, rfl, rfl, rfl, trivial⟩ ?_
      refine WO_split (d := 24) (b := p0_2 == p1_2) rfl (fun hb7 => ?_) (fun hb7 => ?_)
      · have hm := ifT hb7 hm
        refine WO_pure tbok 1 [(3, .pointer (some ⟨b4, 0, none⟩)), (4, .bool false), (24, .bool true), (25, .pointer (some ⟨b3, 3, none⟩))] rfl ⟨rfl, rfl, rfl, rfl, trivial⟩ ?_
        refine WO_loadB tbok 0 rfl rfl rfl rfl (fun _ h => h) rfl rfl ?_
        refine WO_pure tbok 1 [(4, .bool false), (24, .bool true), (26, .slice a_p0_3 p0_3.length c_p0_3), (27, .pointer (some ⟨b4, 3, none⟩))] rfl ⟨rfl, rfl, rfl, rfl, trivial⟩ ?_
        refine WO_loadB tbok 1 rfl rfl rfl rfl (fun _ h => h) rfl rfl ?_
        obtain ⟨y_1, hc8, hm⟩ := bind_some hm
        refine WO_call0 (.bool y_1) rfl rfl trivial rfl rfl rfl rfl St_closed ⟨15, #[], #[], rfl, callable_15, fun w hw => ⟨_, hw.sat, slices_Equal_sint_walk h_p0_3 h_p1_3 hc8⟩⟩ ?_
        refine WO_pure tbok 2 [(4, .bool y_1)] rfl ⟨rfl, trivial⟩ ?_
        refine WO_end ?_
        cases hm
        exact WK_ret (ret_out (L := []) (RLc_tmp rfl RLc_nil) (List.nil_sublist _) rfl)
      · have hm := ifF hb7 hm
        refine WO_pure tbok 4 [(4, .bool false), (24, .bool false)] rfl ⟨rfl, rfl, trivial⟩ ?_
        refine WO_skip rfl rfl ?_
        refine WO_pure tbok 2 [(4, .bool false)] rfl ⟨rfl, trivial⟩ ?_
        refine WO_end ?_
        cases hm
        exact WK_ret (ret_out (L := []) (RLc_tmp rfl RLc_nil) (List.nil_sublist _) rfl)
    · have hm := ifF hb6 hm
      refine WO_pure tbok 11 [(4, .bool false), (24, .bool false)] rfl ⟨rfl, rfl, trivial⟩ ?_
      refine WO_skip rfl rfl ?_
      refine WO_pure tbok 2 [(4, .bool false)] rfl ⟨rfl, trivial⟩ ?_
      refine WO_end ?_
      cases hm
      exact WK_ret (ret_out (L := []) (RLc_tmp rfl RLc_nil) (List.nil_sublist _) rfl)
  · have hm := ifF hb5 hm
    refine WO_pure tbok 18 [(4, .bool false), (24, .bool false)] rfl ⟨rfl, rfl, trivial⟩ ?_
    refine WO_skip rfl rfl ?_
    refine WO_pure tbok 2 [(4, .bool false)] rfl ⟨rfl, trivial⟩ ?_
    refine WO_end ?_
    cases hm
    exact WK_ret (ret_out (L := []) (RLc_tmp rfl RLc_nil) (List.nil_sublist _) rfl)
theorem fiduciallaw44_CensusPlain_walk {m : Mu} {p0_0 : Int} {p0_1 : Int} {p0_2 : Int} {p0_3 : List Int} {p0_4 : Int} {p0_5 : Int} {p0_6 : Int} {p0_7 : List Int} {p1 : Int} {a_p0_3 : Option Addr} {q_p0_3 c_p0_3 : Nat} {a_p0_7 : Option Addr} {q_p0_7 c_p0_7 : Nat} (h_p0_3 : SlR (FE (I1 .i64)) 1 m (.slice a_p0_3 q_p0_3 c_p0_3) p0_3) (h_p0_7 : SlR (FE (I1 .i64)) 1 m (.slice a_p0_7 q_p0_7 c_p0_7) p0_7) {r : Bool} (hm : fiduciallaw44_CensusPlain p0_0 p0_1 p0_2 p0_3 p0_4 p0_5 p0_6 p0_7 p1 = some r) :
    Go.E.Spec Try.prog 4 [.agg #[.int .i64 p0_0, .int .i64 p0_1, .int .i64 p0_2, .slice a_p0_3 q_p0_3 c_p0_3, .int .i64 p0_4, .int .i64 p0_5, .int .i64 p0_6, .slice a_p0_7 q_p0_7 c_p0_7], .int .i64 p1] m (fun v _ _ => v = .bool r) := by
  refine Spec_enter Try.func4 rfl rfl rfl (fun w0 => ?_)
  refine WK.sub (e' := [(0, .agg #[.int .i64 p0_0, .int .i64 p0_1, .int .i64 p0_2, .slice a_p0_3 q_p0_3 c_p0_3, .int .i64 p0_4, .int .i64 p0_5, .int .i64 p0_6, .slice a_p0_7 q_p0_7 c_p0_7]), (1, .int .i64 p1)]) ⟨rfl, rfl, trivial⟩ ?_
  obtain rfl := SlR.qlen h_p0_3
  obtain rfl := SlR.qlen h_p0_7
  refine WK.sub (e' := [(0, .agg #[.int .i64 p0_0, .int .i64 p0_1, .int .i64 p0_2, .slice a_p0_3 p0_3.length c_p0_3, .int .i64 p0_4, .int .i64 p0_5, .int .i64 p0_6, .slice a_p0_7 p0_7.length c_p0_7]), (1, .int .i64 p1)]) ⟨rfl, rfl, trivial⟩ ?_
  unfold fiduciallaw44_CensusPlain at hm
  refine WK_seq ?_
  refine WK_region ?_
  refine WO_box [.int .i64 p0_0, .int .i64 p0_1, .int .i64 p0_2, .slice a_p0_3 p0_3.length c_p0_3, .int .i64 p0_4, .int .i64 p0_5, .int .i64 p0_6, .slice a_p0_7 p0_7.length c_p0_7] rfl rfl trivial rfl rfl rfl (fun b3 => ?_)
  refine WO.cls (C' := St w0 m m [[⟨b3, 37, [.int .i64 p0_0, .int .i64 p0_1, .int .i64 p0_2, .slice a_p0_3 p0_3.length c_p0_3, .int .i64 p0_4, .int .i64 p0_5, .int .i64 p0_6, .slice a_p0_7 p0_7.length c_p0_7]⟩]]) (fun _ h => h) ?_
  refine WO_pure tbok 1 [(1, .int .i64 p1), (2, .pointer (some ⟨b3, 0, none⟩)), (4, .bool false)] rfl ⟨rfl, rfl, rfl, trivial⟩ ?_
  refine WO_end ?_
  refine WK_seq ?_
  refine WK_seq ?_
  refine WK_region ?_
  obtain ⟨y_1, hc4, hm⟩ := bind_some hm
  refine WO_call0 (.bool y_1) rfl rfl trivial rfl rfl rfl rfl St_closed ⟨11, #[], #[], rfl, callable_11, fun w hw => ⟨_, hw.sat, fiduciallaw44_known_walk hc4⟩⟩ ?_
  refine WO_pure tbok 1 [(1, .int .i64 p1), (2, .pointer (some ⟨b3, 0, none⟩)), (4, .bool false), (10, .bool (!y_1))] rfl ⟨rfl, rfl, rfl, rfl, trivial⟩ ?_
  refine WO_end ?_
  refine WK_cond (b := !y_1) rfl (fun hb5 => ?_) (fun hb5 => ?_)
  · have hm := ifT hb5 hm
    refine WK_seq ?_
    refine WK_region ?_
    refine WO_pure tbok 1 [(1, .int .i64 p1), (2, .pointer (some ⟨b3, 0, none⟩)), (4, .bool false)] rfl ⟨rfl, rfl, rfl, trivial⟩ ?_
    refine WO_end ?_
    cases hm
    exact WK_ret (ret_out (L := []) (RLc_tmp rfl RLc_nil) (List.nil_sublist _) rfl)
  · have hm := ifF hb5 hm
    refine WK_skip ?_
    refine WK_seq ?_
    refine WK_seq ?_
    obtain ⟨s_2, hx6, hm⟩ := bind_some hm
    refine WK_meet [(1, .int .i64 p1), (2, .pointer (some ⟨b3, 0, none⟩)), (4, .bool false), (22, .bool s_2)] (St w0 m m [[⟨b3, 37, [.int .i64 p0_0, .int .i64 p0_1, .int .i64 p0_2, .slice a_p0_3 p0_3.length c_p0_3, .int .i64 p0_4, .int .i64 p0_5, .int .i64 p0_6, .slice a_p0_7 p0_7.length c_p0_7]⟩]]) ?_ (fun hk7 => ?_)
    · refine WK_cond (b := s_2) rfl (fun hb8 => ?_) (fun hb8 => ?_)
      · have hm := ifT hb8 hm
        refine WK_seq ?_
        refine WK_region ?_
        refine WO_pure tbok 1 [(1, .int .i64 p1), (2, .pointer (some ⟨b3, 0, none⟩)), (4, .bool true)] rfl ⟨rfl, rfl, rfl, trivial⟩ ?_
        refine WO_end ?_
        cases hm
        exact WK_ret (ret_out (L := []) (RLc_tmp rfl RLc_nil) (List.nil_sublist _) rfl)
      · have hm := ifF hb8 hm
        refine WK_skip ?_
        refine WK_seq ?_
        refine WK_region ?_
        refine WO_pure tbok 1 [(1, .int .i64 p1), (2, .pointer (some ⟨b3, 0, none⟩)), (4, .bool false), (24, .pointer (some ⟨b3, 0, none⟩))] rfl ⟨rfl, rfl, rfl, rfl, trivial⟩ ?_
        refine WO_loadB tbok 0 rfl rfl rfl rfl (fun _ h => h) rfl rfl ?_
        refine WO_pure tbok 1 [(1, .int .i64 p1), (2, .pointer (some ⟨b3, 0, none⟩)), (4, .bool false), (25, .agg #[.int .i64 p0_0, .int .i64 p0_1, .int .i64 p0_2, .slice a_p0_3 p0_3.length c_p0_3]), (26, .pointer (some ⟨b3, 4, none⟩))] rfl ⟨rfl, rfl, rfl, rfl, rfl, trivial⟩ ?_
        refine WO_loadB tbok 0 rfl rfl rfl rfl (fun _ h => h) rfl rfl ?_
        refine WO_pure tbok 1 [(1, .int .i64 p1), (2, .pointer (some ⟨b3, 0, none⟩)), (4, .bool false), (25, .agg #[.int .i64 p0_0, .int .i64 p0_1, .int .i64 p0_2, .slice a_p0_3 p0_3.length c_p0_3]), (27, .agg #[.int .i64 p0_4, .int .i64 p0_5, .int .i64 p0_6, .slice a_p0_7 p0_7.length c_p0_7]), (28, .int .i64 p1)] rfl ⟨rfl, rfl, rfl, rfl, rfl, rfl, trivial⟩ ?_
        obtain ⟨⟨y_3, y_4, y_5, y_6, y_7⟩, hc9, hm⟩ := bind_some hm
        refine WO_call1 (census_Plain_Q (y_3, y_4, y_5, y_6, y_7)) rfl rfl trivial rfl rfl rfl rfl ⟨18, #[], #[], rfl, callable_18, fun w hw => ⟨_, hw.sat, census_Plain_walk h_p0_3 h_p0_7 hc9⟩⟩ (fun v14 L13 hq => ?_)
        obtain ⟨a10, qa10, c11, rfl, hL13⟩ := hq
        obtain rfl := OwnE.qlen hL13
        refine WO.cls (C' := St w0 m m [[⟨b3, 37, [.int .i64 p0_0, .int .i64 p0_1, .int .i64 p0_2, .slice a_p0_3 p0_3.length c_p0_3, .int .i64 p0_4, .int .i64 p0_5, .int .i64 p0_6, .slice a_p0_7 p0_7.length c_p0_7]⟩], L13]) (fun _ h => h) ?_
        refine WO_pure tbok 3 [(1, .int .i64 p1), (2, .pointer (some ⟨b3, 0, none⟩)), (4, .bool false), (30, .agg #[.int .i64 y_3, .int .i64 y_4, .int .i64 y_5, .slice a10 ((y_6).length) c11]), (31, .int .i64 y_7)] rfl ⟨rfl, rfl, rfl, rfl, rfl, trivial⟩ ?_
        refine WO_alloc tbok [.int .i64 0, .int .i64 0, .int .i64 0, .slice none 0 0] rfl rfl trivial rfl rfl rfl rfl (fun b15 => ?_)
        refine WO.cls (C' := St w0 m m [[⟨b3, 37, [.int .i64 p0_0, .int .i64 p0_1, .int .i64 p0_2, .slice a_p0_3 p0_3.length c_p0_3, .int .i64 p0_4, .int .i64 p0_5, .int .i64 p0_6, .slice a_p0_7 p0_7.length c_p0_7]⟩], L13, [⟨b15, 39, [.int .i64 0, .int .i64 0, .int .i64 0, .slice none 0 0]⟩]]) (fun _ h => h) ?_
        refine WO_storeB tbok 2 [.int .i64 y_3, .int .i64 y_4, .int .i64 y_5, .slice a10 ((y_6).length) c11] rfl rfl rfl rfl rfl rfl rfl ?_
        refine WO.cls (C' := St w0 m m [[⟨b3, 37, [.int .i64 p0_0, .int .i64 p0_1, .int .i64 p0_2, .slice a_p0_3 p0_3.length c_p0_3, .int .i64 p0_4, .int .i64 p0_5, .int .i64 p0_6, .slice a_p0_7 p0_7.length c_p0_7]⟩], L13, [⟨b15, 39, [.int .i64 y_3, .int .i64 y_4, .int .i64 y_5, .slice a10 ((y_6).length) c11]⟩]]) (fun _ h => h) ?_
        refine WO_pure tbok 1 [(1, .int .i64 p1), (2, .pointer (some ⟨b3, 0, none⟩)), (4, .bool false), (5, .pointer (some ⟨b15, 0, none⟩)), (6, .int .i64 y_7)] rfl ⟨rfl, rfl, rfl, rfl, rfl, trivial⟩ ?_
        refine WO_end ?_
        refine WK_seq ?_
        refine WK_region ?_
        refine WO_pure tbok 1 [(1, .int .i64 p1), (2, .pointer (some ⟨b3, 0, none⟩)), (4, .bool false), (5, .pointer (some ⟨b15, 0, none⟩)), (6, .int .i64 y_7), (33, .pointer (some ⟨b3, 0, none⟩))] rfl ⟨rfl, rfl, rfl, rfl, rfl, rfl, trivial⟩ ?_
        refine WO_loadB tbok 0 rfl rfl rfl rfl (fun _ h => h) rfl rfl ?_
        refine WO_pure tbok 1 [(1, .int .i64 p1), (4, .bool false), (5, .pointer (some ⟨b15, 0, none⟩)), (6, .int .i64 y_7), (34, .agg #[.int .i64 p0_0, .int .i64 p0_1, .int .i64 p0_2, .slice a_p0_3 p0_3.length c_p0_3]), (35, .pointer (some ⟨b3, 4, none⟩))] rfl ⟨rfl, rfl, rfl, rfl, rfl, rfl, trivial⟩ ?_
        refine WO_loadB tbok 0 rfl rfl rfl rfl (fun _ h => h) rfl rfl ?_
        refine WO_pure tbok 1 [(4, .bool false), (5, .pointer (some ⟨b15, 0, none⟩)), (6, .int .i64 y_7), (34, .agg #[.int .i64 p0_0, .int .i64 p0_1, .int .i64 p0_2, .slice a_p0_3 p0_3.length c_p0_3]), (36, .agg #[.int .i64 p0_4, .int .i64 p0_5, .int .i64 p0_6, .slice a_p0_7 p0_7.length c_p0_7]), (37, .int .i64 p1)] rfl ⟨rfl, rfl, rfl, rfl, rfl, rfl, trivial⟩ ?_
        obtain ⟨⟨y_8, y_9, y_10, y_11, y_12⟩, hc16, hm⟩ := bind_some hm
        refine WO_call1 (fiduciallaw44_byGrey_Q (y_8, y_9, y_10, y_11, y_12)) rfl rfl trivial rfl rfl rfl rfl ⟨19, #[], #[], rfl, callable_19, fun w hw => ⟨_, hw.sat, fiduciallaw44_byGrey_walk h_p0_3 h_p0_7 hc16⟩⟩ (fun v21 L20 hq => ?_)
        obtain ⟨a17, qa17, c18, rfl, hL20⟩ := hq
        obtain rfl := OwnE.qlen hL20
        refine WO.cls (C' := St w0 m m [[⟨b3, 37, [.int .i64 p0_0, .int .i64 p0_1, .int .i64 p0_2, .slice a_p0_3 p0_3.length c_p0_3, .int .i64 p0_4, .int .i64 p0_5, .int .i64 p0_6, .slice a_p0_7 p0_7.length c_p0_7]⟩], L13, [⟨b15, 39, [.int .i64 y_3, .int .i64 y_4, .int .i64 y_5, .slice a10 ((y_6).length) c11]⟩], L20]) (fun _ h => h) ?_
        refine WO_pure tbok 3 [(4, .bool false), (5, .pointer (some ⟨b15, 0, none⟩)), (6, .int .i64 y_7), (39, .agg #[.int .i64 y_8, .int .i64 y_9, .int .i64 y_10, .slice a17 ((y_11).length) c18]), (40, .int .i64 y_12)] rfl ⟨rfl, rfl, rfl, rfl, rfl, trivial⟩ ?_
        refine WO_alloc tbok [.int .i64 0, .int .i64 0, .int .i64 0, .slice none 0 0] rfl rfl trivial rfl rfl rfl rfl (fun b22 => ?_)
        refine WO.cls (C' := St w0 m m [[⟨b3, 37, [.int .i64 p0_0, .int .i64 p0_1, .int .i64 p0_2, .slice a_p0_3 p0_3.length c_p0_3, .int .i64 p0_4, .int .i64 p0_5, .int .i64 p0_6, .slice a_p0_7 p0_7.length c_p0_7]⟩], L13, [⟨b15, 39, [.int .i64 y_3, .int .i64 y_4, .int .i64 y_5, .slice a10 ((y_6).length) c11]⟩], L20, [⟨b22, 39, [.int .i64 0, .int .i64 0, .int .i64 0, .slice none 0 0]⟩]]) (fun _ h => h) ?_
        refine WO_storeB tbok 4 [.int .i64 y_8, .int .i64 y_9, .int .i64 y_10, .slice a17 ((y_11).length) c18] rfl rfl rfl rfl rfl rfl rfl ?_
        refine WO.cls (C' := St w0 m m [[⟨b3, 37, [.int .i64 p0_0, .int .i64 p0_1, .int .i64 p0_2, .slice a_p0_3 p0_3.length c_p0_3, .int .i64 p0_4, .int .i64 p0_5, .int .i64 p0_6, .slice a_p0_7 p0_7.length c_p0_7]⟩], L13, [⟨b15, 39, [.int .i64 y_3, .int .i64 y_4, .int .i64 y_5, .slice a10 ((y_6).length) c11]⟩], L20, [⟨b22, 39, [.int .i64 y_8, .int .i64 y_9, .int .i64 y_10, .slice a17 ((y_11).length) c18]⟩]]) (fun _ h => h) ?_
        refine WO_pure tbok 1 [(4, .bool false), (5, .pointer (some ⟨b15, 0, none⟩)), (6, .int .i64 y_7), (7, .pointer (some ⟨b22, 0, none⟩)), (8, .int .i64 y_12)] rfl ⟨rfl, rfl, rfl, rfl, rfl, trivial⟩ ?_
        refine WO_end ?_
        refine WK_seq ?_
        refine WK_region ?_
        refine WO_pure tbok 4 [(4, .bool false), (5, .pointer (some ⟨b15, 0, none⟩)), (6, .int .i64 y_7), (7, .pointer (some ⟨b22, 0, none⟩)), (44, .bool (y_7 == y_12))] rfl ⟨rfl, rfl, rfl, rfl, rfl, trivial⟩ ?_
        refine WO_split (d := 44) (b := y_7 == y_12) rfl (fun hb23 => ?_) (fun hb23 => ?_)
        · have hm := ifT hb23 hm
          refine WO_loadB tbok 2 rfl rfl rfl rfl (fun _ h => h) rfl rfl ?_
          refine WO_loadB tbok 4 rfl rfl rfl rfl (fun _ h => h) rfl rfl ?_
          obtain ⟨y_13, hc24, hm⟩ := bind_some hm
          refine WO_call0 (.bool y_13) rfl rfl trivial rfl rfl rfl rfl St_closed ⟨20, #[], #[], rfl, callable_20, fun w hw => ⟨_, hw.satV, fiduciallaw44_same_walk (OwnE.rd (E := (I1 .i64)) (k := 1) (fun _ => rfl) hL13 (fun _ hx => hw.memV (i := 1) rfl hx)) (OwnE.rd (E := (I1 .i64)) (k := 1) (fun _ => rfl) hL20 (fun _ hx => hw.memV (i := 3) rfl hx)) hc24⟩⟩ ?_
          refine WO_pure tbok 2 [(4, .bool false), (5, .pointer (some ⟨b15, 0, none⟩)), (6, .int .i64 y_7), (49, .bool y_13)] rfl ⟨rfl, rfl, rfl, rfl, trivial⟩ ?_
          refine WO_split (d := 49) (b := y_13) rfl (fun hb25 => ?_) (fun hb25 => ?_)
          · have hm := ifT hb25 hm
            refine WO_pure tbok 3 [(4, .bool false), (5, .pointer (some ⟨b15, 0, none⟩)), (49, .bool true), (52, .bool (y_7 != 0))] rfl ⟨rfl, rfl, rfl, rfl, trivial⟩ ?_
            refine WO_split (d := 52) (b := y_7 != 0) rfl (fun hb26 => ?_) (fun hb26 => ?_)
            · have hm := ifT hb26 hm
              refine WO_pure tbok 1 [(4, .bool false), (49, .bool true), (52, .bool true)] rfl ⟨rfl, rfl, rfl, trivial⟩ ?_
              refine WO_skip rfl rfl ?_
              refine WO_pure tbok 4 [(4, .bool true)] rfl ⟨rfl, trivial⟩ ?_
              refine WO_end ?_
              cases hm
              exact WK_ret (ret_out (L := []) (RLc_tmp rfl RLc_nil) (List.nil_sublist _) rfl)
            · have hm := ifF hb26 hm
              refine WO_loadB tbok 2 rfl rfl rfl rfl (fun _ h => h) rfl rfl ?_
              obtain ⟨y_14, hc27, hm⟩ := bind_some hm
              refine WO_call0 (.int .i64 y_14) rfl rfl trivial rfl rfl rfl rfl St_closed ⟨21, #[], #[], rfl, callable_21, fun w hw => ⟨_, hw.satV, census_Check_walk (OwnE.rd (E := (I1 .i64)) (k := 1) (fun _ => rfl) hL13 (fun _ hx => hw.memV (i := 1) rfl hx)) hc27⟩⟩ ?_
              refine WO_pure tbok 4 [(4, .bool (y_14 == 0))] rfl ⟨rfl, trivial⟩ ?_
              refine WO_end ?_
              cases hm
              exact WK_ret (ret_out (L := []) (RLc_tmp rfl RLc_nil) (List.nil_sublist _) rfl)
          · have hm := ifF hb25 hm
            refine WO_pure tbok 4 [(4, .bool false), (49, .bool false), (52, undef)] rfl ⟨rfl, rfl, rfl, trivial⟩ ?_
            refine WO_skip rfl rfl ?_
            refine WO_pure tbok 4 [(4, .bool false)] rfl ⟨rfl, trivial⟩ ?_
            refine WO_end ?_
            cases hm
            exact WK_ret (ret_out (L := []) (RLc_tmp rfl RLc_nil) (List.nil_sublist _) rfl)
        · have hm := ifF hb23 hm
          refine WO_pure tbok 2 [(4, .bool false), (5, .pointer (some ⟨b15, 0, none⟩)), (6, .int .i64 y_7), (44, .bool false)] rfl ⟨rfl, rfl, rfl, rfl, trivial⟩ ?_
          refine WO_skip rfl rfl ?_
          refine WO_pure tbok 6 [(4, .bool false), (49, .bool false), (52, undef)] rfl ⟨rfl, rfl, rfl, trivial⟩ ?_
          refine WO_skip rfl rfl ?_
          refine WO_pure tbok 4 [(4, .bool false)] rfl ⟨rfl, trivial⟩ ?_
          refine WO_end ?_
          cases hm
          exact WK_ret (ret_out (L := []) (RLc_tmp rfl RLc_nil) (List.nil_sublist _) rfl)
    · refine WK_region ?_
      refine WO_pure tbok 2 [(1, .int .i64 p1), (2, .pointer (some ⟨b3, 0, none⟩)), (4, .bool false), (12, .pointer (some ⟨b3, 3, none⟩))] rfl ⟨rfl, rfl, rfl, rfl, trivial⟩ ?_
      refine WO_loadB tbok 0 rfl rfl rfl rfl (fun _ h => h) rfl rfl ?_
      refine WO_pure tbok 3 [(1, .int .i64 p1), (2, .pointer (some ⟨b3, 0, none⟩)), (4, .bool false), (16, .bool (decide (120 < (p0_3.length : Int))))] rfl ⟨rfl, rfl, rfl, rfl, trivial⟩ ?_
      refine WO_split (d := 16) (b := decide (120 < (p0_3.length : Int))) rfl (fun hb28 => ?_) (fun hb28 => ?_)
      · have hx6 := ifT hb28 hx6
        refine WO_pure tbok 6 [(1, .int .i64 p1), (2, .pointer (some ⟨b3, 0, none⟩)), (4, .bool false), (22, .bool true)] rfl ⟨rfl, rfl, rfl, rfl, trivial⟩ ?_
        refine WO_end ?_
        cases hx6
        refine WK.sub ?_ (WK.cls (fun _ h => h) hk7)
        exact ⟨rfl, rfl, rfl, rfl, trivial⟩
      · have hx6 := ifF hb28 hx6
        refine WO_pure tbok 2 [(1, .int .i64 p1), (2, .pointer (some ⟨b3, 0, none⟩)), (4, .bool false), (16, .bool false), (18, .pointer (some ⟨b3, 7, none⟩))] rfl ⟨rfl, rfl, rfl, rfl, rfl, trivial⟩ ?_
        refine WO_loadB tbok 0 rfl rfl rfl rfl (fun _ h => h) rfl rfl ?_
        refine WO_pure tbok 3 [(1, .int .i64 p1), (2, .pointer (some ⟨b3, 0, none⟩)), (4, .bool false), (22, .bool (decide (120 < (p0_7.length : Int))))] rfl ⟨rfl, rfl, rfl, rfl, trivial⟩ ?_
        refine WO_end ?_
        cases hx6
        refine WK.sub ?_ (WK.cls (fun _ h => h) hk7)
        exact ⟨rfl, rfl, rfl, rfl, trivial⟩
def census_Census_Q (r : Int × Int × Int × List Int × Int) : Value → List Ent → Prop := fun v L => ∃ (a0 : Option Addr) (q0 c0 : Nat), v = .tuple #[.agg #[.int .i64 r.1, .int .i64 r.2.1, .int .i64 r.2.2.1, .slice a0 q0 c0], .int .i64 r.2.2.2.2] ∧ OwnE 3 1 (I1 .i64) (.slice a0 q0 c0) r.2.2.2.1 L
theorem census_Census_walk {m : Mu} {p0_0 : Int} {p0_1 : Int} {p0_2 : Int} {p0_3 : List Int} {p1_0 : Int} {p1_1 : Int} {p1_2 : Int} {p1_3 : List Int} {p2 : Int} {p3 : Int} {a_p0_3 : Option Addr} {q_p0_3 c_p0_3 : Nat} {a_p1_3 : Option Addr} {q_p1_3 c_p1_3 : Nat} (h_p0_3 : SlR (FE (I1 .i64)) 1 m (.slice a_p0_3 q_p0_3 c_p0_3) p0_3) (h_p1_3 : SlR (FE (I1 .i64)) 1 m (.slice a_p1_3 q_p1_3 c_p1_3) p1_3) {r : Int × Int × Int × List Int × Int} (hm : census_Census p0_0 p0_1 p0_2 p0_3 p1_0 p1_1 p1_2 p1_3 p2 p3 = some r) :
    Go.E.Spec Try.prog 22 [.agg #[.int .i64 p0_0, .int .i64 p0_1, .int .i64 p0_2, .slice a_p0_3 q_p0_3 c_p0_3], .agg #[.int .i64 p1_0, .int .i64 p1_1, .int .i64 p1_2, .slice a_p1_3 q_p1_3 c_p1_3], .int .i64 p2, .int .i64 p3] m (fun v _ L => census_Census_Q r v L) := by
  refine Spec_enter Try.func22 rfl rfl rfl (fun w0 => ?_)
  refine WK.sub (e' := [(0, .agg #[.int .i64 p0_0, .int .i64 p0_1, .int .i64 p0_2, .slice a_p0_3 q_p0_3 c_p0_3]), (1, .agg #[.int .i64 p1_0, .int .i64 p1_1, .int .i64 p1_2, .slice a_p1_3 q_p1_3 c_p1_3]), (2, .int .i64 p2), (3, .int .i64 p3)]) ⟨rfl, rfl, rfl, rfl, trivial⟩ ?_
  obtain rfl := SlR.qlen h_p0_3
  obtain rfl := SlR.qlen h_p1_3
  refine WK.sub (e' := [(0, .agg #[.int .i64 p0_0, .int .i64 p0_1, .int .i64 p0_2, .slice a_p0_3 p0_3.length c_p0_3]), (1, .agg #[.int .i64 p1_0, .int .i64 p1_1, .int .i64 p1_2, .slice a_p1_3 p1_3.length c_p1_3]), (2, .int .i64 p2), (3, .int .i64 p3)]) ⟨rfl, rfl, rfl, rfl, trivial⟩ ?_
  unfold census_Census at hm
  refine WK_seq ?_
  refine WK_region ?_
  refine WO_box [.int .i64 p0_0, .int .i64 p0_1, .int .i64 p0_2, .slice a_p0_3 p0_3.length c_p0_3] rfl rfl trivial rfl rfl rfl (fun b3 => ?_)
  refine WO.cls (C' := St w0 m m [[⟨b3, 24, [.int .i64 p0_0, .int .i64 p0_1, .int .i64 p0_2, .slice a_p0_3 p0_3.length c_p0_3]⟩]]) (fun _ h => h) ?_
  refine WO_box [.int .i64 p1_0, .int .i64 p1_1, .int .i64 p1_2, .slice a_p1_3 p1_3.length c_p1_3] rfl rfl trivial rfl rfl rfl (fun b4 => ?_)
  refine WO.cls (C' := St w0 m m [[⟨b3, 24, [.int .i64 p0_0, .int .i64 p0_1, .int .i64 p0_2, .slice a_p0_3 p0_3.length c_p0_3]⟩], [⟨b4, 24, [.int .i64 p1_0, .int .i64 p1_1, .int .i64 p1_2, .slice a_p1_3 p1_3.length c_p1_3]⟩]]) (fun _ h => h) ?_
  refine WO_alloc tbok [.int .i64 0, .int .i64 0, .int .i64 0, .slice none 0 0] rfl rfl trivial rfl rfl rfl rfl (fun b5 => ?_)
  refine WO.cls (C' := St w0 m m [[⟨b3, 24, [.int .i64 p0_0, .int .i64 p0_1, .int .i64 p0_2, .slice a_p0_3 p0_3.length c_p0_3]⟩], [⟨b4, 24, [.int .i64 p1_0, .int .i64 p1_1, .int .i64 p1_2, .slice a_p1_3 p1_3.length c_p1_3]⟩], [⟨b5, 39, [.int .i64 0, .int .i64 0, .int .i64 0, .slice none 0 0]⟩]]) (fun _ h => h) ?_
  refine WO_pure tbok 1 [(2, .int .i64 p2), (3, .int .i64 p3), (4, .pointer (some ⟨b3, 0, none⟩)), (5, .pointer (some ⟨b4, 0, none⟩)), (8, .pointer (some ⟨b5, 0, none⟩)), (9, .int .i64 0)] rfl ⟨rfl, rfl, rfl, rfl, rfl, rfl, trivial⟩ ?_
  refine WO_end ?_
  refine WK_seq ?_
  refine WK_seq ?_
  refine WK_region ?_
  refine WO_loadB tbok 0 rfl rfl rfl rfl (fun _ h => h) rfl rfl ?_
  refine WO_loadB tbok 1 rfl rfl rfl rfl (fun _ h => h) rfl rfl ?_
  obtain ⟨y_1, hc6, hm⟩ := bind_some hm
  refine WO_call0 (.int .i64 y_1) rfl rfl trivial rfl rfl rfl rfl St_closed ⟨36, #[], #[], rfl, callable_36, fun w hw => ⟨_, hw.sat, census_both_walk h_p0_3 h_p1_3 hc6⟩⟩ ?_
  refine WO_pure tbok 1 [(2, .int .i64 p2), (3, .int .i64 p3), (4, .pointer (some ⟨b3, 0, none⟩)), (5, .pointer (some ⟨b4, 0, none⟩)), (8, .pointer (some ⟨b5, 0, none⟩)), (9, .int .i64 0), (10, .int .i64 y_1)] rfl ⟨rfl, rfl, rfl, rfl, rfl, rfl, rfl, trivial⟩ ?_
  refine WO_end ?_
  refine WK_seq ?_
  refine WK_region ?_
  refine WO_pure tbok 2 [(2, .int .i64 p2), (3, .int .i64 p3), (4, .pointer (some ⟨b3, 0, none⟩)), (5, .pointer (some ⟨b4, 0, none⟩)), (8, .pointer (some ⟨b5, 0, none⟩)), (9, .int .i64 0), (10, .int .i64 y_1), (16, .bool (y_1 != 0))] rfl ⟨rfl, rfl, rfl, rfl, rfl, rfl, rfl, rfl, trivial⟩ ?_
  refine WO_end ?_
  refine WK_cond (b := y_1 != 0) rfl (fun hb7 => ?_) (fun hb7 => ?_)
  · have hm := ifT hb7 hm
    refine WK_seq ?_
    refine WK_region ?_
    refine WO_pure tbok 2 [(2, .int .i64 p2), (3, .int .i64 p3), (4, .pointer (some ⟨b3, 0, none⟩)), (5, .pointer (some ⟨b4, 0, none⟩)), (8, .pointer (some ⟨b5, 0, none⟩)), (9, .int .i64 0), (17, .agg #[.int .i64 0, .int .i64 0, .int .i64 0, .slice none 0 0]), (18, .int .i64 y_1)] rfl ⟨rfl, rfl, rfl, rfl, rfl, rfl, rfl, rfl, trivial⟩ ?_
    refine WO_storeB tbok 2 [.int .i64 0, .int .i64 0, .int .i64 0, .slice none 0 0] rfl rfl rfl rfl rfl rfl rfl ?_
    refine WO.cls (C' := St w0 m m [[⟨b3, 24, [.int .i64 p0_0, .int .i64 p0_1, .int .i64 p0_2, .slice a_p0_3 p0_3.length c_p0_3]⟩], [⟨b4, 24, [.int .i64 p1_0, .int .i64 p1_1, .int .i64 p1_2, .slice a_p1_3 p1_3.length c_p1_3]⟩], [⟨b5, 39, [.int .i64 0, .int .i64 0, .int .i64 0, .slice none 0 0]⟩]]) (fun _ h => h) ?_
    refine WO_pure tbok 1 [(2, .int .i64 p2), (3, .int .i64 p3), (4, .pointer (some ⟨b3, 0, none⟩)), (5, .pointer (some ⟨b4, 0, none⟩)), (8, .pointer (some ⟨b5, 0, none⟩)), (9, .int .i64 y_1)] rfl ⟨rfl, rfl, rfl, rfl, rfl, rfl, trivial⟩ ?_
    refine WO_end ?_
    cases hm
    exact WK_ret (ret_out (L := []) (RLc_cell tbok 2 rfl rfl rfl (RLc_tmp rfl RLc_nil)) (List.nil_sublist _) ⟨none, 0, 0, rfl, (OwnE.nil none)⟩)
  · have hm := ifF hb7 hm
    refine WK_skip ?_
    refine WK_seq ?_
    refine WK_seq ?_
    obtain ⟨s_2, hx8, hm⟩ := bind_some hm
    refine WK_meet [(2, .int .i64 p2), (3, .int .i64 p3), (4, .pointer (some ⟨b3, 0, none⟩)), (5, .pointer (some ⟨b4, 0, none⟩)), (8, .pointer (some ⟨b5, 0, none⟩)), (9, .int .i64 0), (32, .bool s_2)] (St w0 m m [[⟨b3, 24, [.int .i64 p0_0, .int .i64 p0_1, .int .i64 p0_2, .slice a_p0_3 p0_3.length c_p0_3]⟩], [⟨b4, 24, [.int .i64 p1_0, .int .i64 p1_1, .int .i64 p1_2, .slice a_p1_3 p1_3.length c_p1_3]⟩], [⟨b5, 39, [.int .i64 0, .int .i64 0, .int .i64 0, .slice none 0 0]⟩]]) ?_ (fun hk9 => ?_)
    · refine WK_cond (b := s_2) rfl (fun hb10 => ?_) (fun hb10 => ?_)
      · have hm := ifT hb10 hm
        refine WK_seq ?_
        refine WK_region ?_
        refine WO_pure tbok 1 [(2, .int .i64 p2), (3, .int .i64 p3), (4, .pointer (some ⟨b3, 0, none⟩)), (5, .pointer (some ⟨b4, 0, none⟩)), (8, .pointer (some ⟨b5, 0, none⟩)), (9, .int .i64 0), (33, .agg #[.int .i64 0, .int .i64 0, .int .i64 0, .slice none 0 0])] rfl ⟨rfl, rfl, rfl, rfl, rfl, rfl, rfl, trivial⟩ ?_
        refine WO_storeB tbok 2 [.int .i64 0, .int .i64 0, .int .i64 0, .slice none 0 0] rfl rfl rfl rfl rfl rfl rfl ?_
        refine WO.cls (C' := St w0 m m [[⟨b3, 24, [.int .i64 p0_0, .int .i64 p0_1, .int .i64 p0_2, .slice a_p0_3 p0_3.length c_p0_3]⟩], [⟨b4, 24, [.int .i64 p1_0, .int .i64 p1_1, .int .i64 p1_2, .slice a_p1_3 p1_3.length c_p1_3]⟩], [⟨b5, 39, [.int .i64 0, .int .i64 0, .int .i64 0, .slice none 0 0]⟩]]) (fun _ h => h) ?_
        refine WO_pure tbok 1 [(2, .int .i64 p2), (3, .int .i64 p3), (4, .pointer (some ⟨b3, 0, none⟩)), (5, .pointer (some ⟨b4, 0, none⟩)), (8, .pointer (some ⟨b5, 0, none⟩)), (9, .int .i64 2)] rfl ⟨rfl, rfl, rfl, rfl, rfl, rfl, trivial⟩ ?_
        refine WO_end ?_
        cases hm
        exact WK_ret (ret_out (L := []) (RLc_cell tbok 2 rfl rfl rfl (RLc_tmp rfl RLc_nil)) (List.nil_sublist _) ⟨none, 0, 0, rfl, (OwnE.nil none)⟩)
      · have hm := ifF hb10 hm
        refine WK_skip ?_
        refine WK_seq ?_
        refine WK_region ?_
        refine WO_pure tbok 4 [(2, .int .i64 p2), (3, .int .i64 p3), (4, .pointer (some ⟨b3, 0, none⟩)), (5, .pointer (some ⟨b4, 0, none⟩)), (8, .pointer (some ⟨b5, 0, none⟩)), (9, .int .i64 0), (11, .int .i64 (w64 ((w64 (2 * p2)) + 1)))] rfl ⟨rfl, rfl, rfl, rfl, rfl, rfl, rfl, trivial⟩ ?_
        refine WO_end ?_
        refine WK_seq ?_
        refine WK_draw 12 [0, 1, 2, 4, 5, 7, 8, 9, 10, 3, 6, 11] follows_ok (by kernel_rfl) St_closed ?_
        refine WO_loadB tbok 0 rfl rfl rfl rfl (fun _ h => h) rfl rfl ?_
        refine WO_loadB tbok 0 rfl rfl rfl rfl (fun _ h => h) rfl rfl ?_
        refine WO_pure tbok 1 [(2, .int .i64 p2), (3, .int .i64 p3), (5, .pointer (some ⟨b4, 0, none⟩)), (8, .pointer (some ⟨b5, 0, none⟩)), (9, .int .i64 0), (11, .int .i64 (w64 ((w64 (2 * p2)) + 1))), (37, .agg #[.int .i64 p0_0, .int .i64 p0_1, .int .i64 p0_2, .slice a_p0_3 p0_3.length c_p0_3]), (38, .agg #[.int .i64 p0_0, .int .i64 p0_1, .int .i64 p0_2, .slice a_p0_3 p0_3.length c_p0_3]), (39, .int .i64 p2)] rfl ⟨rfl, rfl, rfl, rfl, rfl, rfl, rfl, rfl, rfl, trivial⟩ ?_
        refine WO_loadB tbok 1 rfl rfl rfl rfl (fun _ h => h) rfl rfl ?_
        refine WO_pure tbok 5 [(8, .pointer (some ⟨b5, 0, none⟩)), (9, .int .i64 0), (37, .agg #[.int .i64 p0_0, .int .i64 p0_1, .int .i64 p0_2, .slice a_p0_3 p0_3.length c_p0_3]), (38, .agg #[.int .i64 p0_0, .int .i64 p0_1, .int .i64 p0_2, .slice a_p0_3 p0_3.length c_p0_3]), (39, .int .i64 p2), (41, .agg #[.int .i64 p1_0, .int .i64 p1_1, .int .i64 p1_2, .slice a_p1_3 p1_3.length c_p1_3]), (42, .int .i64 p2), (44, .int .i64 p3), (47, .int .i64 (w64 ((w64 ((w64 (2 * p2)) + 1)) * (w64 ((w64 (2 * p2)) + 1)))))] rfl ⟨rfl, rfl, rfl, rfl, rfl, rfl, rfl, rfl, rfl, trivial⟩ ?_
        obtain ⟨y_3, hc11, hm⟩ := bind_some hm
        refine WO_call1 (census_transform_Q y_3) rfl rfl St_closed rfl rfl rfl rfl ⟨34, #[], #[], rfl, callable_34, fun w hw => ⟨_, hw.sat, census_transform_walk h_p0_3 hc11⟩⟩ (fun v16 L15 hq => ?_)
        obtain ⟨a12, qa12, c13, rfl, hL15⟩ := hq
        obtain rfl := OwnE.qlen hL15
        refine WO.cls (C' := St w0 m m [[⟨b3, 24, [.int .i64 p0_0, .int .i64 p0_1, .int .i64 p0_2, .slice a_p0_3 p0_3.length c_p0_3]⟩], [⟨b4, 24, [.int .i64 p1_0, .int .i64 p1_1, .int .i64 p1_2, .slice a_p1_3 p1_3.length c_p1_3]⟩], [⟨b5, 39, [.int .i64 0, .int .i64 0, .int .i64 0, .slice none 0 0]⟩], L15]) (fun _ h => h) ?_
        obtain ⟨y_4, hc17, hm⟩ := bind_some hm
        refine WO_call1 (census_transform_Q y_4) rfl rfl St_closed rfl rfl rfl rfl ⟨34, #[], #[], rfl, callable_34, fun w hw => ⟨_, hw.sat, census_transform_walk h_p1_3 hc17⟩⟩ (fun v22 L21 hq => ?_)
        obtain ⟨a18, qa18, c19, rfl, hL21⟩ := hq
        obtain rfl := OwnE.qlen hL21
        refine WO.cls (C' := St w0 m m [[⟨b3, 24, [.int .i64 p0_0, .int .i64 p0_1, .int .i64 p0_2, .slice a_p0_3 p0_3.length c_p0_3]⟩], [⟨b4, 24, [.int .i64 p1_0, .int .i64 p1_1, .int .i64 p1_2, .slice a_p1_3 p1_3.length c_p1_3]⟩], [⟨b5, 39, [.int .i64 0, .int .i64 0, .int .i64 0, .slice none 0 0]⟩], L15, L21]) (fun _ h => h) ?_
        obtain ⟨⟨y_7, y_8, y_9, y_10⟩, hc23, hm⟩ := bind_some hm
        refine WO_call1 (census_costs_Q (y_7, y_8, y_9, y_10)) rfl rfl St_closed rfl rfl rfl rfl ⟨37, #[], #[], rfl, callable_37, fun w hw => ⟨_, hw.satV, census_costs_walk (h_p0_3.mono (mono_FE _) hw.leV) (OwnE.rd (E := (I1 .i64)) (k := 1) (fun _ => rfl) hL15 (fun _ hx => hw.memV (i := 3) rfl hx)) (OwnE.rd (E := (I1 .i64)) (k := 1) (fun _ => rfl) hL21 (fun _ hx => hw.memV (i := 4) rfl hx)) (fun m1 hm1 z_5 z_6 _ h => specV_cap callable_16 (census_Hamming_walk h)) hc23⟩⟩ (fun v28 L27 hq => ?_)
        obtain ⟨a24, qa24, c25, rfl, hL27⟩ := hq
        obtain rfl := OwnE.qlen hL27
        refine WO.cls (C' := St w0 m m [[⟨b3, 24, [.int .i64 p0_0, .int .i64 p0_1, .int .i64 p0_2, .slice a_p0_3 p0_3.length c_p0_3]⟩], [⟨b4, 24, [.int .i64 p1_0, .int .i64 p1_1, .int .i64 p1_2, .slice a_p1_3 p1_3.length c_p1_3]⟩], [⟨b5, 39, [.int .i64 0, .int .i64 0, .int .i64 0, .slice none 0 0]⟩], L15, L21, L27]) (fun _ h => h) ?_
        refine WO_tail ?_
        refine WO_storeB tbok 2 [.int .i64 y_7, .int .i64 y_8, .int .i64 y_9, .slice a24 ((y_10).length) c25] rfl rfl rfl rfl rfl rfl rfl ?_
        refine WO.cls (C' := St w0 m m [[⟨b3, 24, [.int .i64 p0_0, .int .i64 p0_1, .int .i64 p0_2, .slice a_p0_3 p0_3.length c_p0_3]⟩], [⟨b4, 24, [.int .i64 p1_0, .int .i64 p1_1, .int .i64 p1_2, .slice a_p1_3 p1_3.length c_p1_3]⟩], [⟨b5, 39, [.int .i64 y_7, .int .i64 y_8, .int .i64 y_9, .slice a24 ((y_10).length) c25]⟩], L15, L21, L27]) (fun _ h => h) ?_
        refine WO_pure tbok 1 [(8, .pointer (some ⟨b5, 0, none⟩)), (9, .int .i64 0)] rfl ⟨rfl, rfl, trivial⟩ ?_
        refine WO_end ?_
        cases hm
        exact WK_ret (ret_out (L := L27) (RLc_cell tbok 2 rfl rfl rfl (RLc_tmp rfl RLc_nil)) (seg_sub 5 rfl) ⟨a24, _, c25, rfl, hL27⟩)
    · refine WK_region ?_
      refine WO_pure tbok 3 [(2, .int .i64 p2), (3, .int .i64 p3), (4, .pointer (some ⟨b3, 0, none⟩)), (5, .pointer (some ⟨b4, 0, none⟩)), (8, .pointer (some ⟨b5, 0, none⟩)), (9, .int .i64 0), (21, .bool (p2 != 1))] rfl ⟨rfl, rfl, rfl, rfl, rfl, rfl, rfl, trivial⟩ ?_
      refine WO_split (d := 21) (b := p2 != 1) rfl (fun hb29 => ?_) (fun hb29 => ?_)
      · have hx8 := ifT hb29 hx8
        refine WO_pure tbok 4 [(2, .int .i64 p2), (3, .int .i64 p3), (4, .pointer (some ⟨b3, 0, none⟩)), (5, .pointer (some ⟨b4, 0, none⟩)), (8, .pointer (some ⟨b5, 0, none⟩)), (9, .int .i64 0), (25, .bool (p2 != 2))] rfl ⟨rfl, rfl, rfl, rfl, rfl, rfl, rfl, trivial⟩ ?_
        refine WO_split (d := 25) (b := p2 != 2) rfl (fun hb30 => ?_) (fun hb30 => ?_)
        · have hx8 := ifT hb30 hx8
          refine WO_pure tbok 7 [(2, .int .i64 p2), (3, .int .i64 p3), (4, .pointer (some ⟨b3, 0, none⟩)), (5, .pointer (some ⟨b4, 0, none⟩)), (8, .pointer (some ⟨b5, 0, none⟩)), (9, .int .i64 0), (32, .bool true)] rfl ⟨rfl, rfl, rfl, rfl, rfl, rfl, rfl, trivial⟩ ?_
          refine WO_end ?_
          cases hx8
          refine WK.sub ?_ (WK.cls (fun _ h => h) hk9)
          exact ⟨rfl, rfl, rfl, rfl, rfl, rfl, rfl, trivial⟩
        · have hx8 := ifF hb30 hx8
          refine WO_pure tbok 4 [(2, .int .i64 p2), (3, .int .i64 p3), (4, .pointer (some ⟨b3, 0, none⟩)), (5, .pointer (some ⟨b4, 0, none⟩)), (8, .pointer (some ⟨b5, 0, none⟩)), (9, .int .i64 0), (29, .bool (decide (p3 < 1)))] rfl ⟨rfl, rfl, rfl, rfl, rfl, rfl, rfl, trivial⟩ ?_
          refine WO_split (d := 29) (b := decide (p3 < 1)) rfl (fun hb31 => ?_) (fun hb31 => ?_)
          · have hx8 := ifT hb31 hx8
            refine WO_pure tbok 3 [(2, .int .i64 p2), (3, .int .i64 p3), (4, .pointer (some ⟨b3, 0, none⟩)), (5, .pointer (some ⟨b4, 0, none⟩)), (8, .pointer (some ⟨b5, 0, none⟩)), (9, .int .i64 0), (32, .bool true)] rfl ⟨rfl, rfl, rfl, rfl, rfl, rfl, rfl, trivial⟩ ?_
            refine WO_end ?_
            cases hx8
            refine WK.sub ?_ (WK.cls (fun _ h => h) hk9)
            exact ⟨rfl, rfl, rfl, rfl, rfl, rfl, rfl, trivial⟩
          · have hx8 := ifF hb31 hx8
            refine WO_pure tbok 3 [(2, .int .i64 p2), (3, .int .i64 p3), (4, .pointer (some ⟨b3, 0, none⟩)), (5, .pointer (some ⟨b4, 0, none⟩)), (8, .pointer (some ⟨b5, 0, none⟩)), (9, .int .i64 0), (32, .bool (decide (64 < p3)))] rfl ⟨rfl, rfl, rfl, rfl, rfl, rfl, rfl, trivial⟩ ?_
            refine WO_end ?_
            cases hx8
            refine WK.sub ?_ (WK.cls (fun _ h => h) hk9)
            exact ⟨rfl, rfl, rfl, rfl, rfl, rfl, rfl, trivial⟩
      · have hx8 := ifF hb29 hx8
        refine WO_pure tbok 8 [(2, .int .i64 p2), (3, .int .i64 p3), (4, .pointer (some ⟨b3, 0, none⟩)), (5, .pointer (some ⟨b4, 0, none⟩)), (8, .pointer (some ⟨b5, 0, none⟩)), (9, .int .i64 0), (29, .bool (decide (p3 < 1)))] rfl ⟨rfl, rfl, rfl, rfl, rfl, rfl, rfl, trivial⟩ ?_
        refine WO_split (d := 29) (b := decide (p3 < 1)) rfl (fun hb32 => ?_) (fun hb32 => ?_)
        · have hx8 := ifT hb32 hx8
          refine WO_pure tbok 3 [(2, .int .i64 p2), (3, .int .i64 p3), (4, .pointer (some ⟨b3, 0, none⟩)), (5, .pointer (some ⟨b4, 0, none⟩)), (8, .pointer (some ⟨b5, 0, none⟩)), (9, .int .i64 0), (32, .bool true)] rfl ⟨rfl, rfl, rfl, rfl, rfl, rfl, rfl, trivial⟩ ?_
          refine WO_end ?_
          cases hx8
          refine WK.sub ?_ (WK.cls (fun _ h => h) hk9)
          exact ⟨rfl, rfl, rfl, rfl, rfl, rfl, rfl, trivial⟩
        · have hx8 := ifF hb32 hx8
          refine WO_pure tbok 3 [(2, .int .i64 p2), (3, .int .i64 p3), (4, .pointer (some ⟨b3, 0, none⟩)), (5, .pointer (some ⟨b4, 0, none⟩)), (8, .pointer (some ⟨b5, 0, none⟩)), (9, .int .i64 0), (32, .bool (decide (64 < p3)))] rfl ⟨rfl, rfl, rfl, rfl, rfl, rfl, rfl, trivial⟩ ?_
          refine WO_end ?_
          cases hx8
          refine WK.sub ?_ (WK.cls (fun _ h => h) hk9)
          exact ⟨rfl, rfl, rfl, rfl, rfl, rfl, rfl, trivial⟩
theorem fiduciallaw44_byCensus_c1_walk {m : Mu} {p0 : Int} {p1 : Int} {q0_0 : List Int} {q1_0 : List Int} {a_q0_0 : Option Addr} {q_q0_0 c_q0_0 : Nat} {b_q0 : Nat} {a_q1_0 : Option Addr} {q_q1_0 c_q1_0 : Nat} {b_q1 : Nat} (hb_q0 : m b_q0 = some (Ent.obj ⟨b_q0, 22, [.slice a_q0_0 q_q0_0 c_q0_0]⟩)) (h_q0_0 : SlR (FE (I1 .i64)) 1 m (.slice a_q0_0 q_q0_0 c_q0_0) q0_0) (hb_q1 : m b_q1 = some (Ent.obj ⟨b_q1, 22, [.slice a_q1_0 q_q1_0 c_q1_0]⟩)) (h_q1_0 : SlR (FE (I1 .i64)) 1 m (.slice a_q1_0 q_q1_0 c_q1_0) q1_0) {r : Int} (hm : fiduciallaw44_byCensus_c1 p0 p1 q0_0 q1_0 = some r) :
    Go.E.Spec Try.prog 43 [.int .i64 p0, .int .i64 p1, .pointer (some ⟨b_q0, 0, none⟩), .pointer (some ⟨b_q1, 0, none⟩)] m (fun v _ _ => v = .int .i64 r) := by
  refine Spec_enter Try.func43 rfl rfl rfl (fun w0 => ?_)
  refine WK.sub (e' := [(0, .int .i64 p0), (1, .int .i64 p1), (2, .pointer (some ⟨b_q0, 0, none⟩)), (3, .pointer (some ⟨b_q1, 0, none⟩))]) ⟨rfl, rfl, rfl, rfl, trivial⟩ ?_
  obtain rfl := SlR.qlen h_q0_0
  obtain rfl := SlR.qlen h_q1_0
  refine WK.sub (e' := [(0, .int .i64 p0), (1, .int .i64 p1), (2, .pointer (some ⟨b_q0, 0, none⟩)), (3, .pointer (some ⟨b_q1, 0, none⟩))]) ⟨rfl, rfl, rfl, rfl, trivial⟩ ?_
  unfold fiduciallaw44_byCensus_c1 at hm
  refine WK_seq ?_
  refine WK_region ?_
  refine WO_pure tbok 1 [(0, .int .i64 p0), (1, .int .i64 p1), (2, .pointer (some ⟨b_q0, 0, none⟩)), (3, .pointer (some ⟨b_q1, 0, none⟩)), (6, .int .i64 0)] rfl ⟨rfl, rfl, rfl, rfl, rfl, trivial⟩ ?_
  refine WO_end ?_
  refine WK_seq ?_
  refine WK_draw 12 [0, 1, 2, 3, 4, 5, 6, 7, 8, 9, 10, 11] follows_ok (by kernel_rfl) St_closed ?_
  refine WO_loadM tbok rfl rfl rfl rfl (fun _ h => St.sat h) hb_q0 rfl ?_
  refine WO_pure tbok 1 [(1, .int .i64 p1), (3, .pointer (some ⟨b_q1, 0, none⟩)), (6, .int .i64 0), (7, .slice a_q0_0 q0_0.length c_q0_0), (8, .int .i64 p0)] rfl ⟨rfl, rfl, rfl, rfl, rfl, trivial⟩ ?_
  obtain ⟨v_1, hy3, hm⟩ := bind_some hm
  obtain ⟨hc4, hy3⟩ := ix_some hy3
  refine WO_index tbok rfl rfl rfl rfl rfl rfl rfl rfl (SlR.addr h_q0_0) hc4 ?_
  refine WO_loadE tbok rfl rfl rfl rfl (fun _ h => St.sat h) h_q0_0 hy3 rfl ?_
  refine WO_loadM tbok rfl rfl rfl rfl (fun _ h => St.sat h) hb_q1 rfl ?_
  refine WO_pure tbok 1 [(6, .int .i64 0), (10, .int .i64 v_1), (11, .slice a_q1_0 q1_0.length c_q1_0), (12, .int .i64 p1)] rfl ⟨rfl, rfl, rfl, rfl, trivial⟩ ?_
  obtain ⟨v_2, hy5, hm⟩ := bind_some hm
  obtain ⟨hc6, hy5⟩ := ix_some hy5
  refine WO_index tbok rfl rfl rfl rfl rfl rfl rfl rfl (SlR.addr h_q1_0) hc6 ?_
  refine WO_loadE tbok rfl rfl rfl rfl (fun _ h => St.sat h) h_q1_0 hy5 rfl ?_
  refine WO_pure tbok 2 [(6, .int .i64 0), (16, .int .u64 (wu64 (w64 (((BitVec.ofInt 64 v_1 ^^^ BitVec.ofInt 64 v_2).toNat : Int)))))] rfl ⟨rfl, rfl, trivial⟩ ?_
  obtain ⟨y_3, hc7, hm⟩ := bind_some hm
  refine WO_call0 (.int .i64 y_3) rfl rfl St_closed rfl rfl rfl rfl St_closed ⟨17, #[], #[], rfl, callable_17, fun w hw => ⟨_, hw.sat, bits_OnesCount64_walk hc7⟩⟩ ?_
  refine WO_pure tbok 1 [(6, .int .i64 y_3)] rfl ⟨rfl, trivial⟩ ?_
  refine WO_tail ?_
  refine WO_end ?_
  cases hm
  exact WK_ret (ret_out (L := []) (RLc_tmp rfl RLc_nil) (List.nil_sublist _) rfl)
def fiduciallaw44_byCensus_Q (r : Int × Int × Int × List Int × Int) : Value → List Ent → Prop := fun v L => ∃ (a0 : Option Addr) (q0 c0 : Nat), v = .tuple #[.agg #[.int .i64 r.1, .int .i64 r.2.1, .int .i64 r.2.2.1, .slice a0 q0 c0], .int .i64 r.2.2.2.2] ∧ OwnE 3 1 (I1 .i64) (.slice a0 q0 c0) r.2.2.2.1 L
theorem fiduciallaw44_byCensus_walk {m : Mu} {p0_0 : Int} {p0_1 : Int} {p0_2 : Int} {p0_3 : List Int} {p1_0 : Int} {p1_1 : Int} {p1_2 : Int} {p1_3 : List Int} {p2 : Int} {p3 : Int} {a_p0_3 : Option Addr} {q_p0_3 c_p0_3 : Nat} {a_p1_3 : Option Addr} {q_p1_3 c_p1_3 : Nat} (h_p0_3 : SlR (FE (I1 .i64)) 1 m (.slice a_p0_3 q_p0_3 c_p0_3) p0_3) (h_p1_3 : SlR (FE (I1 .i64)) 1 m (.slice a_p1_3 q_p1_3 c_p1_3) p1_3) {r : Int × Int × Int × List Int × Int} (hm : fiduciallaw44_byCensus p0_0 p0_1 p0_2 p0_3 p1_0 p1_1 p1_2 p1_3 p2 p3 = some r) :
    Go.E.Spec Try.prog 23 [.agg #[.int .i64 p0_0, .int .i64 p0_1, .int .i64 p0_2, .slice a_p0_3 q_p0_3 c_p0_3], .agg #[.int .i64 p1_0, .int .i64 p1_1, .int .i64 p1_2, .slice a_p1_3 q_p1_3 c_p1_3], .int .i64 p2, .int .i64 p3] m (fun v _ L => fiduciallaw44_byCensus_Q r v L) := by
  refine Spec_enter Try.func23 rfl rfl rfl (fun w0 => ?_)
  refine WK.sub (e' := [(0, .agg #[.int .i64 p0_0, .int .i64 p0_1, .int .i64 p0_2, .slice a_p0_3 q_p0_3 c_p0_3]), (1, .agg #[.int .i64 p1_0, .int .i64 p1_1, .int .i64 p1_2, .slice a_p1_3 q_p1_3 c_p1_3]), (2, .int .i64 p2), (3, .int .i64 p3)]) ⟨rfl, rfl, rfl, rfl, trivial⟩ ?_
  obtain rfl := SlR.qlen h_p0_3
  obtain rfl := SlR.qlen h_p1_3
  refine WK.sub (e' := [(0, .agg #[.int .i64 p0_0, .int .i64 p0_1, .int .i64 p0_2, .slice a_p0_3 p0_3.length c_p0_3]), (1, .agg #[.int .i64 p1_0, .int .i64 p1_1, .int .i64 p1_2, .slice a_p1_3 p1_3.length c_p1_3]), (2, .int .i64 p2), (3, .int .i64 p3)]) ⟨rfl, rfl, rfl, rfl, trivial⟩ ?_
  unfold fiduciallaw44_byCensus at hm
  refine WK_seq ?_
  refine WK_region ?_
  refine WO_box [.int .i64 p0_0, .int .i64 p0_1, .int .i64 p0_2, .slice a_p0_3 p0_3.length c_p0_3] rfl rfl trivial rfl rfl rfl (fun b3 => ?_)
  refine WO.cls (C' := St w0 m m [[⟨b3, 24, [.int .i64 p0_0, .int .i64 p0_1, .int .i64 p0_2, .slice a_p0_3 p0_3.length c_p0_3]⟩]]) (fun _ h => h) ?_
  refine WO_box [.int .i64 p1_0, .int .i64 p1_1, .int .i64 p1_2, .slice a_p1_3 p1_3.length c_p1_3] rfl rfl trivial rfl rfl rfl (fun b4 => ?_)
  refine WO.cls (C' := St w0 m m [[⟨b3, 24, [.int .i64 p0_0, .int .i64 p0_1, .int .i64 p0_2, .slice a_p0_3 p0_3.length c_p0_3]⟩], [⟨b4, 24, [.int .i64 p1_0, .int .i64 p1_1, .int .i64 p1_2, .slice a_p1_3 p1_3.length c_p1_3]⟩]]) (fun _ h => h) ?_
  refine WO_alloc tbok [.int .i64 0, .int .i64 0, .int .i64 0, .slice none 0 0] rfl rfl trivial rfl rfl rfl rfl (fun b5 => ?_)
  refine WO.cls (C' := St w0 m m [[⟨b3, 24, [.int .i64 p0_0, .int .i64 p0_1, .int .i64 p0_2, .slice a_p0_3 p0_3.length c_p0_3]⟩], [⟨b4, 24, [.int .i64 p1_0, .int .i64 p1_1, .int .i64 p1_2, .slice a_p1_3 p1_3.length c_p1_3]⟩], [⟨b5, 39, [.int .i64 0, .int .i64 0, .int .i64 0, .slice none 0 0]⟩]]) (fun _ h => h) ?_
  refine WO_pure tbok 1 [(2, .int .i64 p2), (3, .int .i64 p3), (4, .pointer (some ⟨b3, 0, none⟩)), (5, .pointer (some ⟨b4, 0, none⟩)), (8, .pointer (some ⟨b5, 0, none⟩)), (9, .int .i64 0)] rfl ⟨rfl, rfl, rfl, rfl, rfl, rfl, trivial⟩ ?_
  refine WO_end ?_
  refine WK_seq ?_
  refine WK_seq ?_
  refine WK_region ?_
  refine WO_loadB tbok 0 rfl rfl rfl rfl (fun _ h => h) rfl rfl ?_
  refine WO_loadB tbok 1 rfl rfl rfl rfl (fun _ h => h) rfl rfl ?_
  obtain ⟨y_1, hc6, hm⟩ := bind_some hm
  refine WO_call0 (.int .i64 y_1) rfl rfl trivial rfl rfl rfl rfl St_closed ⟨24, #[], #[], rfl, callable_24, fun w hw => ⟨_, hw.sat, fiduciallaw44_both_walk h_p0_3 h_p1_3 hc6⟩⟩ ?_
  refine WO_pure tbok 1 [(2, .int .i64 p2), (3, .int .i64 p3), (4, .pointer (some ⟨b3, 0, none⟩)), (5, .pointer (some ⟨b4, 0, none⟩)), (8, .pointer (some ⟨b5, 0, none⟩)), (9, .int .i64 0), (10, .int .i64 y_1)] rfl ⟨rfl, rfl, rfl, rfl, rfl, rfl, rfl, trivial⟩ ?_
  refine WO_end ?_
  refine WK_seq ?_
  refine WK_region ?_
  refine WO_pure tbok 2 [(2, .int .i64 p2), (3, .int .i64 p3), (4, .pointer (some ⟨b3, 0, none⟩)), (5, .pointer (some ⟨b4, 0, none⟩)), (8, .pointer (some ⟨b5, 0, none⟩)), (9, .int .i64 0), (10, .int .i64 y_1), (19, .bool (y_1 != 0))] rfl ⟨rfl, rfl, rfl, rfl, rfl, rfl, rfl, rfl, trivial⟩ ?_
  refine WO_end ?_
  refine WK_cond (b := y_1 != 0) rfl (fun hb7 => ?_) (fun hb7 => ?_)
  · have hm := ifT hb7 hm
    refine WK_seq ?_
    refine WK_region ?_
    refine WO_pure tbok 2 [(2, .int .i64 p2), (3, .int .i64 p3), (4, .pointer (some ⟨b3, 0, none⟩)), (5, .pointer (some ⟨b4, 0, none⟩)), (8, .pointer (some ⟨b5, 0, none⟩)), (9, .int .i64 0), (20, .agg #[.int .i64 0, .int .i64 0, .int .i64 0, .slice none 0 0]), (21, .int .i64 y_1)] rfl ⟨rfl, rfl, rfl, rfl, rfl, rfl, rfl, rfl, trivial⟩ ?_
    refine WO_storeB tbok 2 [.int .i64 0, .int .i64 0, .int .i64 0, .slice none 0 0] rfl rfl rfl rfl rfl rfl rfl ?_
    refine WO.cls (C' := St w0 m m [[⟨b3, 24, [.int .i64 p0_0, .int .i64 p0_1, .int .i64 p0_2, .slice a_p0_3 p0_3.length c_p0_3]⟩], [⟨b4, 24, [.int .i64 p1_0, .int .i64 p1_1, .int .i64 p1_2, .slice a_p1_3 p1_3.length c_p1_3]⟩], [⟨b5, 39, [.int .i64 0, .int .i64 0, .int .i64 0, .slice none 0 0]⟩]]) (fun _ h => h) ?_
    refine WO_pure tbok 1 [(2, .int .i64 p2), (3, .int .i64 p3), (4, .pointer (some ⟨b3, 0, none⟩)), (5, .pointer (some ⟨b4, 0, none⟩)), (8, .pointer (some ⟨b5, 0, none⟩)), (9, .int .i64 y_1)] rfl ⟨rfl, rfl, rfl, rfl, rfl, rfl, trivial⟩ ?_
    refine WO_end ?_
    cases hm
    exact WK_ret (ret_out (L := []) (RLc_cell tbok 2 rfl rfl rfl (RLc_tmp rfl RLc_nil)) (List.nil_sublist _) ⟨none, 0, 0, rfl, (OwnE.nil none)⟩)
  · have hm := ifF hb7 hm
    refine WK_skip ?_
    refine WK_seq ?_
    refine WK_region ?_
    refine WO_loadB tbok 0 rfl rfl rfl rfl (fun _ h => h) rfl rfl ?_
    refine WO_pure tbok 1 [(2, .int .i64 p2), (3, .int .i64 p3), (4, .pointer (some ⟨b3, 0, none⟩)), (5, .pointer (some ⟨b4, 0, none⟩)), (8, .pointer (some ⟨b5, 0, none⟩)), (9, .int .i64 0), (23, .agg #[.int .i64 p0_0, .int .i64 p0_1, .int .i64 p0_2, .slice a_p0_3 p0_3.length c_p0_3]), (24, .int .i64 p2)] rfl ⟨rfl, rfl, rfl, rfl, rfl, rfl, rfl, rfl, trivial⟩ ?_
    obtain ⟨⟨y_2, y_3⟩, hc8, hm⟩ := bind_some hm
    refine WO_call1 (fiduciallaw44_transformed_Q (y_2, y_3)) rfl rfl trivial rfl rfl rfl rfl ⟨14, #[], #[], rfl, callable_14, fun w hw => ⟨_, hw.sat, fiduciallaw44_transformed_walk h_p0_3 hc8⟩⟩ (fun v13 L12 hq => ?_)
    obtain ⟨a9, qa9, c10, rfl, hL12⟩ := hq
    obtain rfl := OwnE.qlen hL12
    refine WO.cls (C' := St w0 m m [[⟨b3, 24, [.int .i64 p0_0, .int .i64 p0_1, .int .i64 p0_2, .slice a_p0_3 p0_3.length c_p0_3]⟩], [⟨b4, 24, [.int .i64 p1_0, .int .i64 p1_1, .int .i64 p1_2, .slice a_p1_3 p1_3.length c_p1_3]⟩], [⟨b5, 39, [.int .i64 0, .int .i64 0, .int .i64 0, .slice none 0 0]⟩], L12]) (fun _ h => h) ?_
    refine WO_pure tbok 3 [(2, .int .i64 p2), (3, .int .i64 p3), (4, .pointer (some ⟨b3, 0, none⟩)), (5, .pointer (some ⟨b4, 0, none⟩)), (8, .pointer (some ⟨b5, 0, none⟩)), (9, .int .i64 0), (26, .slice a9 ((y_2).length) c10), (27, .int .i64 y_3)] rfl ⟨rfl, rfl, rfl, rfl, rfl, rfl, rfl, rfl, trivial⟩ ?_
    refine WO_alloc tbok [.slice none 0 0] rfl rfl trivial rfl rfl rfl rfl (fun b14 => ?_)
    refine WO.cls (C' := St w0 m m [[⟨b3, 24, [.int .i64 p0_0, .int .i64 p0_1, .int .i64 p0_2, .slice a_p0_3 p0_3.length c_p0_3]⟩], [⟨b4, 24, [.int .i64 p1_0, .int .i64 p1_1, .int .i64 p1_2, .slice a_p1_3 p1_3.length c_p1_3]⟩], [⟨b5, 39, [.int .i64 0, .int .i64 0, .int .i64 0, .slice none 0 0]⟩], L12, [⟨b14, 22, [.slice none 0 0]⟩]]) (fun _ h => h) ?_
    refine WO_storeB tbok 4 [.slice a9 ((y_2).length) c10] rfl rfl rfl rfl rfl rfl rfl ?_
    refine WO.cls (C' := St w0 m m [[⟨b3, 24, [.int .i64 p0_0, .int .i64 p0_1, .int .i64 p0_2, .slice a_p0_3 p0_3.length c_p0_3]⟩], [⟨b4, 24, [.int .i64 p1_0, .int .i64 p1_1, .int .i64 p1_2, .slice a_p1_3 p1_3.length c_p1_3]⟩], [⟨b5, 39, [.int .i64 0, .int .i64 0, .int .i64 0, .slice none 0 0]⟩], L12, [⟨b14, 22, [.slice a9 ((y_2).length) c10]⟩]]) (fun _ h => h) ?_
    refine WO_pure tbok 1 [(2, .int .i64 p2), (3, .int .i64 p3), (4, .pointer (some ⟨b3, 0, none⟩)), (5, .pointer (some ⟨b4, 0, none⟩)), (8, .pointer (some ⟨b5, 0, none⟩)), (9, .int .i64 0), (11, .pointer (some ⟨b14, 0, none⟩)), (12, .int .i64 y_3)] rfl ⟨rfl, rfl, rfl, rfl, rfl, rfl, rfl, rfl, trivial⟩ ?_
    refine WO_end ?_
    refine WK_seq ?_
    refine WK_region ?_
    refine WO_loadB tbok 1 rfl rfl rfl rfl (fun _ h => h) rfl rfl ?_
    refine WO_pure tbok 1 [(2, .int .i64 p2), (3, .int .i64 p3), (4, .pointer (some ⟨b3, 0, none⟩)), (8, .pointer (some ⟨b5, 0, none⟩)), (9, .int .i64 0), (11, .pointer (some ⟨b14, 0, none⟩)), (12, .int .i64 y_3), (29, .agg #[.int .i64 p1_0, .int .i64 p1_1, .int .i64 p1_2, .slice a_p1_3 p1_3.length c_p1_3]), (30, .int .i64 p2)] rfl ⟨rfl, rfl, rfl, rfl, rfl, rfl, rfl, rfl, rfl, trivial⟩ ?_
    obtain ⟨⟨y_4, y_5⟩, hc15, hm⟩ := bind_some hm
    refine WO_call1 (fiduciallaw44_transformed_Q (y_4, y_5)) rfl rfl trivial rfl rfl rfl rfl ⟨14, #[], #[], rfl, callable_14, fun w hw => ⟨_, hw.sat, fiduciallaw44_transformed_walk h_p1_3 hc15⟩⟩ (fun v20 L19 hq => ?_)
    obtain ⟨a16, qa16, c17, rfl, hL19⟩ := hq
    obtain rfl := OwnE.qlen hL19
    refine WO.cls (C' := St w0 m m [[⟨b3, 24, [.int .i64 p0_0, .int .i64 p0_1, .int .i64 p0_2, .slice a_p0_3 p0_3.length c_p0_3]⟩], [⟨b4, 24, [.int .i64 p1_0, .int .i64 p1_1, .int .i64 p1_2, .slice a_p1_3 p1_3.length c_p1_3]⟩], [⟨b5, 39, [.int .i64 0, .int .i64 0, .int .i64 0, .slice none 0 0]⟩], L12, [⟨b14, 22, [.slice a9 ((y_2).length) c10]⟩], L19]) (fun _ h => h) ?_
    refine WO_pure tbok 3 [(2, .int .i64 p2), (3, .int .i64 p3), (4, .pointer (some ⟨b3, 0, none⟩)), (8, .pointer (some ⟨b5, 0, none⟩)), (9, .int .i64 0), (11, .pointer (some ⟨b14, 0, none⟩)), (12, .int .i64 y_3), (32, .slice a16 ((y_4).length) c17), (33, .int .i64 y_5)] rfl ⟨rfl, rfl, rfl, rfl, rfl, rfl, rfl, rfl, rfl, trivial⟩ ?_
    refine WO_alloc tbok [.slice none 0 0] rfl rfl trivial rfl rfl rfl rfl (fun b21 => ?_)
    refine WO.cls (C' := St w0 m m [[⟨b3, 24, [.int .i64 p0_0, .int .i64 p0_1, .int .i64 p0_2, .slice a_p0_3 p0_3.length c_p0_3]⟩], [⟨b4, 24, [.int .i64 p1_0, .int .i64 p1_1, .int .i64 p1_2, .slice a_p1_3 p1_3.length c_p1_3]⟩], [⟨b5, 39, [.int .i64 0, .int .i64 0, .int .i64 0, .slice none 0 0]⟩], L12, [⟨b14, 22, [.slice a9 ((y_2).length) c10]⟩], L19, [⟨b21, 22, [.slice none 0 0]⟩]]) (fun _ h => h) ?_
    refine WO_storeB tbok 6 [.slice a16 ((y_4).length) c17] rfl rfl rfl rfl rfl rfl rfl ?_
    refine WO.cls (C' := St w0 m m [[⟨b3, 24, [.int .i64 p0_0, .int .i64 p0_1, .int .i64 p0_2, .slice a_p0_3 p0_3.length c_p0_3]⟩], [⟨b4, 24, [.int .i64 p1_0, .int .i64 p1_1, .int .i64 p1_2, .slice a_p1_3 p1_3.length c_p1_3]⟩], [⟨b5, 39, [.int .i64 0, .int .i64 0, .int .i64 0, .slice none 0 0]⟩], L12, [⟨b14, 22, [.slice a9 ((y_2).length) c10]⟩], L19, [⟨b21, 22, [.slice a16 ((y_4).length) c17]⟩]]) (fun _ h => h) ?_
    refine WO_pure tbok 1 [(2, .int .i64 p2), (3, .int .i64 p3), (4, .pointer (some ⟨b3, 0, none⟩)), (8, .pointer (some ⟨b5, 0, none⟩)), (9, .int .i64 0), (11, .pointer (some ⟨b14, 0, none⟩)), (12, .int .i64 y_3), (13, .pointer (some ⟨b21, 0, none⟩))] rfl ⟨rfl, rfl, rfl, rfl, rfl, rfl, rfl, rfl, trivial⟩ ?_
    refine WO_end ?_
    refine WK_seq ?_
    refine WK_seq ?_
    obtain ⟨s_6, hx22, hm⟩ := bind_some hm
    refine WK_meet [(2, .int .i64 p2), (3, .int .i64 p3), (4, .pointer (some ⟨b3, 0, none⟩)), (8, .pointer (some ⟨b5, 0, none⟩)), (9, .int .i64 0), (11, .pointer (some ⟨b14, 0, none⟩)), (13, .pointer (some ⟨b21, 0, none⟩)), (43, .bool s_6)] (St w0 m m [[⟨b3, 24, [.int .i64 p0_0, .int .i64 p0_1, .int .i64 p0_2, .slice a_p0_3 p0_3.length c_p0_3]⟩], [⟨b4, 24, [.int .i64 p1_0, .int .i64 p1_1, .int .i64 p1_2, .slice a_p1_3 p1_3.length c_p1_3]⟩], [⟨b5, 39, [.int .i64 0, .int .i64 0, .int .i64 0, .slice none 0 0]⟩], L12, [⟨b14, 22, [.slice a9 ((y_2).length) c10]⟩], L19, [⟨b21, 22, [.slice a16 ((y_4).length) c17]⟩]]) ?_ (fun hk23 => ?_)
    · refine WK_cond (b := s_6) rfl (fun hb24 => ?_) (fun hb24 => ?_)
      · have hm := ifT hb24 hm
        refine WK_seq ?_
        refine WK_region ?_
        refine WO_pure tbok 1 [(2, .int .i64 p2), (3, .int .i64 p3), (4, .pointer (some ⟨b3, 0, none⟩)), (8, .pointer (some ⟨b5, 0, none⟩)), (9, .int .i64 0), (11, .pointer (some ⟨b14, 0, none⟩)), (13, .pointer (some ⟨b21, 0, none⟩)), (44, .agg #[.int .i64 0, .int .i64 0, .int .i64 0, .slice none 0 0])] rfl ⟨rfl, rfl, rfl, rfl, rfl, rfl, rfl, rfl, trivial⟩ ?_
        refine WO_storeB tbok 2 [.int .i64 0, .int .i64 0, .int .i64 0, .slice none 0 0] rfl rfl rfl rfl rfl rfl rfl ?_
        refine WO.cls (C' := St w0 m m [[⟨b3, 24, [.int .i64 p0_0, .int .i64 p0_1, .int .i64 p0_2, .slice a_p0_3 p0_3.length c_p0_3]⟩], [⟨b4, 24, [.int .i64 p1_0, .int .i64 p1_1, .int .i64 p1_2, .slice a_p1_3 p1_3.length c_p1_3]⟩], [⟨b5, 39, [.int .i64 0, .int .i64 0, .int .i64 0, .slice none 0 0]⟩], L12, [⟨b14, 22, [.slice a9 ((y_2).length) c10]⟩], L19, [⟨b21, 22, [.slice a16 ((y_4).length) c17]⟩]]) (fun _ h => h) ?_
        refine WO_pure tbok 1 [(2, .int .i64 p2), (3, .int .i64 p3), (4, .pointer (some ⟨b3, 0, none⟩)), (8, .pointer (some ⟨b5, 0, none⟩)), (9, .int .i64 2), (11, .pointer (some ⟨b14, 0, none⟩)), (13, .pointer (some ⟨b21, 0, none⟩))] rfl ⟨rfl, rfl, rfl, rfl, rfl, rfl, rfl, trivial⟩ ?_
        refine WO_end ?_
        cases hm
        exact WK_ret (ret_out (L := []) (RLc_cell tbok 2 rfl rfl rfl (RLc_tmp rfl RLc_nil)) (List.nil_sublist _) ⟨none, 0, 0, rfl, (OwnE.nil none)⟩)
      · have hm := ifF hb24 hm
        refine WK_skip ?_
        refine WK_seq ?_
        refine WK_region ?_
        refine WO_loadB tbok 0 rfl rfl rfl rfl (fun _ h => h) rfl rfl ?_
        refine WO_pure tbok 9 [(8, .pointer (some ⟨b5, 0, none⟩)), (9, .int .i64 0), (45, .agg #[.int .i64 p0_0, .int .i64 p0_1, .int .i64 p0_2, .slice a_p0_3 p0_3.length c_p0_3]), (46, .int .i64 p3), (53, .int .i64 (w64 ((w64 ((w64 (2 * p2)) + 1)) * (w64 ((w64 (2 * p2)) + 1))))), (54, .func (.func 43) #[] #[.pointer (some ⟨b14, 0, none⟩), .pointer (some ⟨b21, 0, none⟩)])] rfl ⟨rfl, rfl, rfl, rfl, rfl, rfl, trivial⟩ ?_
        obtain ⟨⟨y_9, y_10, y_11, y_12⟩, hc25, hm⟩ := bind_some hm
        refine WO_call1 (fiduciallaw44_filled_Q (y_9, y_10, y_11, y_12)) rfl rfl trivial rfl rfl rfl rfl ⟨39, #[], #[], rfl, callable_39, fun w hw => ⟨_, hw.satV, fiduciallaw44_filled_walk (h_p0_3.mono (mono_FE _) hw.leV) (fun m1 hm1 z_7 z_8 _ h => specV_cap callable_43 (fiduciallaw44_byCensus_c1_walk (hm1 _ _ (hw.memV (i := 4) rfl (List.mem_singleton.2 rfl))) ((OwnE.rd (E := (I1 .i64)) (k := 1) (fun _ => rfl) hL12 (fun _ hx => hw.memV (i := 3) rfl hx)).mono (mono_FE _) hm1) (hm1 _ _ (hw.memV (i := 6) rfl (List.mem_singleton.2 rfl))) ((OwnE.rd (E := (I1 .i64)) (k := 1) (fun _ => rfl) hL19 (fun _ hx => hw.memV (i := 5) rfl hx)).mono (mono_FE _) hm1) h)) hc25⟩⟩ (fun v30 L29 hq => ?_)
        obtain ⟨a26, qa26, c27, rfl, hL29⟩ := hq
        obtain rfl := OwnE.qlen hL29
        refine WO.cls (C' := St w0 m m [[⟨b3, 24, [.int .i64 p0_0, .int .i64 p0_1, .int .i64 p0_2, .slice a_p0_3 p0_3.length c_p0_3]⟩], [⟨b4, 24, [.int .i64 p1_0, .int .i64 p1_1, .int .i64 p1_2, .slice a_p1_3 p1_3.length c_p1_3]⟩], [⟨b5, 39, [.int .i64 0, .int .i64 0, .int .i64 0, .slice none 0 0]⟩], L12, [⟨b14, 22, [.slice a9 ((y_2).length) c10]⟩], L19, [⟨b21, 22, [.slice a16 ((y_4).length) c17]⟩], L29]) (fun _ h => h) ?_
        refine WO_storeB tbok 2 [.int .i64 y_9, .int .i64 y_10, .int .i64 y_11, .slice a26 ((y_12).length) c27] rfl rfl rfl rfl rfl rfl rfl ?_
        refine WO.cls (C' := St w0 m m [[⟨b3, 24, [.int .i64 p0_0, .int .i64 p0_1, .int .i64 p0_2, .slice a_p0_3 p0_3.length c_p0_3]⟩], [⟨b4, 24, [.int .i64 p1_0, .int .i64 p1_1, .int .i64 p1_2, .slice a_p1_3 p1_3.length c_p1_3]⟩], [⟨b5, 39, [.int .i64 y_9, .int .i64 y_10, .int .i64 y_11, .slice a26 ((y_12).length) c27]⟩], L12, [⟨b14, 22, [.slice a9 ((y_2).length) c10]⟩], L19, [⟨b21, 22, [.slice a16 ((y_4).length) c17]⟩], L29]) (fun _ h => h) ?_
        refine WO_pure tbok 1 [(8, .pointer (some ⟨b5, 0, none⟩)), (9, .int .i64 0)] rfl ⟨rfl, rfl, trivial⟩ ?_
        refine WO_end ?_
        cases hm
        exact WK_ret (ret_out (L := L29) (RLc_cell tbok 2 rfl rfl rfl (RLc_tmp rfl RLc_nil)) (seg_sub 7 rfl) ⟨a26, _, c27, rfl, hL29⟩)
    · refine WK_region ?_
      refine WO_pure tbok 3 [(2, .int .i64 p2), (3, .int .i64 p3), (4, .pointer (some ⟨b3, 0, none⟩)), (8, .pointer (some ⟨b5, 0, none⟩)), (9, .int .i64 0), (11, .pointer (some ⟨b14, 0, none⟩)), (13, .pointer (some ⟨b21, 0, none⟩)), (36, .bool (y_3 != 0))] rfl ⟨rfl, rfl, rfl, rfl, rfl, rfl, rfl, rfl, trivial⟩ ?_
      refine WO_split (d := 36) (b := y_3 != 0) rfl (fun hb31 => ?_) (fun hb31 => ?_)
      · have hx22 := ifT hb31 hx22
        refine WO_pure tbok 7 [(2, .int .i64 p2), (3, .int .i64 p3), (4, .pointer (some ⟨b3, 0, none⟩)), (8, .pointer (some ⟨b5, 0, none⟩)), (9, .int .i64 0), (11, .pointer (some ⟨b14, 0, none⟩)), (13, .pointer (some ⟨b21, 0, none⟩)), (43, .bool true)] rfl ⟨rfl, rfl, rfl, rfl, rfl, rfl, rfl, rfl, trivial⟩ ?_
        refine WO_end ?_
        cases hx22
        refine WK.sub ?_ (WK.cls (fun _ h => h) hk23)
        exact ⟨rfl, rfl, rfl, rfl, rfl, rfl, rfl, rfl, trivial⟩
      · have hx22 := ifF hb31 hx22
        refine WO_pure tbok 4 [(2, .int .i64 p2), (3, .int .i64 p3), (4, .pointer (some ⟨b3, 0, none⟩)), (8, .pointer (some ⟨b5, 0, none⟩)), (9, .int .i64 0), (11, .pointer (some ⟨b14, 0, none⟩)), (13, .pointer (some ⟨b21, 0, none⟩)), (40, .bool (decide (p3 < 1)))] rfl ⟨rfl, rfl, rfl, rfl, rfl, rfl, rfl, rfl, trivial⟩ ?_
        refine WO_split (d := 40) (b := decide (p3 < 1)) rfl (fun hb32 => ?_) (fun hb32 => ?_)
        · have hx22 := ifT hb32 hx22
          refine WO_pure tbok 3 [(2, .int .i64 p2), (3, .int .i64 p3), (4, .pointer (some ⟨b3, 0, none⟩)), (8, .pointer (some ⟨b5, 0, none⟩)), (9, .int .i64 0), (11, .pointer (some ⟨b14, 0, none⟩)), (13, .pointer (some ⟨b21, 0, none⟩)), (43, .bool true)] rfl ⟨rfl, rfl, rfl, rfl, rfl, rfl, rfl, rfl, trivial⟩ ?_
          refine WO_end ?_
          cases hx22
          refine WK.sub ?_ (WK.cls (fun _ h => h) hk23)
          exact ⟨rfl, rfl, rfl, rfl, rfl, rfl, rfl, rfl, trivial⟩
        · have hx22 := ifF hb32 hx22
          refine WO_pure tbok 3 [(2, .int .i64 p2), (3, .int .i64 p3), (4, .pointer (some ⟨b3, 0, none⟩)), (8, .pointer (some ⟨b5, 0, none⟩)), (9, .int .i64 0), (11, .pointer (some ⟨b14, 0, none⟩)), (13, .pointer (some ⟨b21, 0, none⟩)), (43, .bool (decide (64 < p3)))] rfl ⟨rfl, rfl, rfl, rfl, rfl, rfl, rfl, rfl, trivial⟩ ?_
          refine WO_end ?_
          cases hx22
          refine WK.sub ?_ (WK.cls (fun _ h => h) hk23)
          exact ⟨rfl, rfl, rfl, rfl, rfl, rfl, rfl, rfl, trivial⟩
theorem fiduciallaw44_CensusCosts_walk {m : Mu} {p0_0 : Int} {p0_1 : Int} {p0_2 : Int} {p0_3 : List Int} {p0_4 : Int} {p0_5 : Int} {p0_6 : Int} {p0_7 : List Int} {p1 : Int} {p2 : Int} {a_p0_3 : Option Addr} {q_p0_3 c_p0_3 : Nat} {a_p0_7 : Option Addr} {q_p0_7 c_p0_7 : Nat} (h_p0_3 : SlR (FE (I1 .i64)) 1 m (.slice a_p0_3 q_p0_3 c_p0_3) p0_3) (h_p0_7 : SlR (FE (I1 .i64)) 1 m (.slice a_p0_7 q_p0_7 c_p0_7) p0_7) {r : Bool} (hm : fiduciallaw44_CensusCosts p0_0 p0_1 p0_2 p0_3 p0_4 p0_5 p0_6 p0_7 p1 p2 = some r) :
    Go.E.Spec Try.prog 5 [.agg #[.int .i64 p0_0, .int .i64 p0_1, .int .i64 p0_2, .slice a_p0_3 q_p0_3 c_p0_3, .int .i64 p0_4, .int .i64 p0_5, .int .i64 p0_6, .slice a_p0_7 q_p0_7 c_p0_7], .int .i64 p1, .int .i64 p2] m (fun v _ _ => v = .bool r) := by
  refine Spec_enter Try.func5 rfl rfl rfl (fun w0 => ?_)
  refine WK.sub (e' := [(0, .agg #[.int .i64 p0_0, .int .i64 p0_1, .int .i64 p0_2, .slice a_p0_3 q_p0_3 c_p0_3, .int .i64 p0_4, .int .i64 p0_5, .int .i64 p0_6, .slice a_p0_7 q_p0_7 c_p0_7]), (1, .int .i64 p1), (2, .int .i64 p2)]) ⟨rfl, rfl, rfl, trivial⟩ ?_
  obtain rfl := SlR.qlen h_p0_3
  obtain rfl := SlR.qlen h_p0_7
  refine WK.sub (e' := [(0, .agg #[.int .i64 p0_0, .int .i64 p0_1, .int .i64 p0_2, .slice a_p0_3 p0_3.length c_p0_3, .int .i64 p0_4, .int .i64 p0_5, .int .i64 p0_6, .slice a_p0_7 p0_7.length c_p0_7]), (1, .int .i64 p1), (2, .int .i64 p2)]) ⟨rfl, rfl, rfl, trivial⟩ ?_
  unfold fiduciallaw44_CensusCosts at hm
  refine WK_seq ?_
  refine WK_region ?_
  refine WO_box [.int .i64 p0_0, .int .i64 p0_1, .int .i64 p0_2, .slice a_p0_3 p0_3.length c_p0_3, .int .i64 p0_4, .int .i64 p0_5, .int .i64 p0_6, .slice a_p0_7 p0_7.length c_p0_7] rfl rfl trivial rfl rfl rfl (fun b3 => ?_)
  refine WO.cls (C' := St w0 m m [[⟨b3, 37, [.int .i64 p0_0, .int .i64 p0_1, .int .i64 p0_2, .slice a_p0_3 p0_3.length c_p0_3, .int .i64 p0_4, .int .i64 p0_5, .int .i64 p0_6, .slice a_p0_7 p0_7.length c_p0_7]⟩]]) (fun _ h => h) ?_
  refine WO_pure tbok 1 [(1, .int .i64 p1), (2, .int .i64 p2), (3, .pointer (some ⟨b3, 0, none⟩)), (6, .bool false)] rfl ⟨rfl, rfl, rfl, rfl, trivial⟩ ?_
  refine WO_end ?_
  refine WK_seq ?_
  refine WK_seq ?_
  refine WK_region ?_
  obtain ⟨y_1, hc4, hm⟩ := bind_some hm
  refine WO_call0 (.bool y_1) rfl rfl trivial rfl rfl rfl rfl St_closed ⟨11, #[], #[], rfl, callable_11, fun w hw => ⟨_, hw.sat, fiduciallaw44_known_walk hc4⟩⟩ ?_
  refine WO_pure tbok 1 [(1, .int .i64 p1), (2, .int .i64 p2), (3, .pointer (some ⟨b3, 0, none⟩)), (6, .bool false), (12, .bool (!y_1))] rfl ⟨rfl, rfl, rfl, rfl, rfl, trivial⟩ ?_
  refine WO_end ?_
  refine WK_cond (b := !y_1) rfl (fun hb5 => ?_) (fun hb5 => ?_)
  · have hm := ifT hb5 hm
    refine WK_seq ?_
    refine WK_region ?_
    refine WO_pure tbok 1 [(1, .int .i64 p1), (2, .int .i64 p2), (3, .pointer (some ⟨b3, 0, none⟩)), (6, .bool false)] rfl ⟨rfl, rfl, rfl, rfl, trivial⟩ ?_
    refine WO_end ?_
    cases hm
    exact WK_ret (ret_out (L := []) (RLc_tmp rfl RLc_nil) (List.nil_sublist _) rfl)
  · have hm := ifF hb5 hm
    refine WK_skip ?_
    refine WK_seq ?_
    refine WK_seq ?_
    obtain ⟨s_2, hx6, hm⟩ := bind_some hm
    refine WK_meet [(1, .int .i64 p1), (2, .int .i64 p2), (3, .pointer (some ⟨b3, 0, none⟩)), (6, .bool false), (24, .bool s_2)] (St w0 m m [[⟨b3, 37, [.int .i64 p0_0, .int .i64 p0_1, .int .i64 p0_2, .slice a_p0_3 p0_3.length c_p0_3, .int .i64 p0_4, .int .i64 p0_5, .int .i64 p0_6, .slice a_p0_7 p0_7.length c_p0_7]⟩]]) ?_ (fun hk7 => ?_)
    · refine WK_cond (b := s_2) rfl (fun hb8 => ?_) (fun hb8 => ?_)
      · have hm := ifT hb8 hm
        refine WK_seq ?_
        refine WK_region ?_
        refine WO_pure tbok 1 [(1, .int .i64 p1), (2, .int .i64 p2), (3, .pointer (some ⟨b3, 0, none⟩)), (6, .bool true)] rfl ⟨rfl, rfl, rfl, rfl, trivial⟩ ?_
        refine WO_end ?_
        cases hm
        exact WK_ret (ret_out (L := []) (RLc_tmp rfl RLc_nil) (List.nil_sublist _) rfl)
      · have hm := ifF hb8 hm
        refine WK_skip ?_
        refine WK_seq ?_
        refine WK_region ?_
        refine WO_pure tbok 1 [(1, .int .i64 p1), (2, .int .i64 p2), (3, .pointer (some ⟨b3, 0, none⟩)), (6, .bool false), (26, .pointer (some ⟨b3, 0, none⟩))] rfl ⟨rfl, rfl, rfl, rfl, rfl, trivial⟩ ?_
        refine WO_loadB tbok 0 rfl rfl rfl rfl (fun _ h => h) rfl rfl ?_
        refine WO_pure tbok 1 [(1, .int .i64 p1), (2, .int .i64 p2), (3, .pointer (some ⟨b3, 0, none⟩)), (6, .bool false), (27, .agg #[.int .i64 p0_0, .int .i64 p0_1, .int .i64 p0_2, .slice a_p0_3 p0_3.length c_p0_3]), (28, .pointer (some ⟨b3, 4, none⟩))] rfl ⟨rfl, rfl, rfl, rfl, rfl, rfl, trivial⟩ ?_
        refine WO_loadB tbok 0 rfl rfl rfl rfl (fun _ h => h) rfl rfl ?_
        refine WO_pure tbok 2 [(1, .int .i64 p1), (2, .int .i64 p2), (3, .pointer (some ⟨b3, 0, none⟩)), (6, .bool false), (27, .agg #[.int .i64 p0_0, .int .i64 p0_1, .int .i64 p0_2, .slice a_p0_3 p0_3.length c_p0_3]), (29, .agg #[.int .i64 p0_4, .int .i64 p0_5, .int .i64 p0_6, .slice a_p0_7 p0_7.length c_p0_7]), (30, .int .i64 p1), (31, .int .i64 p2)] rfl ⟨rfl, rfl, rfl, rfl, rfl, rfl, rfl, rfl, trivial⟩ ?_
        obtain ⟨⟨y_3, y_4, y_5, y_6, y_7⟩, hc9, hm⟩ := bind_some hm
        refine WO_call1 (census_Census_Q (y_3, y_4, y_5, y_6, y_7)) rfl rfl trivial rfl rfl rfl rfl ⟨22, #[], #[], rfl, callable_22, fun w hw => ⟨_, hw.sat, census_Census_walk h_p0_3 h_p0_7 hc9⟩⟩ (fun v14 L13 hq => ?_)
        obtain ⟨a10, qa10, c11, rfl, hL13⟩ := hq
        obtain rfl := OwnE.qlen hL13
        refine WO.cls (C' := St w0 m m [[⟨b3, 37, [.int .i64 p0_0, .int .i64 p0_1, .int .i64 p0_2, .slice a_p0_3 p0_3.length c_p0_3, .int .i64 p0_4, .int .i64 p0_5, .int .i64 p0_6, .slice a_p0_7 p0_7.length c_p0_7]⟩], L13]) (fun _ h => h) ?_
        refine WO_pure tbok 3 [(1, .int .i64 p1), (2, .int .i64 p2), (3, .pointer (some ⟨b3, 0, none⟩)), (6, .bool false), (33, .agg #[.int .i64 y_3, .int .i64 y_4, .int .i64 y_5, .slice a10 ((y_6).length) c11]), (34, .int .i64 y_7)] rfl ⟨rfl, rfl, rfl, rfl, rfl, rfl, trivial⟩ ?_
        refine WO_alloc tbok [.int .i64 0, .int .i64 0, .int .i64 0, .slice none 0 0] rfl rfl trivial rfl rfl rfl rfl (fun b15 => ?_)
        refine WO.cls (C' := St w0 m m [[⟨b3, 37, [.int .i64 p0_0, .int .i64 p0_1, .int .i64 p0_2, .slice a_p0_3 p0_3.length c_p0_3, .int .i64 p0_4, .int .i64 p0_5, .int .i64 p0_6, .slice a_p0_7 p0_7.length c_p0_7]⟩], L13, [⟨b15, 39, [.int .i64 0, .int .i64 0, .int .i64 0, .slice none 0 0]⟩]]) (fun _ h => h) ?_
        refine WO_storeB tbok 2 [.int .i64 y_3, .int .i64 y_4, .int .i64 y_5, .slice a10 ((y_6).length) c11] rfl rfl rfl rfl rfl rfl rfl ?_
        refine WO.cls (C' := St w0 m m [[⟨b3, 37, [.int .i64 p0_0, .int .i64 p0_1, .int .i64 p0_2, .slice a_p0_3 p0_3.length c_p0_3, .int .i64 p0_4, .int .i64 p0_5, .int .i64 p0_6, .slice a_p0_7 p0_7.length c_p0_7]⟩], L13, [⟨b15, 39, [.int .i64 y_3, .int .i64 y_4, .int .i64 y_5, .slice a10 ((y_6).length) c11]⟩]]) (fun _ h => h) ?_
        refine WO_pure tbok 1 [(1, .int .i64 p1), (2, .int .i64 p2), (3, .pointer (some ⟨b3, 0, none⟩)), (6, .bool false), (7, .pointer (some ⟨b15, 0, none⟩)), (8, .int .i64 y_7)] rfl ⟨rfl, rfl, rfl, rfl, rfl, rfl, trivial⟩ ?_
        refine WO_end ?_
        refine WK_seq ?_
        refine WK_region ?_
        refine WO_pure tbok 1 [(1, .int .i64 p1), (2, .int .i64 p2), (3, .pointer (some ⟨b3, 0, none⟩)), (6, .bool false), (7, .pointer (some ⟨b15, 0, none⟩)), (8, .int .i64 y_7), (36, .pointer (some ⟨b3, 0, none⟩))] rfl ⟨rfl, rfl, rfl, rfl, rfl, rfl, rfl, trivial⟩ ?_
        refine WO_loadB tbok 0 rfl rfl rfl rfl (fun _ h => h) rfl rfl ?_
        refine WO_pure tbok 1 [(1, .int .i64 p1), (2, .int .i64 p2), (6, .bool false), (7, .pointer (some ⟨b15, 0, none⟩)), (8, .int .i64 y_7), (37, .agg #[.int .i64 p0_0, .int .i64 p0_1, .int .i64 p0_2, .slice a_p0_3 p0_3.length c_p0_3]), (38, .pointer (some ⟨b3, 4, none⟩))] rfl ⟨rfl, rfl, rfl, rfl, rfl, rfl, rfl, trivial⟩ ?_
        refine WO_loadB tbok 0 rfl rfl rfl rfl (fun _ h => h) rfl rfl ?_
        refine WO_pure tbok 2 [(6, .bool false), (7, .pointer (some ⟨b15, 0, none⟩)), (8, .int .i64 y_7), (37, .agg #[.int .i64 p0_0, .int .i64 p0_1, .int .i64 p0_2, .slice a_p0_3 p0_3.length c_p0_3]), (39, .agg #[.int .i64 p0_4, .int .i64 p0_5, .int .i64 p0_6, .slice a_p0_7 p0_7.length c_p0_7]), (40, .int .i64 p1), (41, .int .i64 p2)] rfl ⟨rfl, rfl, rfl, rfl, rfl, rfl, rfl, trivial⟩ ?_
        obtain ⟨⟨y_8, y_9, y_10, y_11, y_12⟩, hc16, hm⟩ := bind_some hm
        refine WO_call1 (fiduciallaw44_byCensus_Q (y_8, y_9, y_10, y_11, y_12)) rfl rfl trivial rfl rfl rfl rfl ⟨23, #[], #[], rfl, callable_23, fun w hw => ⟨_, hw.sat, fiduciallaw44_byCensus_walk h_p0_3 h_p0_7 hc16⟩⟩ (fun v21 L20 hq => ?_)
        obtain ⟨a17, qa17, c18, rfl, hL20⟩ := hq
        obtain rfl := OwnE.qlen hL20
        refine WO.cls (C' := St w0 m m [[⟨b3, 37, [.int .i64 p0_0, .int .i64 p0_1, .int .i64 p0_2, .slice a_p0_3 p0_3.length c_p0_3, .int .i64 p0_4, .int .i64 p0_5, .int .i64 p0_6, .slice a_p0_7 p0_7.length c_p0_7]⟩], L13, [⟨b15, 39, [.int .i64 y_3, .int .i64 y_4, .int .i64 y_5, .slice a10 ((y_6).length) c11]⟩], L20]) (fun _ h => h) ?_
        refine WO_pure tbok 3 [(6, .bool false), (7, .pointer (some ⟨b15, 0, none⟩)), (8, .int .i64 y_7), (43, .agg #[.int .i64 y_8, .int .i64 y_9, .int .i64 y_10, .slice a17 ((y_11).length) c18]), (44, .int .i64 y_12)] rfl ⟨rfl, rfl, rfl, rfl, rfl, trivial⟩ ?_
        refine WO_alloc tbok [.int .i64 0, .int .i64 0, .int .i64 0, .slice none 0 0] rfl rfl trivial rfl rfl rfl rfl (fun b22 => ?_)
        refine WO.cls (C' := St w0 m m [[⟨b3, 37, [.int .i64 p0_0, .int .i64 p0_1, .int .i64 p0_2, .slice a_p0_3 p0_3.length c_p0_3, .int .i64 p0_4, .int .i64 p0_5, .int .i64 p0_6, .slice a_p0_7 p0_7.length c_p0_7]⟩], L13, [⟨b15, 39, [.int .i64 y_3, .int .i64 y_4, .int .i64 y_5, .slice a10 ((y_6).length) c11]⟩], L20, [⟨b22, 39, [.int .i64 0, .int .i64 0, .int .i64 0, .slice none 0 0]⟩]]) (fun _ h => h) ?_
        refine WO_storeB tbok 4 [.int .i64 y_8, .int .i64 y_9, .int .i64 y_10, .slice a17 ((y_11).length) c18] rfl rfl rfl rfl rfl rfl rfl ?_
        refine WO.cls (C' := St w0 m m [[⟨b3, 37, [.int .i64 p0_0, .int .i64 p0_1, .int .i64 p0_2, .slice a_p0_3 p0_3.length c_p0_3, .int .i64 p0_4, .int .i64 p0_5, .int .i64 p0_6, .slice a_p0_7 p0_7.length c_p0_7]⟩], L13, [⟨b15, 39, [.int .i64 y_3, .int .i64 y_4, .int .i64 y_5, .slice a10 ((y_6).length) c11]⟩], L20, [⟨b22, 39, [.int .i64 y_8, .int .i64 y_9, .int .i64 y_10, .slice a17 ((y_11).length) c18]⟩]]) (fun _ h => h) ?_
        refine WO_pure tbok 1 [(6, .bool false), (7, .pointer (some ⟨b15, 0, none⟩)), (8, .int .i64 y_7), (9, .pointer (some ⟨b22, 0, none⟩)), (10, .int .i64 y_12)] rfl ⟨rfl, rfl, rfl, rfl, rfl, trivial⟩ ?_
        refine WO_end ?_
        refine WK_seq ?_
        refine WK_region ?_
        refine WO_pure tbok 4 [(6, .bool false), (7, .pointer (some ⟨b15, 0, none⟩)), (8, .int .i64 y_7), (9, .pointer (some ⟨b22, 0, none⟩)), (48, .bool (y_7 == y_12))] rfl ⟨rfl, rfl, rfl, rfl, rfl, trivial⟩ ?_
        refine WO_split (d := 48) (b := y_7 == y_12) rfl (fun hb23 => ?_) (fun hb23 => ?_)
        · have hm := ifT hb23 hm
          refine WO_loadB tbok 2 rfl rfl rfl rfl (fun _ h => h) rfl rfl ?_
          refine WO_loadB tbok 4 rfl rfl rfl rfl (fun _ h => h) rfl rfl ?_
          obtain ⟨y_13, hc24, hm⟩ := bind_some hm
          refine WO_call0 (.bool y_13) rfl rfl trivial rfl rfl rfl rfl St_closed ⟨20, #[], #[], rfl, callable_20, fun w hw => ⟨_, hw.satV, fiduciallaw44_same_walk (OwnE.rd (E := (I1 .i64)) (k := 1) (fun _ => rfl) hL13 (fun _ hx => hw.memV (i := 1) rfl hx)) (OwnE.rd (E := (I1 .i64)) (k := 1) (fun _ => rfl) hL20 (fun _ hx => hw.memV (i := 3) rfl hx)) hc24⟩⟩ ?_
          refine WO_pure tbok 2 [(6, .bool false), (7, .pointer (some ⟨b15, 0, none⟩)), (8, .int .i64 y_7), (53, .bool y_13)] rfl ⟨rfl, rfl, rfl, rfl, trivial⟩ ?_
          refine WO_split (d := 53) (b := y_13) rfl (fun hb25 => ?_) (fun hb25 => ?_)
          · have hm := ifT hb25 hm
            refine WO_pure tbok 3 [(6, .bool false), (7, .pointer (some ⟨b15, 0, none⟩)), (53, .bool true), (56, .bool (y_7 != 0))] rfl ⟨rfl, rfl, rfl, rfl, trivial⟩ ?_
            refine WO_split (d := 56) (b := y_7 != 0) rfl (fun hb26 => ?_) (fun hb26 => ?_)
            · have hm := ifT hb26 hm
              refine WO_pure tbok 1 [(6, .bool false), (53, .bool true), (56, .bool true)] rfl ⟨rfl, rfl, rfl, trivial⟩ ?_
              refine WO_skip rfl rfl ?_
              refine WO_pure tbok 4 [(6, .bool true)] rfl ⟨rfl, trivial⟩ ?_
              refine WO_end ?_
              cases hm
              exact WK_ret (ret_out (L := []) (RLc_tmp rfl RLc_nil) (List.nil_sublist _) rfl)
            · have hm := ifF hb26 hm
              refine WO_loadB tbok 2 rfl rfl rfl rfl (fun _ h => h) rfl rfl ?_
              obtain ⟨y_14, hc27, hm⟩ := bind_some hm
              refine WO_call0 (.int .i64 y_14) rfl rfl trivial rfl rfl rfl rfl St_closed ⟨21, #[], #[], rfl, callable_21, fun w hw => ⟨_, hw.satV, census_Check_walk (OwnE.rd (E := (I1 .i64)) (k := 1) (fun _ => rfl) hL13 (fun _ hx => hw.memV (i := 1) rfl hx)) hc27⟩⟩ ?_
              refine WO_pure tbok 4 [(6, .bool (y_14 == 0))] rfl ⟨rfl, trivial⟩ ?_
              refine WO_end ?_
              cases hm
              exact WK_ret (ret_out (L := []) (RLc_tmp rfl RLc_nil) (List.nil_sublist _) rfl)
          · have hm := ifF hb25 hm
            refine WO_pure tbok 4 [(6, .bool false), (53, .bool false), (56, undef)] rfl ⟨rfl, rfl, rfl, trivial⟩ ?_
            refine WO_skip rfl rfl ?_
            refine WO_pure tbok 4 [(6, .bool false)] rfl ⟨rfl, trivial⟩ ?_
            refine WO_end ?_
            cases hm
            exact WK_ret (ret_out (L := []) (RLc_tmp rfl RLc_nil) (List.nil_sublist _) rfl)
        · have hm := ifF hb23 hm
          refine WO_pure tbok 2 [(6, .bool false), (7, .pointer (some ⟨b15, 0, none⟩)), (8, .int .i64 y_7), (48, .bool false)] rfl ⟨rfl, rfl, rfl, rfl, trivial⟩ ?_
          refine WO_skip rfl rfl ?_
          refine WO_pure tbok 6 [(6, .bool false), (53, .bool false), (56, undef)] rfl ⟨rfl, rfl, rfl, trivial⟩ ?_
          refine WO_skip rfl rfl ?_
          refine WO_pure tbok 4 [(6, .bool false)] rfl ⟨rfl, trivial⟩ ?_
          refine WO_end ?_
          cases hm
          exact WK_ret (ret_out (L := []) (RLc_tmp rfl RLc_nil) (List.nil_sublist _) rfl)
    · refine WK_region ?_
      refine WO_pure tbok 2 [(1, .int .i64 p1), (2, .int .i64 p2), (3, .pointer (some ⟨b3, 0, none⟩)), (6, .bool false), (14, .pointer (some ⟨b3, 3, none⟩))] rfl ⟨rfl, rfl, rfl, rfl, rfl, trivial⟩ ?_
      refine WO_loadB tbok 0 rfl rfl rfl rfl (fun _ h => h) rfl rfl ?_
      refine WO_pure tbok 3 [(1, .int .i64 p1), (2, .int .i64 p2), (3, .pointer (some ⟨b3, 0, none⟩)), (6, .bool false), (18, .bool (decide (120 < (p0_3.length : Int))))] rfl ⟨rfl, rfl, rfl, rfl, rfl, trivial⟩ ?_
      refine WO_split (d := 18) (b := decide (120 < (p0_3.length : Int))) rfl (fun hb28 => ?_) (fun hb28 => ?_)
      · have hx6 := ifT hb28 hx6
        refine WO_pure tbok 6 [(1, .int .i64 p1), (2, .int .i64 p2), (3, .pointer (some ⟨b3, 0, none⟩)), (6, .bool false), (24, .bool true)] rfl ⟨rfl, rfl, rfl, rfl, rfl, trivial⟩ ?_
        refine WO_end ?_
        cases hx6
        refine WK.sub ?_ (WK.cls (fun _ h => h) hk7)
        exact ⟨rfl, rfl, rfl, rfl, rfl, trivial⟩
      · have hx6 := ifF hb28 hx6
        refine WO_pure tbok 2 [(1, .int .i64 p1), (2, .int .i64 p2), (3, .pointer (some ⟨b3, 0, none⟩)), (6, .bool false), (18, .bool false), (20, .pointer (some ⟨b3, 7, none⟩))] rfl ⟨rfl, rfl, rfl, rfl, rfl, rfl, trivial⟩ ?_
        refine WO_loadB tbok 0 rfl rfl rfl rfl (fun _ h => h) rfl rfl ?_
        refine WO_pure tbok 3 [(1, .int .i64 p1), (2, .int .i64 p2), (3, .pointer (some ⟨b3, 0, none⟩)), (6, .bool false), (24, .bool (decide (120 < (p0_7.length : Int))))] rfl ⟨rfl, rfl, rfl, rfl, rfl, trivial⟩ ?_
        refine WO_end ?_
        cases hx6
        refine WK.sub ?_ (WK.cls (fun _ h => h) hk7)
        exact ⟨rfl, rfl, rfl, rfl, rfl, trivial⟩
def fiduciallaw44_CensusOrder_c1_Q (r : Int × Int × Int × List Int) : Value → List Ent → Prop := fun v L => ∃ (a0 : Option Addr) (q0 c0 : Nat), v = .agg #[.int .i64 r.1, .int .i64 r.2.1, .int .i64 r.2.2.1, .slice a0 q0 c0] ∧ OwnE 3 1 (I1 .i64) (.slice a0 q0 c0) r.2.2.2 L
theorem fiduciallaw44_CensusOrder_c1_walk {m : Mu} {p0_0 : Int} {p0_1 : Int} {p0_2 : Int} {p0_3 : List Int} {q0_0 : List Int} {a_p0_3 : Option Addr} {q_p0_3 c_p0_3 : Nat} {a_q0_0 : Option Addr} {q_q0_0 c_q0_0 : Nat} {b_q0 : Nat} (h_p0_3 : SlR (FE (I1 .i64)) 1 m (.slice a_p0_3 q_p0_3 c_p0_3) p0_3) (hb_q0 : m b_q0 = some (Ent.obj ⟨b_q0, 47, [.slice a_q0_0 q_q0_0 c_q0_0]⟩)) (h_q0_0 : SlR (FE (I1 .u8)) 1 m (.slice a_q0_0 q_q0_0 c_q0_0) q0_0) {r : Int × Int × Int × List Int} (hm : fiduciallaw44_CensusOrder_c1 p0_0 p0_1 p0_2 p0_3 q0_0 = some r) :
    Go.E.Spec Try.prog 25 [.agg #[.int .i64 p0_0, .int .i64 p0_1, .int .i64 p0_2, .slice a_p0_3 q_p0_3 c_p0_3], .pointer (some ⟨b_q0, 0, none⟩)] m (fun v _ L => fiduciallaw44_CensusOrder_c1_Q r v L) := by
  refine Spec_enter Try.func25 rfl rfl rfl (fun w0 => ?_)
  refine WK.sub (e' := [(0, .agg #[.int .i64 p0_0, .int .i64 p0_1, .int .i64 p0_2, .slice a_p0_3 q_p0_3 c_p0_3]), (1, .pointer (some ⟨b_q0, 0, none⟩))]) ⟨rfl, rfl, trivial⟩ ?_
  obtain rfl := SlR.qlen h_p0_3
  obtain rfl := SlR.qlen h_q0_0
  refine WK.sub (e' := [(0, .agg #[.int .i64 p0_0, .int .i64 p0_1, .int .i64 p0_2, .slice a_p0_3 p0_3.length c_p0_3]), (1, .pointer (some ⟨b_q0, 0, none⟩))]) ⟨rfl, rfl, trivial⟩ ?_
  unfold fiduciallaw44_CensusOrder_c1 at hm
  refine WK_seq ?_
  refine WK_region ?_
  refine WO_box [.int .i64 p0_0, .int .i64 p0_1, .int .i64 p0_2, .slice a_p0_3 p0_3.length c_p0_3] rfl rfl trivial rfl rfl rfl (fun b3 => ?_)
  refine WO.cls (C' := St w0 m m [[⟨b3, 24, [.int .i64 p0_0, .int .i64 p0_1, .int .i64 p0_2, .slice a_p0_3 p0_3.length c_p0_3]⟩]]) (fun _ h => h) ?_
  refine WO_alloc tbok [.int .i64 0, .int .i64 0, .int .i64 0, .slice none 0 0] rfl rfl trivial rfl rfl rfl rfl (fun b4 => ?_)
  refine WO.cls (C' := St w0 m m [[⟨b3, 24, [.int .i64 p0_0, .int .i64 p0_1, .int .i64 p0_2, .slice a_p0_3 p0_3.length c_p0_3]⟩], [⟨b4, 24, [.int .i64 0, .int .i64 0, .int .i64 0, .slice none 0 0]⟩]]) (fun _ h => h) ?_
  refine WO_end ?_
  refine WK_seq ?_
  refine WK_region ?_
  refine WO_pure tbok 1 [(1, .pointer (some ⟨b_q0, 0, none⟩)), (2, .pointer (some ⟨b3, 0, none⟩)), (3, .pointer (some ⟨b4, 0, none⟩)), (9, .pointer (some ⟨b3, 0, none⟩))] rfl ⟨rfl, rfl, rfl, rfl, trivial⟩ ?_
  refine WO_loadB tbok 0 rfl rfl rfl rfl (fun _ h => h) rfl rfl ?_
  refine WO_pure tbok 1 [(1, .pointer (some ⟨b_q0, 0, none⟩)), (2, .pointer (some ⟨b3, 0, none⟩)), (3, .pointer (some ⟨b4, 0, none⟩)), (10, .int .i64 p0_0), (11, .pointer (some ⟨b3, 1, none⟩))] rfl ⟨rfl, rfl, rfl, rfl, rfl, trivial⟩ ?_
  refine WO_loadB tbok 0 rfl rfl rfl rfl (fun _ h => h) rfl rfl ?_
  refine WO_pure tbok 1 [(1, .pointer (some ⟨b_q0, 0, none⟩)), (2, .pointer (some ⟨b3, 0, none⟩)), (3, .pointer (some ⟨b4, 0, none⟩)), (13, .agg #[.int .i64 p0_0, .int .i64 p0_1, .int .i64 65535, .slice none 0 0])] rfl ⟨rfl, rfl, rfl, rfl, trivial⟩ ?_
  refine WO_alloc tbok [.int .i64 0, .int .i64 0, .int .i64 0, .slice none 0 0] rfl rfl trivial rfl rfl rfl rfl (fun b5 => ?_)
  refine WO.cls (C' := St w0 m m [[⟨b3, 24, [.int .i64 p0_0, .int .i64 p0_1, .int .i64 p0_2, .slice a_p0_3 p0_3.length c_p0_3]⟩], [⟨b4, 24, [.int .i64 0, .int .i64 0, .int .i64 0, .slice none 0 0]⟩], [⟨b5, 24, [.int .i64 0, .int .i64 0, .int .i64 0, .slice none 0 0]⟩]]) (fun _ h => h) ?_
  refine WO_storeB tbok 2 [.int .i64 p0_0, .int .i64 p0_1, .int .i64 65535, .slice none 0 0] rfl rfl rfl rfl rfl rfl rfl ?_
  refine WO.cls (C' := St w0 m m [[⟨b3, 24, [.int .i64 p0_0, .int .i64 p0_1, .int .i64 p0_2, .slice a_p0_3 p0_3.length c_p0_3]⟩], [⟨b4, 24, [.int .i64 0, .int .i64 0, .int .i64 0, .slice none 0 0]⟩], [⟨b5, 24, [.int .i64 p0_0, .int .i64 p0_1, .int .i64 65535, .slice none 0 0]⟩]]) (fun _ h => h) ?_
  refine WO_end ?_
  refine WK_seq ?_
  refine WK_seq ?_
  refine WK_region ?_
  refine WO_pure tbok 1 [(1, .pointer (some ⟨b_q0, 0, none⟩)), (3, .pointer (some ⟨b4, 0, none⟩)), (4, .pointer (some ⟨b5, 0, none⟩)), (14, .pointer (some ⟨b3, 3, none⟩))] rfl ⟨rfl, rfl, rfl, rfl, trivial⟩ ?_
  refine WO_loadB tbok 0 rfl rfl rfl rfl (fun _ h => h) rfl rfl ?_
  refine WO_pure tbok 2 [(1, .pointer (some ⟨b_q0, 0, none⟩)), (3, .pointer (some ⟨b4, 0, none⟩)), (4, .pointer (some ⟨b5, 0, none⟩)), (15, .slice a_p0_3 p0_3.length c_p0_3), (16, .int .i64 (p0_3.length : Int)), (17, .int .i64 0)] rfl ⟨rfl, rfl, rfl, rfl, rfl, rfl, trivial⟩ ?_
  refine WO_end ?_
  refine WK_pad ?_
  obtain ⟨x17, hx18, hm⟩ := bind_some hm
  refine WK_join (β := (List Int) × (Option Addr × Nat × Nat × List Ent)) (fun p => p.1 = x17 ∧ OwnE 3 1 (I1 .i64) (.slice p.2.1 p.2.2.1 p.2.2.2.1) p.1 p.2.2.2.2) (fun p => [(3, .pointer (some ⟨b4, 0, none⟩)), (4, .pointer (some ⟨b5, 0, none⟩))]) (fun p => St w0 m m [[⟨b3, 24, [.int .i64 p0_0, .int .i64 p0_1, .int .i64 p0_2, .slice a_p0_3 p0_3.length c_p0_3]⟩], [⟨b4, 24, [.int .i64 0, .int .i64 0, .int .i64 0, .slice none 0 0]⟩], [⟨b5, 24, [.int .i64 p0_0, .int .i64 p0_1, .int .i64 65535, .slice p.2.1 p.2.2.1 p.2.2.2.1]⟩], p.2.2.2.2]) ?_ (fun hk19 => ?_)
  · rintro ⟨l_3, ⟨a14, q15, c16, L13⟩⟩ ⟨hq25, hL13⟩
    subst hq25
    have hqq : q15 = l_3.length := OwnE.qlen hL13
    subst hqq
    refine WK.sub (e' := [(3, .pointer (some ⟨b4, 0, none⟩)), (4, .pointer (some ⟨b5, 0, none⟩))]) ⟨rfl, rfl, trivial⟩ (WK.cls (C' := St w0 m m [[⟨b3, 24, [.int .i64 p0_0, .int .i64 p0_1, .int .i64 p0_2, .slice a_p0_3 p0_3.length c_p0_3]⟩], [⟨b4, 24, [.int .i64 0, .int .i64 0, .int .i64 0, .slice none 0 0]⟩], [⟨b5, 24, [.int .i64 p0_0, .int .i64 p0_1, .int .i64 65535, .slice a14 ((l_3).length) c16]⟩], L13]) (fun _ h => h) ?_)
    refine WK_seq ?_
    refine WK_region ?_
    refine WO_loadB tbok 2 rfl rfl rfl rfl (fun _ h => h) rfl rfl ?_
    refine WO_storeB tbok 1 [.int .i64 p0_0, .int .i64 p0_1, .int .i64 65535, .slice a14 ((l_3).length) c16] rfl rfl rfl rfl rfl rfl rfl ?_
    refine WO.cls (C' := St w0 m m [[⟨b3, 24, [.int .i64 p0_0, .int .i64 p0_1, .int .i64 p0_2, .slice a_p0_3 p0_3.length c_p0_3]⟩], [⟨b4, 24, [.int .i64 p0_0, .int .i64 p0_1, .int .i64 65535, .slice a14 ((l_3).length) c16]⟩], [⟨b5, 24, [.int .i64 p0_0, .int .i64 p0_1, .int .i64 65535, .slice a14 ((l_3).length) c16]⟩], L13]) (fun _ h => h) ?_
    refine WO_end ?_
    cases hm
    exact WK_ret (ret_out (L := L13) (RLc_cell tbok 1 rfl rfl rfl RLc_nil) (seg_sub 3 rfl) ⟨a14, _, c16, rfl, hL13⟩)
  · refine WK_block ?_
    refine WK_loop (S := List Int × Int) (G := Option Addr × Nat × Nat × List Ent) (fun s => fiduciallaw44_CensusOrder_c1_s1 p0_3 q0_0 s.1 s.2) (fun s g => [(1, .pointer (some ⟨b_q0, 0, none⟩)), (3, .pointer (some ⟨b4, 0, none⟩)), (4, .pointer (some ⟨b5, 0, none⟩)), (15, .slice a_p0_3 p0_3.length c_p0_3), (16, .int .i64 (p0_3.length : Int)), (17, .int .i64 s.2)]) (fun s g => St w0 m m [[⟨b3, 24, [.int .i64 p0_0, .int .i64 p0_1, .int .i64 p0_2, .slice a_p0_3 p0_3.length c_p0_3]⟩], [⟨b4, 24, [.int .i64 0, .int .i64 0, .int .i64 0, .slice none 0 0]⟩], [⟨b5, 24, [.int .i64 p0_0, .int .i64 p0_1, .int .i64 65535, .slice g.1 g.2.1 g.2.2.1]⟩], g.2.2.2]) (fun s g => OwnE 3 1 (I1 .i64) (.slice g.1 g.2.1 g.2.2.1) s.1 g.2.2.2) FUEL (([] : List Int), 0) (none, 0, 0, []) x17 hx18 (OwnE.nil (T := 3) (k := 1) (E := (I1 .i64)) none) ⟨rfl, rfl, rfl, rfl, rfl, rfl, trivial⟩ (fun _ h => h) ?_
    rintro ⟨l_1, s_2⟩ ⟨a9, q10, c11, L8⟩ o21 fl22 hm20 hL8 hn23 hd24
    have hm20 : fiduciallaw44_CensusOrder_c1_s1 p0_3 q0_0 l_1 s_2 = some o21 := hm20
    unfold fiduciallaw44_CensusOrder_c1_s1 at hm20
    have hqq : q10 = l_1.length := OwnE.qlen hL8
    subst hqq
    refine WK.sub (e' := [(1, .pointer (some ⟨b_q0, 0, none⟩)), (3, .pointer (some ⟨b4, 0, none⟩)), (4, .pointer (some ⟨b5, 0, none⟩)), (15, .slice a_p0_3 p0_3.length c_p0_3), (16, .int .i64 (p0_3.length : Int)), (17, .int .i64 s_2)]) ⟨rfl, rfl, rfl, rfl, rfl, rfl, trivial⟩ (WK.cls (C' := St w0 m m [[⟨b3, 24, [.int .i64 p0_0, .int .i64 p0_1, .int .i64 p0_2, .slice a_p0_3 p0_3.length c_p0_3]⟩], [⟨b4, 24, [.int .i64 0, .int .i64 0, .int .i64 0, .slice none 0 0]⟩], [⟨b5, 24, [.int .i64 p0_0, .int .i64 p0_1, .int .i64 65535, .slice a9 ((l_1).length) c11]⟩], L8]) (fun _ h => h) ?_)
    refine WK_seq ?_
    refine WK_region ?_
    refine WO_pure tbok 1 [(1, .pointer (some ⟨b_q0, 0, none⟩)), (3, .pointer (some ⟨b4, 0, none⟩)), (4, .pointer (some ⟨b5, 0, none⟩)), (15, .slice a_p0_3 p0_3.length c_p0_3), (16, .int .i64 (p0_3.length : Int)), (17, .int .i64 s_2), (18, .bool (decide (s_2 < (p0_3.length : Int))))] rfl ⟨rfl, rfl, rfl, rfl, rfl, rfl, rfl, trivial⟩ ?_
    refine WO_end ?_
    refine WK_seq ?_
    refine WK_cond (b := decide (s_2 < (p0_3.length : Int))) rfl (fun hb26 => ?_) (fun hb26 => ?_)
    · have hm20 := ifT hb26 hm20
      refine WK_skip ?_
      refine WK_seq ?_
      refine WK_block ?_
      refine WK_seq ?_
      refine WK_region ?_
      obtain ⟨v_4, hy27, hm20⟩ := bind_some hm20
      obtain ⟨hc28, hy27⟩ := ix_some hy27
      refine WO_index tbok rfl rfl rfl rfl rfl rfl rfl rfl (SlR.addr h_p0_3) hc28 ?_
      refine WO_loadE tbok rfl rfl rfl rfl (fun _ h => St.sat h) h_p0_3 hy27 rfl ?_
      refine WO_pure tbok 1 [(1, .pointer (some ⟨b_q0, 0, none⟩)), (3, .pointer (some ⟨b4, 0, none⟩)), (4, .pointer (some ⟨b5, 0, none⟩)), (6, .int .i64 v_4), (15, .slice a_p0_3 p0_3.length c_p0_3), (16, .int .i64 (p0_3.length : Int)), (17, .int .i64 s_2)] rfl ⟨rfl, rfl, rfl, rfl, rfl, rfl, rfl, trivial⟩ ?_
      refine WO_end ?_
      refine WK_seq ?_
      refine WK_region ?_
      refine WO_pure tbok 2 [(1, .pointer (some ⟨b_q0, 0, none⟩)), (3, .pointer (some ⟨b4, 0, none⟩)), (4, .pointer (some ⟨b5, 0, none⟩)), (6, .int .i64 v_4), (7, .int .i64 v_4), (15, .slice a_p0_3 p0_3.length c_p0_3), (16, .int .i64 (p0_3.length : Int)), (17, .int .i64 s_2)] rfl ⟨rfl, rfl, rfl, rfl, rfl, rfl, rfl, rfl, trivial⟩ ?_
      refine WO_end ?_
      refine WK_seq ?_
      refine WK_seq ?_
      refine WK_region ?_
      refine WO_pure tbok 1 [(1, .pointer (some ⟨b_q0, 0, none⟩)), (3, .pointer (some ⟨b4, 0, none⟩)), (4, .pointer (some ⟨b5, 0, none⟩)), (6, .int .i64 v_4), (7, .int .i64 v_4), (8, .int .i64 0), (15, .slice a_p0_3 p0_3.length c_p0_3), (16, .int .i64 (p0_3.length : Int)), (17, .int .i64 s_2)] rfl ⟨rfl, rfl, rfl, rfl, rfl, rfl, rfl, rfl, rfl, trivial⟩ ?_
      refine WO_end ?_
      obtain ⟨x29, hx30, hm20⟩ := bind_some hm20
      refine WK_join (β := Int × Unit) (fun p => p.1 = x29) (fun p => [(1, .pointer (some ⟨b_q0, 0, none⟩)), (3, .pointer (some ⟨b4, 0, none⟩)), (4, .pointer (some ⟨b5, 0, none⟩)), (7, .int .i64 p.1), (15, .slice a_p0_3 p0_3.length c_p0_3), (16, .int .i64 (p0_3.length : Int)), (17, .int .i64 s_2)]) (fun p => St w0 m m [[⟨b3, 24, [.int .i64 p0_0, .int .i64 p0_1, .int .i64 p0_2, .slice a_p0_3 p0_3.length c_p0_3]⟩], [⟨b4, 24, [.int .i64 0, .int .i64 0, .int .i64 0, .slice none 0 0]⟩], [⟨b5, 24, [.int .i64 p0_0, .int .i64 p0_1, .int .i64 65535, .slice a9 ((l_1).length) c11]⟩], L8]) ?_ (fun hk31 => ?_)
      · rintro ⟨s_7, ⟨⟩⟩ hq37
        subst hq37
        refine WK.sub (e' := [(1, .pointer (some ⟨b_q0, 0, none⟩)), (3, .pointer (some ⟨b4, 0, none⟩)), (4, .pointer (some ⟨b5, 0, none⟩)), (7, .int .i64 s_7), (15, .slice a_p0_3 p0_3.length c_p0_3), (16, .int .i64 (p0_3.length : Int)), (17, .int .i64 s_2)]) ⟨rfl, rfl, rfl, rfl, rfl, rfl, rfl, trivial⟩ (WK.cls (C' := St w0 m m [[⟨b3, 24, [.int .i64 p0_0, .int .i64 p0_1, .int .i64 p0_2, .slice a_p0_3 p0_3.length c_p0_3]⟩], [⟨b4, 24, [.int .i64 0, .int .i64 0, .int .i64 0, .slice none 0 0]⟩], [⟨b5, 24, [.int .i64 p0_0, .int .i64 p0_1, .int .i64 65535, .slice a9 ((l_1).length) c11]⟩], L8]) (fun _ h => h) ?_)
        refine WK_region ?_
        refine WO_pure tbok 1 [(1, .pointer (some ⟨b_q0, 0, none⟩)), (3, .pointer (some ⟨b4, 0, none⟩)), (4, .pointer (some ⟨b5, 0, none⟩)), (7, .int .i64 s_7), (15, .slice a_p0_3 p0_3.length c_p0_3), (16, .int .i64 (p0_3.length : Int)), (17, .int .i64 s_2), (41, .pointer (some ⟨b5, 3, none⟩))] rfl ⟨rfl, rfl, rfl, rfl, rfl, rfl, rfl, rfl, trivial⟩ ?_
        refine WO_loadB tbok 2 rfl rfl rfl rfl (fun _ h => h) rfl rfl ?_
        refine WO_pure tbok 1 [(1, .pointer (some ⟨b_q0, 0, none⟩)), (3, .pointer (some ⟨b4, 0, none⟩)), (4, .pointer (some ⟨b5, 0, none⟩)), (15, .slice a_p0_3 p0_3.length c_p0_3), (16, .int .i64 (p0_3.length : Int)), (17, .int .i64 s_2), (42, .slice a9 ((l_1).length) c11), (43, .int .i64 s_7)] rfl ⟨rfl, rfl, rfl, rfl, rfl, rfl, rfl, rfl, trivial⟩ ?_
        refine WO_bslice (E := (I1 .i64)) tbok (fun _ => rfl) (by decide) [.int .i64 s_7] ([s_7] : List Int) rfl rfl trivial rfl rfl rfl rfl rfl rfl rfl rfl rfl rfl rfl rfl (fun b38 hb38 => ?_)
        refine WO.cls (C' := St w0 m m [[⟨b3, 24, [.int .i64 p0_0, .int .i64 p0_1, .int .i64 p0_2, .slice a_p0_3 p0_3.length c_p0_3]⟩], [⟨b4, 24, [.int .i64 0, .int .i64 0, .int .i64 0, .slice none 0 0]⟩], [⟨b5, 24, [.int .i64 p0_0, .int .i64 p0_1, .int .i64 65535, .slice a9 ((l_1).length) c11]⟩], L8, [⟨b38, 3, ([s_7] : List Int).flatMap (I1 .i64)⟩]]) (fun _ h => h) ?_
        obtain ⟨hc40, hm20⟩ := chk_some hm20
        refine WO_append (E := (I1 .i64)) tbok (fun _ => rfl) 3 ([s_7] : List Int) (fun _ _ => rfl) rfl rfl rfl rfl rfl rfl rfl rfl rfl rfl rfl rfl hL8 rfl (src_seg (j := 4) rfl) (ap_ok (by decide) hc40) (ap_max hc40) (fun a41 c42 L43 hL43 => ?_)
        refine WO.cls (C' := St w0 m m [[⟨b3, 24, [.int .i64 p0_0, .int .i64 p0_1, .int .i64 p0_2, .slice a_p0_3 p0_3.length c_p0_3]⟩], [⟨b4, 24, [.int .i64 0, .int .i64 0, .int .i64 0, .slice none 0 0]⟩], [⟨b5, 24, [.int .i64 p0_0, .int .i64 p0_1, .int .i64 65535, .slice a9 ((l_1).length) c11]⟩], L43, [⟨b38, 3, ([s_7] : List Int).flatMap (I1 .i64)⟩]]) (fun _ h => h) ?_
        refine WO_pure tbok 1 [(1, .pointer (some ⟨b_q0, 0, none⟩)), (3, .pointer (some ⟨b4, 0, none⟩)), (4, .pointer (some ⟨b5, 0, none⟩)), (15, .slice a_p0_3 p0_3.length c_p0_3), (16, .int .i64 (p0_3.length : Int)), (17, .int .i64 s_2), (45, .slice a41 ((l_1 ++ ([s_7] : List Int)).length) c42), (46, .pointer (some ⟨b5, 3, none⟩))] rfl ⟨rfl, rfl, rfl, rfl, rfl, rfl, rfl, rfl, trivial⟩ ?_
        refine WO_storeB tbok 2 [.int .i64 p0_0, .int .i64 p0_1, .int .i64 65535, .slice a41 ((l_1 ++ ([s_7] : List Int)).length) c42] rfl rfl rfl rfl rfl rfl rfl ?_
        refine WO.cls (C' := St w0 m m [[⟨b3, 24, [.int .i64 p0_0, .int .i64 p0_1, .int .i64 p0_2, .slice a_p0_3 p0_3.length c_p0_3]⟩], [⟨b4, 24, [.int .i64 0, .int .i64 0, .int .i64 0, .slice none 0 0]⟩], [⟨b5, 24, [.int .i64 p0_0, .int .i64 p0_1, .int .i64 65535, .slice a41 ((l_1 ++ ([s_7] : List Int)).length) c42]⟩], L43, [⟨b38, 3, ([s_7] : List Int).flatMap (I1 .i64)⟩]]) (fun _ h => h) ?_
        refine WO_end ?_
        refine WK_blk ?_
        refine WK_region ?_
        refine WO_pure tbok 2 [(1, .pointer (some ⟨b_q0, 0, none⟩)), (3, .pointer (some ⟨b4, 0, none⟩)), (4, .pointer (some ⟨b5, 0, none⟩)), (15, .slice a_p0_3 p0_3.length c_p0_3), (16, .int .i64 (p0_3.length : Int)), (17, .int .i64 (w64 (s_2 + 1)))] rfl ⟨rfl, rfl, rfl, rfl, rfl, rfl, trivial⟩ ?_
        refine WO_end ?_
        cases hm20
        refine WK.sub ?_ (WK.cls (fun _ h => St.take 4 h) (hn23 _ (a41, (l_1 ++ ([s_7] : List Int)).length, c42, L43) rfl hL43))
        exact ⟨rfl, rfl, rfl, rfl, rfl, rfl, trivial⟩
      · refine WK_block ?_
        refine WK_loop (S := Int × Int) (G := Unit) (fun s => fiduciallaw44_CensusOrder_c1_s2 q0_0 v_4 s.1 s.2) (fun s g => [(1, .pointer (some ⟨b_q0, 0, none⟩)), (3, .pointer (some ⟨b4, 0, none⟩)), (4, .pointer (some ⟨b5, 0, none⟩)), (6, .int .i64 v_4), (7, .int .i64 s.1), (8, .int .i64 s.2), (15, .slice a_p0_3 p0_3.length c_p0_3), (16, .int .i64 (p0_3.length : Int)), (17, .int .i64 s_2)]) (fun s g => St w0 m m [[⟨b3, 24, [.int .i64 p0_0, .int .i64 p0_1, .int .i64 p0_2, .slice a_p0_3 p0_3.length c_p0_3]⟩], [⟨b4, 24, [.int .i64 0, .int .i64 0, .int .i64 0, .slice none 0 0]⟩], [⟨b5, 24, [.int .i64 p0_0, .int .i64 p0_1, .int .i64 65535, .slice a9 ((l_1).length) c11]⟩], L8]) (fun s g => True) FUEL (v_4, 0) () x29 hx30 trivial ⟨rfl, rfl, rfl, rfl, rfl, rfl, rfl, rfl, rfl, trivial⟩ (fun _ h => h) ?_
        rintro ⟨s_5, s_6⟩ ⟨⟩ o33 fl34 hm32 - hn35 hd36
        have hm32 : fiduciallaw44_CensusOrder_c1_s2 q0_0 v_4 s_5 s_6 = some o33 := hm32
        unfold fiduciallaw44_CensusOrder_c1_s2 at hm32
        refine WK.sub (e' := [(1, .pointer (some ⟨b_q0, 0, none⟩)), (3, .pointer (some ⟨b4, 0, none⟩)), (4, .pointer (some ⟨b5, 0, none⟩)), (6, .int .i64 v_4), (7, .int .i64 s_5), (8, .int .i64 s_6), (15, .slice a_p0_3 p0_3.length c_p0_3), (16, .int .i64 (p0_3.length : Int)), (17, .int .i64 s_2)]) ⟨rfl, rfl, rfl, rfl, rfl, rfl, rfl, rfl, rfl, trivial⟩ (WK.cls (C' := St w0 m m [[⟨b3, 24, [.int .i64 p0_0, .int .i64 p0_1, .int .i64 p0_2, .slice a_p0_3 p0_3.length c_p0_3]⟩], [⟨b4, 24, [.int .i64 0, .int .i64 0, .int .i64 0, .slice none 0 0]⟩], [⟨b5, 24, [.int .i64 p0_0, .int .i64 p0_1, .int .i64 65535, .slice a9 ((l_1).length) c11]⟩], L8]) (fun _ h => h) ?_)
        refine WK_seq ?_
        refine WK_seq ?_
        obtain ⟨s_8, hx45, hm32⟩ := bind_some hm32
        refine WK_meet [(1, .pointer (some ⟨b_q0, 0, none⟩)), (3, .pointer (some ⟨b4, 0, none⟩)), (4, .pointer (some ⟨b5, 0, none⟩)), (6, .int .i64 v_4), (7, .int .i64 s_5), (8, .int .i64 s_6), (15, .slice a_p0_3 p0_3.length c_p0_3), (16, .int .i64 (p0_3.length : Int)), (17, .int .i64 s_2), (30, .bool s_8)] (St w0 m m [[⟨b3, 24, [.int .i64 p0_0, .int .i64 p0_1, .int .i64 p0_2, .slice a_p0_3 p0_3.length c_p0_3]⟩], [⟨b4, 24, [.int .i64 0, .int .i64 0, .int .i64 0, .slice none 0 0]⟩], [⟨b5, 24, [.int .i64 p0_0, .int .i64 p0_1, .int .i64 65535, .slice a9 ((l_1).length) c11]⟩], L8]) ?_ (fun hk46 => ?_)
        · refine WK_cond (b := s_8) rfl (fun hb47 => ?_) (fun hb47 => ?_)
          · have hm32 := ifT hb47 hm32
            refine WK_skip ?_
            refine WK_seq ?_
            refine WK_block ?_
            refine WK_region ?_
            refine WO_pure tbok 1 [(1, .pointer (some ⟨b_q0, 0, none⟩)), (3, .pointer (some ⟨b4, 0, none⟩)), (4, .pointer (some ⟨b5, 0, none⟩)), (6, .int .i64 v_4), (7, .int .i64 s_5), (8, .int .i64 s_6), (15, .slice a_p0_3 p0_3.length c_p0_3), (16, .int .i64 (p0_3.length : Int)), (17, .int .i64 s_2), (33, .int .i64 s_5)] rfl ⟨rfl, rfl, rfl, rfl, rfl, rfl, rfl, rfl, rfl, rfl, trivial⟩ ?_
            refine WO_loadM tbok rfl rfl rfl rfl (fun _ h => St.sat h) hb_q0 rfl ?_
            refine WO_pure tbok 1 [(1, .pointer (some ⟨b_q0, 0, none⟩)), (3, .pointer (some ⟨b4, 0, none⟩)), (4, .pointer (some ⟨b5, 0, none⟩)), (6, .int .i64 v_4), (7, .int .i64 s_5), (8, .int .i64 s_6), (15, .slice a_p0_3 p0_3.length c_p0_3), (16, .int .i64 (p0_3.length : Int)), (17, .int .i64 s_2), (33, .int .i64 s_5), (34, .slice a_q0_0 q0_0.length c_q0_0), (35, .int .i64 s_6)] rfl ⟨rfl, rfl, rfl, rfl, rfl, rfl, rfl, rfl, rfl, rfl, rfl, rfl, trivial⟩ ?_
            obtain ⟨v_9, hy48, hm32⟩ := bind_some hm32
            obtain ⟨hc49, hy48⟩ := ix_some hy48
            refine WO_index tbok rfl rfl rfl rfl rfl rfl rfl rfl (SlR.addr h_q0_0) hc49 ?_
            refine WO_loadE tbok rfl rfl rfl rfl (fun _ h => St.sat h) h_q0_0 hy48 rfl ?_
            refine WO_pure tbok 4 [(1, .pointer (some ⟨b_q0, 0, none⟩)), (3, .pointer (some ⟨b4, 0, none⟩)), (4, .pointer (some ⟨b5, 0, none⟩)), (6, .int .i64 v_4), (7, .int .i64 (w64 (s_5 + (Int.tmod (w64 (v_9)) 200)))), (8, .int .i64 s_6), (15, .slice a_p0_3 p0_3.length c_p0_3), (16, .int .i64 (p0_3.length : Int)), (17, .int .i64 s_2)] rfl ⟨rfl, rfl, rfl, rfl, rfl, rfl, rfl, rfl, rfl, trivial⟩ ?_
            refine WO_end ?_
            refine WK_blk ?_
            refine WK_region ?_
            refine WO_pure tbok 3 [(1, .pointer (some ⟨b_q0, 0, none⟩)), (3, .pointer (some ⟨b4, 0, none⟩)), (4, .pointer (some ⟨b5, 0, none⟩)), (6, .int .i64 v_4), (7, .int .i64 (w64 (s_5 + (Int.tmod (w64 (v_9)) 200)))), (8, .int .i64 (w64 (s_6 + 1))), (15, .slice a_p0_3 p0_3.length c_p0_3), (16, .int .i64 (p0_3.length : Int)), (17, .int .i64 s_2)] rfl ⟨rfl, rfl, rfl, rfl, rfl, rfl, rfl, rfl, rfl, trivial⟩ ?_
            refine WO_end ?_
            cases hm32
            refine WK.sub ?_ (WK.cls (fun _ h => h) (hn35 _ () rfl trivial))
            exact ⟨rfl, rfl, rfl, rfl, rfl, rfl, rfl, rfl, rfl, trivial⟩
          · have hm32 := ifF hb47 hm32
            refine WK_exit rfl ?_
            cases hm32
            refine WK.sub ?_ (WK.cls (fun _ h => h) (hk31 (s_5, ()) (hd36 _ rfl)))
            exact ⟨rfl, rfl, rfl, rfl, rfl, rfl, rfl, trivial⟩
        · refine WK_region ?_
          refine WO_pure tbok 4 [(1, .pointer (some ⟨b_q0, 0, none⟩)), (3, .pointer (some ⟨b4, 0, none⟩)), (4, .pointer (some ⟨b5, 0, none⟩)), (6, .int .i64 v_4), (7, .int .i64 s_5), (8, .int .i64 s_6), (15, .slice a_p0_3 p0_3.length c_p0_3), (16, .int .i64 (p0_3.length : Int)), (17, .int .i64 s_2), (25, .bool (decide (s_6 ≤ v_4)))] rfl ⟨rfl, rfl, rfl, rfl, rfl, rfl, rfl, rfl, rfl, rfl, trivial⟩ ?_
          refine WO_split (d := 25) (b := decide (s_6 ≤ v_4)) rfl (fun hb50 => ?_) (fun hb50 => ?_)
          · have hx45 := ifT hb50 hx45
            refine WO_pure tbok 1 [(1, .pointer (some ⟨b_q0, 0, none⟩)), (3, .pointer (some ⟨b4, 0, none⟩)), (4, .pointer (some ⟨b5, 0, none⟩)), (6, .int .i64 v_4), (7, .int .i64 s_5), (8, .int .i64 s_6), (15, .slice a_p0_3 p0_3.length c_p0_3), (16, .int .i64 (p0_3.length : Int)), (17, .int .i64 s_2), (25, .bool true), (26, .int .i64 s_6)] rfl ⟨rfl, rfl, rfl, rfl, rfl, rfl, rfl, rfl, rfl, rfl, rfl, trivial⟩ ?_
            refine WO_loadM tbok rfl rfl rfl rfl (fun _ h => St.sat h) hb_q0 rfl ?_
            refine WO_pure tbok 3 [(1, .pointer (some ⟨b_q0, 0, none⟩)), (3, .pointer (some ⟨b4, 0, none⟩)), (4, .pointer (some ⟨b5, 0, none⟩)), (6, .int .i64 v_4), (7, .int .i64 s_5), (8, .int .i64 s_6), (15, .slice a_p0_3 p0_3.length c_p0_3), (16, .int .i64 (p0_3.length : Int)), (17, .int .i64 s_2), (30, .bool (decide (s_6 < (q0_0.length : Int))))] rfl ⟨rfl, rfl, rfl, rfl, rfl, rfl, rfl, rfl, rfl, rfl, trivial⟩ ?_
            refine WO_end ?_
            cases hx45
            refine WK.sub ?_ (WK.cls (fun _ h => h) hk46)
            exact ⟨rfl, rfl, rfl, rfl, rfl, rfl, rfl, rfl, rfl, rfl, trivial⟩
          · have hx45 := ifF hb50 hx45
            refine WO_pure tbok 5 [(1, .pointer (some ⟨b_q0, 0, none⟩)), (3, .pointer (some ⟨b4, 0, none⟩)), (4, .pointer (some ⟨b5, 0, none⟩)), (6, .int .i64 v_4), (7, .int .i64 s_5), (8, .int .i64 s_6), (15, .slice a_p0_3 p0_3.length c_p0_3), (16, .int .i64 (p0_3.length : Int)), (17, .int .i64 s_2), (30, .bool false)] rfl ⟨rfl, rfl, rfl, rfl, rfl, rfl, rfl, rfl, rfl, rfl, trivial⟩ ?_
            refine WO_end ?_
            cases hx45
            refine WK.sub ?_ (WK.cls (fun _ h => h) hk46)
            exact ⟨rfl, rfl, rfl, rfl, rfl, rfl, rfl, rfl, rfl, rfl, trivial⟩
    · have hm20 := ifF hb26 hm20
      refine WK_exit rfl ?_
      cases hm20
      refine WK.sub ?_ (WK.cls (fun _ h => h) (hk19 (l_1, (a9, _, c11, L8)) ⟨(hd24 _ rfl), hL8⟩))
      exact ⟨rfl, rfl, trivial⟩
theorem fiduciallaw44_CensusOrder_walk {m : Mu} {p0_0 : Int} {p0_1 : Int} {p0_2 : Int} {p0_3 : List Int} {p0_4 : Int} {p0_5 : Int} {p0_6 : Int} {p0_7 : List Int} {p1 : Int} {p2 : List Int} {a_p0_3 : Option Addr} {q_p0_3 c_p0_3 : Nat} {a_p0_7 : Option Addr} {q_p0_7 c_p0_7 : Nat} {a_p2 : Option Addr} {q_p2 c_p2 : Nat} (h_p0_3 : SlR (FE (I1 .i64)) 1 m (.slice a_p0_3 q_p0_3 c_p0_3) p0_3) (h_p0_7 : SlR (FE (I1 .i64)) 1 m (.slice a_p0_7 q_p0_7 c_p0_7) p0_7) (h_p2 : SlR (FE (I1 .u8)) 1 m (.slice a_p2 q_p2 c_p2) p2) {r : Bool} (hm : fiduciallaw44_CensusOrder p0_0 p0_1 p0_2 p0_3 p0_4 p0_5 p0_6 p0_7 p1 p2 = some r) :
    Go.E.Spec Try.prog 6 [.agg #[.int .i64 p0_0, .int .i64 p0_1, .int .i64 p0_2, .slice a_p0_3 q_p0_3 c_p0_3, .int .i64 p0_4, .int .i64 p0_5, .int .i64 p0_6, .slice a_p0_7 q_p0_7 c_p0_7], .int .i64 p1, .slice a_p2 q_p2 c_p2] m (fun v _ _ => v = .bool r) := by
  refine Spec_enter Try.func6 rfl rfl rfl (fun w0 => ?_)
  refine WK.sub (e' := [(0, .agg #[.int .i64 p0_0, .int .i64 p0_1, .int .i64 p0_2, .slice a_p0_3 q_p0_3 c_p0_3, .int .i64 p0_4, .int .i64 p0_5, .int .i64 p0_6, .slice a_p0_7 q_p0_7 c_p0_7]), (1, .int .i64 p1), (2, .slice a_p2 q_p2 c_p2)]) ⟨rfl, rfl, rfl, trivial⟩ ?_
  obtain rfl := SlR.qlen h_p0_3
  obtain rfl := SlR.qlen h_p0_7
  obtain rfl := SlR.qlen h_p2
  refine WK.sub (e' := [(0, .agg #[.int .i64 p0_0, .int .i64 p0_1, .int .i64 p0_2, .slice a_p0_3 p0_3.length c_p0_3, .int .i64 p0_4, .int .i64 p0_5, .int .i64 p0_6, .slice a_p0_7 p0_7.length c_p0_7]), (1, .int .i64 p1), (2, .slice a_p2 p2.length c_p2)]) ⟨rfl, rfl, rfl, trivial⟩ ?_
  unfold fiduciallaw44_CensusOrder at hm
  refine WK_seq ?_
  refine WK_region ?_
  refine WO_box [.int .i64 p0_0, .int .i64 p0_1, .int .i64 p0_2, .slice a_p0_3 p0_3.length c_p0_3, .int .i64 p0_4, .int .i64 p0_5, .int .i64 p0_6, .slice a_p0_7 p0_7.length c_p0_7] rfl rfl trivial rfl rfl rfl (fun b4 => ?_)
  refine WO.cls (C' := St w0 m m [[⟨b4, 37, [.int .i64 p0_0, .int .i64 p0_1, .int .i64 p0_2, .slice a_p0_3 p0_3.length c_p0_3, .int .i64 p0_4, .int .i64 p0_5, .int .i64 p0_6, .slice a_p0_7 p0_7.length c_p0_7]⟩]]) (fun _ h => h) ?_
  refine WO_box [.slice a_p2 p2.length c_p2] rfl rfl trivial rfl rfl rfl (fun b5 => ?_)
  refine WO.cls (C' := St w0 m m [[⟨b4, 37, [.int .i64 p0_0, .int .i64 p0_1, .int .i64 p0_2, .slice a_p0_3 p0_3.length c_p0_3, .int .i64 p0_4, .int .i64 p0_5, .int .i64 p0_6, .slice a_p0_7 p0_7.length c_p0_7]⟩], [⟨b5, 47, [.slice a_p2 p2.length c_p2]⟩]]) (fun _ h => h) ?_
  refine WO_pure tbok 1 [(1, .int .i64 p1), (3, .pointer (some ⟨b4, 0, none⟩)), (5, .pointer (some ⟨b5, 0, none⟩)), (6, .bool false)] rfl ⟨rfl, rfl, rfl, rfl, trivial⟩ ?_
  refine WO_end ?_
  refine WK_seq ?_
  refine WK_seq ?_
  refine WK_region ?_
  obtain ⟨y_1, hc6, hm⟩ := bind_some hm
  refine WO_call0 (.bool y_1) rfl rfl trivial rfl rfl rfl rfl St_closed ⟨11, #[], #[], rfl, callable_11, fun w hw => ⟨_, hw.sat, fiduciallaw44_known_walk hc6⟩⟩ ?_
  refine WO_pure tbok 1 [(1, .int .i64 p1), (3, .pointer (some ⟨b4, 0, none⟩)), (5, .pointer (some ⟨b5, 0, none⟩)), (6, .bool false), (17, .bool (!y_1))] rfl ⟨rfl, rfl, rfl, rfl, rfl, trivial⟩ ?_
  refine WO_end ?_
  refine WK_cond (b := !y_1) rfl (fun hb7 => ?_) (fun hb7 => ?_)
  · have hm := ifT hb7 hm
    refine WK_seq ?_
    refine WK_region ?_
    refine WO_pure tbok 1 [(1, .int .i64 p1), (3, .pointer (some ⟨b4, 0, none⟩)), (5, .pointer (some ⟨b5, 0, none⟩)), (6, .bool false)] rfl ⟨rfl, rfl, rfl, rfl, trivial⟩ ?_
    refine WO_end ?_
    cases hm
    exact WK_ret (ret_out (L := []) (RLc_tmp rfl RLc_nil) (List.nil_sublist _) rfl)
  · have hm := ifF hb7 hm
    refine WK_skip ?_
    refine WK_seq ?_
    refine WK_seq ?_
    obtain ⟨s_2, hx8, hm⟩ := bind_some hm
    refine WK_meet [(1, .int .i64 p1), (3, .pointer (some ⟨b4, 0, none⟩)), (5, .pointer (some ⟨b5, 0, none⟩)), (6, .bool false), (41, .bool s_2)] (St w0 m m [[⟨b4, 37, [.int .i64 p0_0, .int .i64 p0_1, .int .i64 p0_2, .slice a_p0_3 p0_3.length c_p0_3, .int .i64 p0_4, .int .i64 p0_5, .int .i64 p0_6, .slice a_p0_7 p0_7.length c_p0_7]⟩], [⟨b5, 47, [.slice a_p2 p2.length c_p2]⟩]]) ?_ (fun hk9 => ?_)
    · refine WK_cond (b := s_2) rfl (fun hb10 => ?_) (fun hb10 => ?_)
      · have hm := ifT hb10 hm
        refine WK_seq ?_
        refine WK_region ?_
        refine WO_pure tbok 1 [(1, .int .i64 p1), (3, .pointer (some ⟨b4, 0, none⟩)), (5, .pointer (some ⟨b5, 0, none⟩)), (6, .bool true)] rfl ⟨rfl, rfl, rfl, rfl, trivial⟩ ?_
        refine WO_end ?_
        cases hm
        exact WK_ret (ret_out (L := []) (RLc_tmp rfl RLc_nil) (List.nil_sublist _) rfl)
      · have hm := ifF hb10 hm
        refine WK_skip ?_
        refine WK_seq ?_
        refine WK_region ?_
        refine WO_pure tbok 2 [(1, .int .i64 p1), (3, .pointer (some ⟨b4, 0, none⟩)), (6, .bool false), (7, .func (.func 25) #[] #[.pointer (some ⟨b5, 0, none⟩)])] rfl ⟨rfl, rfl, rfl, rfl, trivial⟩ ?_
        refine WO_end ?_
        refine WK_seq ?_
        refine WK_region ?_
        refine WO_pure tbok 2 [(1, .int .i64 p1), (3, .pointer (some ⟨b4, 0, none⟩)), (6, .bool false), (43, .func (.func 25) #[] #[.pointer (some ⟨b5, 0, none⟩)]), (44, .pointer (some ⟨b4, 0, none⟩))] rfl ⟨rfl, rfl, rfl, rfl, rfl, trivial⟩ ?_
        refine WO_loadB tbok 0 rfl rfl rfl rfl (fun _ h => h) rfl rfl ?_
        obtain ⟨⟨y_3, y_4, y_5, y_6⟩, hc11, hm⟩ := bind_some hm
        refine WO_call1 (fiduciallaw44_CensusOrder_c1_Q (y_3, y_4, y_5, y_6)) rfl rfl trivial rfl rfl rfl rfl ⟨25, #[], #[.pointer (some ⟨b5, 0, none⟩)], rfl, callable_25, fun w hw => ⟨_, hw.satV, fiduciallaw44_CensusOrder_c1_walk (h_p0_3.mono (mono_FE _) hw.leV) (hw.memV (i := 1) rfl (List.mem_singleton.2 rfl)) (h_p2.mono (mono_FE _) hw.leV) hc11⟩⟩ (fun v16 L15 hq => ?_)
        obtain ⟨a12, qa12, c13, rfl, hL15⟩ := hq
        obtain rfl := OwnE.qlen hL15
        refine WO.cls (C' := St w0 m m [[⟨b4, 37, [.int .i64 p0_0, .int .i64 p0_1, .int .i64 p0_2, .slice a_p0_3 p0_3.length c_p0_3, .int .i64 p0_4, .int .i64 p0_5, .int .i64 p0_6, .slice a_p0_7 p0_7.length c_p0_7]⟩], [⟨b5, 47, [.slice a_p2 p2.length c_p2]⟩], L15]) (fun _ h => h) ?_
        refine WO_alloc tbok [.int .i64 0, .int .i64 0, .int .i64 0, .slice none 0 0] rfl rfl trivial rfl rfl rfl rfl (fun b17 => ?_)
        refine WO.cls (C' := St w0 m m [[⟨b4, 37, [.int .i64 p0_0, .int .i64 p0_1, .int .i64 p0_2, .slice a_p0_3 p0_3.length c_p0_3, .int .i64 p0_4, .int .i64 p0_5, .int .i64 p0_6, .slice a_p0_7 p0_7.length c_p0_7]⟩], [⟨b5, 47, [.slice a_p2 p2.length c_p2]⟩], L15, [⟨b17, 24, [.int .i64 0, .int .i64 0, .int .i64 0, .slice none 0 0]⟩]]) (fun _ h => h) ?_
        refine WO_storeB tbok 3 [.int .i64 y_3, .int .i64 y_4, .int .i64 y_5, .slice a12 ((y_6).length) c13] rfl rfl rfl rfl rfl rfl rfl ?_
        refine WO.cls (C' := St w0 m m [[⟨b4, 37, [.int .i64 p0_0, .int .i64 p0_1, .int .i64 p0_2, .slice a_p0_3 p0_3.length c_p0_3, .int .i64 p0_4, .int .i64 p0_5, .int .i64 p0_6, .slice a_p0_7 p0_7.length c_p0_7]⟩], [⟨b5, 47, [.slice a_p2 p2.length c_p2]⟩], L15, [⟨b17, 24, [.int .i64 y_3, .int .i64 y_4, .int .i64 y_5, .slice a12 ((y_6).length) c13]⟩]]) (fun _ h => h) ?_
        refine WO_end ?_
        refine WK_seq ?_
        refine WK_region ?_
        refine WO_pure tbok 1 [(1, .int .i64 p1), (3, .pointer (some ⟨b4, 0, none⟩)), (6, .bool false), (8, .pointer (some ⟨b17, 0, none⟩)), (48, .pointer (some ⟨b4, 0, none⟩))] rfl ⟨rfl, rfl, rfl, rfl, rfl, trivial⟩ ?_
        refine WO_loadB tbok 0 rfl rfl rfl rfl (fun _ h => h) rfl rfl ?_
        refine WO_pure tbok 1 [(1, .int .i64 p1), (3, .pointer (some ⟨b4, 0, none⟩)), (6, .bool false), (8, .pointer (some ⟨b17, 0, none⟩)), (49, .agg #[.int .i64 p0_0, .int .i64 p0_1, .int .i64 p0_2, .slice a_p0_3 p0_3.length c_p0_3]), (50, .int .i64 p1)] rfl ⟨rfl, rfl, rfl, rfl, rfl, rfl, trivial⟩ ?_
        obtain ⟨⟨y_7, y_8⟩, hc18, hm⟩ := bind_some hm
        refine WO_call1 (census_Transform_Q (y_7, y_8)) rfl rfl trivial rfl rfl rfl rfl ⟨13, #[], #[], rfl, callable_13, fun w hw => ⟨_, hw.sat, census_Transform_walk h_p0_3 hc18⟩⟩ (fun v23 L22 hq => ?_)
        obtain ⟨a19, qa19, c20, rfl, hL22⟩ := hq
        obtain rfl := OwnE.qlen hL22
        refine WO.cls (C' := St w0 m m [[⟨b4, 37, [.int .i64 p0_0, .int .i64 p0_1, .int .i64 p0_2, .slice a_p0_3 p0_3.length c_p0_3, .int .i64 p0_4, .int .i64 p0_5, .int .i64 p0_6, .slice a_p0_7 p0_7.length c_p0_7]⟩], [⟨b5, 47, [.slice a_p2 p2.length c_p2]⟩], L15, [⟨b17, 24, [.int .i64 y_3, .int .i64 y_4, .int .i64 y_5, .slice a12 ((y_6).length) c13]⟩], L22]) (fun _ h => h) ?_
        refine WO_pure tbok 5 [(1, .int .i64 p1), (3, .pointer (some ⟨b4, 0, none⟩)), (6, .bool false), (8, .pointer (some ⟨b17, 0, none⟩)), (9, .slice a19 ((y_7).length) c20), (10, .int .i64 y_8)] rfl ⟨rfl, rfl, rfl, rfl, rfl, rfl, trivial⟩ ?_
        refine WO_end ?_
        refine WK_seq ?_
        refine WK_region ?_
        refine WO_loadB tbok 3 rfl rfl rfl rfl (fun _ h => h) rfl rfl ?_
        refine WO_pure tbok 1 [(1, .int .i64 p1), (3, .pointer (some ⟨b4, 0, none⟩)), (6, .bool false), (8, .pointer (some ⟨b17, 0, none⟩)), (9, .slice a19 ((y_7).length) c20), (10, .int .i64 y_8), (55, .agg #[.int .i64 y_3, .int .i64 y_4, .int .i64 y_5, .slice a12 ((y_6).length) c13]), (56, .int .i64 p1)] rfl ⟨rfl, rfl, rfl, rfl, rfl, rfl, rfl, rfl, trivial⟩ ?_
        obtain ⟨⟨y_9, y_10⟩, hc24, hm⟩ := bind_some hm
        refine WO_call1 (census_Transform_Q (y_9, y_10)) rfl rfl trivial rfl rfl rfl rfl ⟨13, #[], #[], rfl, callable_13, fun w hw => ⟨_, hw.satV, census_Transform_walk (OwnE.rd (E := (I1 .i64)) (k := 1) (fun _ => rfl) hL15 (fun _ hx => hw.memV (i := 2) rfl hx)) hc24⟩⟩ (fun v29 L28 hq => ?_)
        obtain ⟨a25, qa25, c26, rfl, hL28⟩ := hq
        obtain rfl := OwnE.qlen hL28
        refine WO.cls (C' := St w0 m m [[⟨b4, 37, [.int .i64 p0_0, .int .i64 p0_1, .int .i64 p0_2, .slice a_p0_3 p0_3.length c_p0_3, .int .i64 p0_4, .int .i64 p0_5, .int .i64 p0_6, .slice a_p0_7 p0_7.length c_p0_7]⟩], [⟨b5, 47, [.slice a_p2 p2.length c_p2]⟩], L15, [⟨b17, 24, [.int .i64 y_3, .int .i64 y_4, .int .i64 y_5, .slice a12 ((y_6).length) c13]⟩], L22, L28]) (fun _ h => h) ?_
        refine WO_pure tbok 5 [(1, .int .i64 p1), (3, .pointer (some ⟨b4, 0, none⟩)), (6, .bool false), (8, .pointer (some ⟨b17, 0, none⟩)), (9, .slice a19 ((y_7).length) c20), (10, .int .i64 y_8), (11, .slice a25 ((y_9).length) c26), (12, .int .i64 y_10)] rfl ⟨rfl, rfl, rfl, rfl, rfl, rfl, rfl, rfl, trivial⟩ ?_
        refine WO_end ?_
        refine WK_seq ?_
        refine WK_seq ?_
        obtain ⟨s_11, hx30, hm⟩ := bind_some hm
        refine WK_meet [(1, .int .i64 p1), (3, .pointer (some ⟨b4, 0, none⟩)), (6, .bool false), (8, .pointer (some ⟨b17, 0, none⟩)), (68, .bool s_11)] (St w0 m m [[⟨b4, 37, [.int .i64 p0_0, .int .i64 p0_1, .int .i64 p0_2, .slice a_p0_3 p0_3.length c_p0_3, .int .i64 p0_4, .int .i64 p0_5, .int .i64 p0_6, .slice a_p0_7 p0_7.length c_p0_7]⟩], [⟨b5, 47, [.slice a_p2 p2.length c_p2]⟩], L15, [⟨b17, 24, [.int .i64 y_3, .int .i64 y_4, .int .i64 y_5, .slice a12 ((y_6).length) c13]⟩], L22, L28]) ?_ (fun hk31 => ?_)
        · refine WK_cond (b := s_11) rfl (fun hb32 => ?_) (fun hb32 => ?_)
          · have hm := ifT hb32 hm
            refine WK_seq ?_
            refine WK_region ?_
            refine WO_pure tbok 1 [(1, .int .i64 p1), (3, .pointer (some ⟨b4, 0, none⟩)), (6, .bool false), (8, .pointer (some ⟨b17, 0, none⟩))] rfl ⟨rfl, rfl, rfl, rfl, trivial⟩ ?_
            refine WO_end ?_
            cases hm
            exact WK_ret (ret_out (L := []) (RLc_tmp rfl RLc_nil) (List.nil_sublist _) rfl)
          · have hm := ifF hb32 hm
            refine WK_skip ?_
            refine WK_seq ?_
            refine WK_region ?_
            refine WO_pure tbok 1 [(1, .int .i64 p1), (3, .pointer (some ⟨b4, 0, none⟩)), (6, .bool false), (8, .pointer (some ⟨b17, 0, none⟩)), (69, .pointer (some ⟨b4, 4, none⟩))] rfl ⟨rfl, rfl, rfl, rfl, rfl, trivial⟩ ?_
            refine WO_loadB tbok 0 rfl rfl rfl rfl (fun _ h => h) rfl rfl ?_
            refine WO_alloc tbok [.int .i64 0, .int .i64 0, .int .i64 0, .slice none 0 0] rfl rfl trivial rfl rfl rfl rfl (fun b33 => ?_)
            refine WO.cls (C' := St w0 m m [[⟨b4, 37, [.int .i64 p0_0, .int .i64 p0_1, .int .i64 p0_2, .slice a_p0_3 p0_3.length c_p0_3, .int .i64 p0_4, .int .i64 p0_5, .int .i64 p0_6, .slice a_p0_7 p0_7.length c_p0_7]⟩], [⟨b5, 47, [.slice a_p2 p2.length c_p2]⟩], L15, [⟨b17, 24, [.int .i64 y_3, .int .i64 y_4, .int .i64 y_5, .slice a12 ((y_6).length) c13]⟩], L22, L28, [⟨b33, 24, [.int .i64 0, .int .i64 0, .int .i64 0, .slice none 0 0]⟩]]) (fun _ h => h) ?_
            refine WO_storeB tbok 6 [.int .i64 p0_4, .int .i64 p0_5, .int .i64 p0_6, .slice a_p0_7 p0_7.length c_p0_7] rfl rfl rfl rfl rfl rfl rfl ?_
            refine WO.cls (C' := St w0 m m [[⟨b4, 37, [.int .i64 p0_0, .int .i64 p0_1, .int .i64 p0_2, .slice a_p0_3 p0_3.length c_p0_3, .int .i64 p0_4, .int .i64 p0_5, .int .i64 p0_6, .slice a_p0_7 p0_7.length c_p0_7]⟩], [⟨b5, 47, [.slice a_p2 p2.length c_p2]⟩], L15, [⟨b17, 24, [.int .i64 y_3, .int .i64 y_4, .int .i64 y_5, .slice a12 ((y_6).length) c13]⟩], L22, L28, [⟨b33, 24, [.int .i64 p0_4, .int .i64 p0_5, .int .i64 p0_6, .slice a_p0_7 p0_7.length c_p0_7]⟩]]) (fun _ h => h) ?_
            refine WO_end ?_
            refine WK_seq ?_
            refine WK_region ?_
            refine WO_pure tbok 1 [(1, .int .i64 p1), (3, .pointer (some ⟨b4, 0, none⟩)), (6, .bool false), (8, .pointer (some ⟨b17, 0, none⟩)), (13, .pointer (some ⟨b33, 0, none⟩)), (71, .pointer (some ⟨b33, 2, none⟩))] rfl ⟨rfl, rfl, rfl, rfl, rfl, rfl, trivial⟩ ?_
            refine WO_storeB tbok 6 [.int .i64 p0_4, .int .i64 p0_5, .int .i64 65535, .slice a_p0_7 p0_7.length c_p0_7] rfl rfl rfl rfl rfl rfl rfl ?_
            refine WO.cls (C' := St w0 m m [[⟨b4, 37, [.int .i64 p0_0, .int .i64 p0_1, .int .i64 p0_2, .slice a_p0_3 p0_3.length c_p0_3, .int .i64 p0_4, .int .i64 p0_5, .int .i64 p0_6, .slice a_p0_7 p0_7.length c_p0_7]⟩], [⟨b5, 47, [.slice a_p2 p2.length c_p2]⟩], L15, [⟨b17, 24, [.int .i64 y_3, .int .i64 y_4, .int .i64 y_5, .slice a12 ((y_6).length) c13]⟩], L22, L28, [⟨b33, 24, [.int .i64 p0_4, .int .i64 p0_5, .int .i64 65535, .slice a_p0_7 p0_7.length c_p0_7]⟩]]) (fun _ h => h) ?_
            refine WO_end ?_
            refine WK_seq ?_
            refine WK_region ?_
            refine WO_pure tbok 1 [(1, .int .i64 p1), (3, .pointer (some ⟨b4, 0, none⟩)), (6, .bool false), (8, .pointer (some ⟨b17, 0, none⟩)), (13, .pointer (some ⟨b33, 0, none⟩)), (73, .pointer (some ⟨b4, 0, none⟩))] rfl ⟨rfl, rfl, rfl, rfl, rfl, rfl, trivial⟩ ?_
            refine WO_loadB tbok 0 rfl rfl rfl rfl (fun _ h => h) rfl rfl ?_
            refine WO_pure tbok 1 [(1, .int .i64 p1), (6, .bool false), (8, .pointer (some ⟨b17, 0, none⟩)), (13, .pointer (some ⟨b33, 0, none⟩)), (74, .agg #[.int .i64 p0_0, .int .i64 p0_1, .int .i64 p0_2, .slice a_p0_3 p0_3.length c_p0_3]), (75, .pointer (some ⟨b4, 4, none⟩))] rfl ⟨rfl, rfl, rfl, rfl, rfl, rfl, trivial⟩ ?_
            refine WO_loadB tbok 0 rfl rfl rfl rfl (fun _ h => h) rfl rfl ?_
            refine WO_pure tbok 1 [(1, .int .i64 p1), (6, .bool false), (8, .pointer (some ⟨b17, 0, none⟩)), (13, .pointer (some ⟨b33, 0, none⟩)), (74, .agg #[.int .i64 p0_0, .int .i64 p0_1, .int .i64 p0_2, .slice a_p0_3 p0_3.length c_p0_3]), (76, .agg #[.int .i64 p0_4, .int .i64 p0_5, .int .i64 p0_6, .slice a_p0_7 p0_7.length c_p0_7]), (77, .int .i64 p1)] rfl ⟨rfl, rfl, rfl, rfl, rfl, rfl, rfl, trivial⟩ ?_
            obtain ⟨⟨y_12, y_13, y_14, y_15, y_16⟩, hc34, hm⟩ := bind_some hm
            refine WO_call1 (census_Census_Q (y_12, y_13, y_14, y_15, y_16)) rfl rfl trivial rfl rfl rfl rfl ⟨22, #[], #[], rfl, callable_22, fun w hw => ⟨_, hw.sat, census_Census_walk h_p0_3 h_p0_7 hc34⟩⟩ (fun v39 L38 hq => ?_)
            obtain ⟨a35, qa35, c36, rfl, hL38⟩ := hq
            obtain rfl := OwnE.qlen hL38
            refine WO.cls (C' := St w0 m m [[⟨b4, 37, [.int .i64 p0_0, .int .i64 p0_1, .int .i64 p0_2, .slice a_p0_3 p0_3.length c_p0_3, .int .i64 p0_4, .int .i64 p0_5, .int .i64 p0_6, .slice a_p0_7 p0_7.length c_p0_7]⟩], [⟨b5, 47, [.slice a_p2 p2.length c_p2]⟩], L15, [⟨b17, 24, [.int .i64 y_3, .int .i64 y_4, .int .i64 y_5, .slice a12 ((y_6).length) c13]⟩], L22, L28, [⟨b33, 24, [.int .i64 p0_4, .int .i64 p0_5, .int .i64 65535, .slice a_p0_7 p0_7.length c_p0_7]⟩], L38]) (fun _ h => h) ?_
            refine WO_pure tbok 3 [(1, .int .i64 p1), (6, .bool false), (8, .pointer (some ⟨b17, 0, none⟩)), (13, .pointer (some ⟨b33, 0, none⟩)), (79, .agg #[.int .i64 y_12, .int .i64 y_13, .int .i64 y_14, .slice a35 ((y_15).length) c36]), (80, .int .i64 y_16)] rfl ⟨rfl, rfl, rfl, rfl, rfl, rfl, trivial⟩ ?_
            refine WO_alloc tbok [.int .i64 0, .int .i64 0, .int .i64 0, .slice none 0 0] rfl rfl trivial rfl rfl rfl rfl (fun b40 => ?_)
            refine WO.cls (C' := St w0 m m [[⟨b4, 37, [.int .i64 p0_0, .int .i64 p0_1, .int .i64 p0_2, .slice a_p0_3 p0_3.length c_p0_3, .int .i64 p0_4, .int .i64 p0_5, .int .i64 p0_6, .slice a_p0_7 p0_7.length c_p0_7]⟩], [⟨b5, 47, [.slice a_p2 p2.length c_p2]⟩], L15, [⟨b17, 24, [.int .i64 y_3, .int .i64 y_4, .int .i64 y_5, .slice a12 ((y_6).length) c13]⟩], L22, L28, [⟨b33, 24, [.int .i64 p0_4, .int .i64 p0_5, .int .i64 65535, .slice a_p0_7 p0_7.length c_p0_7]⟩], L38, [⟨b40, 39, [.int .i64 0, .int .i64 0, .int .i64 0, .slice none 0 0]⟩]]) (fun _ h => h) ?_
            refine WO_storeB tbok 8 [.int .i64 y_12, .int .i64 y_13, .int .i64 y_14, .slice a35 ((y_15).length) c36] rfl rfl rfl rfl rfl rfl rfl ?_
            refine WO.cls (C' := St w0 m m [[⟨b4, 37, [.int .i64 p0_0, .int .i64 p0_1, .int .i64 p0_2, .slice a_p0_3 p0_3.length c_p0_3, .int .i64 p0_4, .int .i64 p0_5, .int .i64 p0_6, .slice a_p0_7 p0_7.length c_p0_7]⟩], [⟨b5, 47, [.slice a_p2 p2.length c_p2]⟩], L15, [⟨b17, 24, [.int .i64 y_3, .int .i64 y_4, .int .i64 y_5, .slice a12 ((y_6).length) c13]⟩], L22, L28, [⟨b33, 24, [.int .i64 p0_4, .int .i64 p0_5, .int .i64 65535, .slice a_p0_7 p0_7.length c_p0_7]⟩], L38, [⟨b40, 39, [.int .i64 y_12, .int .i64 y_13, .int .i64 y_14, .slice a35 ((y_15).length) c36]⟩]]) (fun _ h => h) ?_
            refine WO_pure tbok 1 [(1, .int .i64 p1), (6, .bool false), (8, .pointer (some ⟨b17, 0, none⟩)), (10, .int .i64 y_16), (13, .pointer (some ⟨b33, 0, none⟩)), (14, .pointer (some ⟨b40, 0, none⟩))] rfl ⟨rfl, rfl, rfl, rfl, rfl, rfl, trivial⟩ ?_
            refine WO_end ?_
            refine WK_seq ?_
            refine WK_region ?_
            refine WO_loadB tbok 3 rfl rfl rfl rfl (fun _ h => h) rfl rfl ?_
            refine WO_loadB tbok 6 rfl rfl rfl rfl (fun _ h => h) rfl rfl ?_
            refine WO_pure tbok 1 [(6, .bool false), (10, .int .i64 y_16), (14, .pointer (some ⟨b40, 0, none⟩)), (82, .agg #[.int .i64 y_3, .int .i64 y_4, .int .i64 y_5, .slice a12 ((y_6).length) c13]), (83, .agg #[.int .i64 p0_4, .int .i64 p0_5, .int .i64 65535, .slice a_p0_7 p0_7.length c_p0_7]), (84, .int .i64 p1)] rfl ⟨rfl, rfl, rfl, rfl, rfl, rfl, trivial⟩ ?_
            obtain ⟨⟨y_17, y_18, y_19, y_20, y_21⟩, hc41, hm⟩ := bind_some hm
            refine WO_call1 (census_Census_Q (y_17, y_18, y_19, y_20, y_21)) rfl rfl trivial rfl rfl rfl rfl ⟨22, #[], #[], rfl, callable_22, fun w hw => ⟨_, hw.satV, census_Census_walk (OwnE.rd (E := (I1 .i64)) (k := 1) (fun _ => rfl) hL15 (fun _ hx => hw.memV (i := 2) rfl hx)) (h_p0_7.mono (mono_FE _) hw.leV) hc41⟩⟩ (fun v46 L45 hq => ?_)
            obtain ⟨a42, qa42, c43, rfl, hL45⟩ := hq
            obtain rfl := OwnE.qlen hL45
            refine WO.cls (C' := St w0 m m [[⟨b4, 37, [.int .i64 p0_0, .int .i64 p0_1, .int .i64 p0_2, .slice a_p0_3 p0_3.length c_p0_3, .int .i64 p0_4, .int .i64 p0_5, .int .i64 p0_6, .slice a_p0_7 p0_7.length c_p0_7]⟩], [⟨b5, 47, [.slice a_p2 p2.length c_p2]⟩], L15, [⟨b17, 24, [.int .i64 y_3, .int .i64 y_4, .int .i64 y_5, .slice a12 ((y_6).length) c13]⟩], L22, L28, [⟨b33, 24, [.int .i64 p0_4, .int .i64 p0_5, .int .i64 65535, .slice a_p0_7 p0_7.length c_p0_7]⟩], L38, [⟨b40, 39, [.int .i64 y_12, .int .i64 y_13, .int .i64 y_14, .slice a35 ((y_15).length) c36]⟩], L45]) (fun _ h => h) ?_
            refine WO_pure tbok 3 [(6, .bool false), (10, .int .i64 y_16), (14, .pointer (some ⟨b40, 0, none⟩)), (86, .agg #[.int .i64 y_17, .int .i64 y_18, .int .i64 y_19, .slice a42 ((y_20).length) c43]), (87, .int .i64 y_21)] rfl ⟨rfl, rfl, rfl, rfl, rfl, trivial⟩ ?_
            refine WO_alloc tbok [.int .i64 0, .int .i64 0, .int .i64 0, .slice none 0 0] rfl rfl trivial rfl rfl rfl rfl (fun b47 => ?_)
            refine WO.cls (C' := St w0 m m [[⟨b4, 37, [.int .i64 p0_0, .int .i64 p0_1, .int .i64 p0_2, .slice a_p0_3 p0_3.length c_p0_3, .int .i64 p0_4, .int .i64 p0_5, .int .i64 p0_6, .slice a_p0_7 p0_7.length c_p0_7]⟩], [⟨b5, 47, [.slice a_p2 p2.length c_p2]⟩], L15, [⟨b17, 24, [.int .i64 y_3, .int .i64 y_4, .int .i64 y_5, .slice a12 ((y_6).length) c13]⟩], L22, L28, [⟨b33, 24, [.int .i64 p0_4, .int .i64 p0_5, .int .i64 65535, .slice a_p0_7 p0_7.length c_p0_7]⟩], L38, [⟨b40, 39, [.int .i64 y_12, .int .i64 y_13, .int .i64 y_14, .slice a35 ((y_15).length) c36]⟩], L45, [⟨b47, 39, [.int .i64 0, .int .i64 0, .int .i64 0, .slice none 0 0]⟩]]) (fun _ h => h) ?_
            refine WO_storeB tbok 10 [.int .i64 y_17, .int .i64 y_18, .int .i64 y_19, .slice a42 ((y_20).length) c43] rfl rfl rfl rfl rfl rfl rfl ?_
            refine WO.cls (C' := St w0 m m [[⟨b4, 37, [.int .i64 p0_0, .int .i64 p0_1, .int .i64 p0_2, .slice a_p0_3 p0_3.length c_p0_3, .int .i64 p0_4, .int .i64 p0_5, .int .i64 p0_6, .slice a_p0_7 p0_7.length c_p0_7]⟩], [⟨b5, 47, [.slice a_p2 p2.length c_p2]⟩], L15, [⟨b17, 24, [.int .i64 y_3, .int .i64 y_4, .int .i64 y_5, .slice a12 ((y_6).length) c13]⟩], L22, L28, [⟨b33, 24, [.int .i64 p0_4, .int .i64 p0_5, .int .i64 65535, .slice a_p0_7 p0_7.length c_p0_7]⟩], L38, [⟨b40, 39, [.int .i64 y_12, .int .i64 y_13, .int .i64 y_14, .slice a35 ((y_15).length) c36]⟩], L45, [⟨b47, 39, [.int .i64 y_17, .int .i64 y_18, .int .i64 y_19, .slice a42 ((y_20).length) c43]⟩]]) (fun _ h => h) ?_
            refine WO_pure tbok 1 [(6, .bool false), (10, .int .i64 y_16), (12, .int .i64 y_21), (14, .pointer (some ⟨b40, 0, none⟩)), (15, .pointer (some ⟨b47, 0, none⟩))] rfl ⟨rfl, rfl, rfl, rfl, rfl, trivial⟩ ?_
            refine WO_end ?_
            refine WK_seq ?_
            refine WK_region ?_
            refine WO_pure tbok 4 [(6, .bool false), (14, .pointer (some ⟨b40, 0, none⟩)), (15, .pointer (some ⟨b47, 0, none⟩)), (91, .bool (y_16 == y_21))] rfl ⟨rfl, rfl, rfl, rfl, trivial⟩ ?_
            refine WO_split (d := 91) (b := y_16 == y_21) rfl (fun hb48 => ?_) (fun hb48 => ?_)
            · have hm := ifT hb48 hm
              refine WO_loadB tbok 8 rfl rfl rfl rfl (fun _ h => h) rfl rfl ?_
              refine WO_loadB tbok 10 rfl rfl rfl rfl (fun _ h => h) rfl rfl ?_
              obtain ⟨y_22, hc49, hm⟩ := bind_some hm
              refine WO_call0 (.bool y_22) rfl rfl trivial rfl rfl rfl rfl St_closed ⟨20, #[], #[], rfl, callable_20, fun w hw => ⟨_, hw.satV, fiduciallaw44_same_walk (OwnE.rd (E := (I1 .i64)) (k := 1) (fun _ => rfl) hL38 (fun _ hx => hw.memV (i := 7) rfl hx)) (OwnE.rd (E := (I1 .i64)) (k := 1) (fun _ => rfl) hL45 (fun _ hx => hw.memV (i := 9) rfl hx)) hc49⟩⟩ ?_
              refine WO_pure tbok 2 [(6, .bool y_22)] rfl ⟨rfl, trivial⟩ ?_
              refine WO_end ?_
              cases hm
              exact WK_ret (ret_out (L := []) (RLc_tmp rfl RLc_nil) (List.nil_sublist _) rfl)
            · have hm := ifF hb48 hm
              refine WO_pure tbok 2 [(6, .bool false), (91, .bool false)] rfl ⟨rfl, rfl, trivial⟩ ?_
              refine WO_skip rfl rfl ?_
              refine WO_pure tbok 2 [(6, .bool false)] rfl ⟨rfl, trivial⟩ ?_
              refine WO_end ?_
              cases hm
              exact WK_ret (ret_out (L := []) (RLc_tmp rfl RLc_nil) (List.nil_sublist _) rfl)
        · refine WK_region ?_
          refine WO_pure tbok 4 [(1, .int .i64 p1), (3, .pointer (some ⟨b4, 0, none⟩)), (6, .bool false), (8, .pointer (some ⟨b17, 0, none⟩)), (9, .slice a19 ((y_7).length) c20), (11, .slice a25 ((y_9).length) c26), (63, .bool (y_8 != y_10))] rfl ⟨rfl, rfl, rfl, rfl, rfl, rfl, rfl, trivial⟩ ?_
          refine WO_split (d := 63) (b := y_8 != y_10) rfl (fun hb50 => ?_) (fun hb50 => ?_)
          · have hx30 := ifT hb50 hx30
            refine WO_pure tbok 2 [(1, .int .i64 p1), (3, .pointer (some ⟨b4, 0, none⟩)), (6, .bool false), (8, .pointer (some ⟨b17, 0, none⟩)), (63, .bool true)] rfl ⟨rfl, rfl, rfl, rfl, rfl, trivial⟩ ?_
            refine WO_skip rfl rfl ?_
            refine WO_pure tbok 2 [(1, .int .i64 p1), (3, .pointer (some ⟨b4, 0, none⟩)), (6, .bool false), (8, .pointer (some ⟨b17, 0, none⟩)), (68, .bool true)] rfl ⟨rfl, rfl, rfl, rfl, rfl, trivial⟩ ?_
            refine WO_end ?_
            cases hx30
            refine WK.sub ?_ (WK.cls (fun _ h => h) hk31)
            exact ⟨rfl, rfl, rfl, rfl, rfl, trivial⟩
          · have hx30 := ifF hb50 hx30
            refine WO_pure tbok 2 [(1, .int .i64 p1), (3, .pointer (some ⟨b4, 0, none⟩)), (6, .bool false), (8, .pointer (some ⟨b17, 0, none⟩)), (63, .bool false), (64, .slice a19 ((y_7).length) c20), (65, .slice a25 ((y_9).length) c26)] rfl ⟨rfl, rfl, rfl, rfl, rfl, rfl, rfl, trivial⟩ ?_
            obtain ⟨y_23, hc51, hx30⟩ := bind_some hx30
            refine WO_call0 (.bool y_23) rfl rfl trivial rfl rfl rfl rfl St_closed ⟨15, #[], #[], rfl, callable_15, fun w hw => ⟨_, hw.satV, slices_Equal_sint_walk (OwnE.rd (E := (I1 .i64)) (k := 1) (fun _ => rfl) hL22 (fun _ hx => hw.memV (i := 4) rfl hx)) (OwnE.rd (E := (I1 .i64)) (k := 1) (fun _ => rfl) hL28 (fun _ hx => hw.memV (i := 5) rfl hx)) hc51⟩⟩ ?_
            refine WO_pure tbok 2 [(1, .int .i64 p1), (3, .pointer (some ⟨b4, 0, none⟩)), (6, .bool false), (8, .pointer (some ⟨b17, 0, none⟩)), (68, .bool (!y_23))] rfl ⟨rfl, rfl, rfl, rfl, rfl, trivial⟩ ?_
            refine WO_end ?_
            cases hx30
            refine WK.sub ?_ (WK.cls (fun _ h => h) hk31)
            exact ⟨rfl, rfl, rfl, rfl, rfl, trivial⟩
    · refine WK_region ?_
      refine WO_pure tbok 2 [(1, .int .i64 p1), (3, .pointer (some ⟨b4, 0, none⟩)), (5, .pointer (some ⟨b5, 0, none⟩)), (6, .bool false), (19, .pointer (some ⟨b4, 3, none⟩))] rfl ⟨rfl, rfl, rfl, rfl, rfl, trivial⟩ ?_
      refine WO_loadB tbok 0 rfl rfl rfl rfl (fun _ h => h) rfl rfl ?_
      refine WO_pure tbok 3 [(1, .int .i64 p1), (3, .pointer (some ⟨b4, 0, none⟩)), (5, .pointer (some ⟨b5, 0, none⟩)), (6, .bool false), (23, .bool (decide (120 < (p0_3.length : Int))))] rfl ⟨rfl, rfl, rfl, rfl, rfl, trivial⟩ ?_
      refine WO_split (d := 23) (b := decide (120 < (p0_3.length : Int))) rfl (fun hb52 => ?_) (fun hb52 => ?_)
      · have hx8 := ifT hb52 hx8
        refine WO_pure tbok 4 [(1, .int .i64 p1), (3, .pointer (some ⟨b4, 0, none⟩)), (5, .pointer (some ⟨b5, 0, none⟩)), (6, .bool false), (23, .bool true)] rfl ⟨rfl, rfl, rfl, rfl, rfl, trivial⟩ ?_
        refine WO_skip rfl rfl ?_
        refine WO_pure tbok 13 [(1, .int .i64 p1), (3, .pointer (some ⟨b4, 0, none⟩)), (5, .pointer (some ⟨b5, 0, none⟩)), (6, .bool false), (41, .bool true)] rfl ⟨rfl, rfl, rfl, rfl, rfl, trivial⟩ ?_
        refine WO_end ?_
        cases hx8
        refine WK.sub ?_ (WK.cls (fun _ h => h) hk9)
        exact ⟨rfl, rfl, rfl, rfl, rfl, trivial⟩
      · have hx8 := ifF hb52 hx8
        refine WO_pure tbok 1 [(1, .int .i64 p1), (3, .pointer (some ⟨b4, 0, none⟩)), (5, .pointer (some ⟨b5, 0, none⟩)), (6, .bool false), (23, .bool false), (24, .pointer (some ⟨b4, 0, none⟩))] rfl ⟨rfl, rfl, rfl, rfl, rfl, rfl, trivial⟩ ?_
        refine WO_loadB tbok 0 rfl rfl rfl rfl (fun _ h => h) rfl rfl ?_
        refine WO_pure tbok 1 [(1, .int .i64 p1), (3, .pointer (some ⟨b4, 0, none⟩)), (5, .pointer (some ⟨b5, 0, none⟩)), (6, .bool false), (23, .bool false), (25, .agg #[.int .i64 p0_0, .int .i64 p0_1, .int .i64 p0_2, .slice a_p0_3 p0_3.length c_p0_3]), (26, .pointer (some ⟨b4, 4, none⟩))] rfl ⟨rfl, rfl, rfl, rfl, rfl, rfl, rfl, trivial⟩ ?_
        refine WO_loadB tbok 0 rfl rfl rfl rfl (fun _ h => h) rfl rfl ?_
        obtain ⟨y_24, hc53, hx8⟩ := bind_some hx8
        refine WO_call0 (.int .i64 y_24) rfl rfl trivial rfl rfl rfl rfl St_closed ⟨24, #[], #[], rfl, callable_24, fun w hw => ⟨_, hw.sat, fiduciallaw44_both_walk h_p0_3 h_p0_7 hc53⟩⟩ ?_
        refine WO_pure tbok 3 [(1, .int .i64 p1), (3, .pointer (some ⟨b4, 0, none⟩)), (5, .pointer (some ⟨b5, 0, none⟩)), (6, .bool false), (31, .bool (y_24 != 0))] rfl ⟨rfl, rfl, rfl, rfl, rfl, trivial⟩ ?_
        refine WO_split (d := 31) (b := y_24 != 0) rfl (fun hb54 => ?_) (fun hb54 => ?_)
        · have hx8 := ifT hb54 hx8
          refine WO_pure tbok 10 [(1, .int .i64 p1), (3, .pointer (some ⟨b4, 0, none⟩)), (5, .pointer (some ⟨b5, 0, none⟩)), (6, .bool false), (41, .bool true)] rfl ⟨rfl, rfl, rfl, rfl, rfl, trivial⟩ ?_
          refine WO_end ?_
          cases hx8
          refine WK.sub ?_ (WK.cls (fun _ h => h) hk9)
          exact ⟨rfl, rfl, rfl, rfl, rfl, trivial⟩
        · have hx8 := ifF hb54 hx8
          refine WO_pure tbok 2 [(1, .int .i64 p1), (3, .pointer (some ⟨b4, 0, none⟩)), (5, .pointer (some ⟨b5, 0, none⟩)), (6, .bool false), (31, .bool false), (33, .pointer (some ⟨b4, 2, none⟩))] rfl ⟨rfl, rfl, rfl, rfl, rfl, rfl, trivial⟩ ?_
          refine WO_loadB tbok 0 rfl rfl rfl rfl (fun _ h => h) rfl rfl ?_
          refine WO_pure tbok 3 [(1, .int .i64 p1), (3, .pointer (some ⟨b4, 0, none⟩)), (5, .pointer (some ⟨b5, 0, none⟩)), (6, .bool false), (37, .bool (decide (200 < p0_2)))] rfl ⟨rfl, rfl, rfl, rfl, rfl, trivial⟩ ?_
          refine WO_split (d := 37) (b := decide (200 < p0_2)) rfl (fun hb55 => ?_) (fun hb55 => ?_)
          · have hx8 := ifT hb55 hx8
            refine WO_pure tbok 4 [(1, .int .i64 p1), (3, .pointer (some ⟨b4, 0, none⟩)), (5, .pointer (some ⟨b5, 0, none⟩)), (6, .bool false), (41, .bool true)] rfl ⟨rfl, rfl, rfl, rfl, rfl, trivial⟩ ?_
            refine WO_end ?_
            cases hx8
            refine WK.sub ?_ (WK.cls (fun _ h => h) hk9)
            exact ⟨rfl, rfl, rfl, rfl, rfl, trivial⟩
          · have hx8 := ifF hb55 hx8
            refine WO_loadB tbok 1 rfl rfl rfl rfl (fun _ h => h) rfl rfl ?_
            refine WO_pure tbok 3 [(1, .int .i64 p1), (3, .pointer (some ⟨b4, 0, none⟩)), (5, .pointer (some ⟨b5, 0, none⟩)), (6, .bool false), (41, .bool (decide (300 < (p2.length : Int))))] rfl ⟨rfl, rfl, rfl, rfl, rfl, trivial⟩ ?_
            refine WO_end ?_
            cases hx8
            refine WK.sub ?_ (WK.cls (fun _ h => h) hk9)
            exact ⟨rfl, rfl, rfl, rfl, rfl, trivial⟩
end Go.Proofs.Ytmeopehknkfnbaa
